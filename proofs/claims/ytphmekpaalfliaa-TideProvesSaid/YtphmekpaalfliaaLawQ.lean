/- Prove and CheckProof: what they compute. Conditions: none. -/
import Derived.Test.YtphmekpaalfliaaLawP
set_option linter.unusedVariables false
namespace Go.Mx

theorem lp_span2 {τ σ ρ : Type} {body : σ → Option (σ ⊕ ρ)} {lo hi : Int} (h1 : lo ≤ hi + 1) (h2 : hi - lo ≤ 4611686018427387904) (st : τ → Int → σ) (F : τ → Int → ρ) (J : Int → τ → Prop) {a : τ} {s0 : σ} (e0 : s0 = st a lo) (h0 : J lo a)
    (step : ∀ a t, lo ≤ t → t ≤ hi → J t a → (∃ a', body (st a t) = some (.inl (st a' (t + 1))) ∧ F a t = F a' (t + 1) ∧ J (t + 1) a') ∨ body (st a t) = some (.inr (F a t)))
    (last : ∀ a, J (hi + 1) a → body (st a (hi + 1)) = some (.inr (F a (hi + 1)))) : Lp body fuel s0 = some (F a lo) := by
  suffices h : ∃ r, Lp body fuel s0 = some r ∧ r = F a lo by obtain ⟨r, h, rfl⟩ := h; exact h
  refine lp_inv' (fun i s => ∃ b, s = st b (lo + i) ∧ F a lo = F b (lo + i) ∧ J (lo + i) b) _ (hi + 1 - lo).toNat (by omega) ⟨a, by simpa using e0, by simp, by simpa using h0⟩ fun i s hi' hI => ?_
  obtain ⟨b, rfl, q1, q2⟩ := hI
  by_cases h : lo + i ≤ hi
  · rcases step b (lo + i) (by omega) h q2 with ⟨a', p1, p2, p3⟩ | p1
    · refine .inl ⟨by omega, _, p1, a', ?_, ?_, ?_⟩
      · congr 1; omega
      · rw [q1, p2]; congr 1; omega
      · rw [show lo + ((i + 1 : Nat) : Int) = lo + i + 1 by omega]; exact p3
    · exact .inr ⟨_, p1, q1.symm⟩
  · have e : lo + (i : Int) = hi + 1 := by omega
    rw [e] at q1 q2 ⊢
    exact .inr ⟨_, last b q2, q1.symm⟩

/-! ### One minute more -/

theorem mapOpt_of {α β : Type} {f : α → Option β} : ∀ {l : List α} {r : List β}, r.length = l.length → (∀ (i : Nat) x y, l[i]? = some x → r[i]? = some y → f x = some y) → mapOpt f l = some r
  | [], [], _, _ => rfl
  | [], _ :: _, h, _ => by simp at h
  | _ :: _, [], h, _ => by simp at h
  | a :: l, b :: r, h, hf => by
    have h0 := hf 0 a b (by simp) (by simp)
    have ih := mapOpt_of (f := f) (l := l) (r := r) (by simpa using h) (fun i x y h1 h2 => hf (i + 1) x y (by simpa using h1) (by simpa using h2))
    simp [mapOpt, h0, ih]

theorem lookI_zip : ∀ (v : List Int) (a : Nat) (j : Nat), a ≤ j → lookI (((List.range' a v.length).map fun (i : Nat) => (i : Int) - 1).zip v) ((j : Int) - 1) = v[j - a]?
  | [], a, j, _ => by simp [lookI]
  | x :: v, a, j, h => by
    simp only [List.length_cons, List.range'_succ, List.map_cons, List.zip_cons_cons, lookI]
    by_cases e : j = a
    · subst e; simp
    · rw [if_neg (by omega), lookI_zip v (a + 1) j (by omega), show j - a = (j - (a + 1)) + 1 by omega]
      simp

/-- Values that parts may have. -/
def OkV (w : api_Water) (v : List Int) : Prop := v.length = w.Cycles.length + 1 ∧ ∀ x ∈ v, -4000 ≤ x ∧ x ≤ 4000
def stp (w : api_Water) (t : Int) : Option (List Int) → List Int
  | none => pv w t
  | some v => vmin (pv w t) v
def low (w : api_Water) (o : Option (List Int)) : Option (List (Int × Int)) := o.map (tide_partKeys w).zip

theorem pv_ok {w : api_Water} (hw : GoodW w) (t : Int) : OkV w (pv w t) := ⟨pv_len w t, fun x hx => by
  rcases List.mem_cons.1 hx with rfl | hx
  · exact corr_bound w.Shifts t hw.ss
  · obtain ⟨c, hc, rfl⟩ := List.mem_map.1 hx
    exact val_bound (hw.cs c hc) t⟩
theorem vmin_ok {w : api_Water} {a b : List Int} (ha : OkV w a) (hb : OkV w b) : OkV w (vmin a b) := ⟨by rw [vmin_len (ha.1.trans hb.1.symm)]; exact ha.1, fun x hx => by
  unfold vmin at hx
  obtain ⟨i, hi, e⟩ := List.mem_iff_getElem.1 hx
  rw [List.getElem_zipWith] at e
  simp only [List.length_zipWith] at hi
  have h1 := ha.2 a[i] (List.getElem_mem (by omega))
  have h2 := hb.2 b[i] (List.getElem_mem (by omega))
  omega⟩
theorem stp_ok {w : api_Water} (hw : GoodW w) {o : Option (List Int)} (ho : ∀ v, o = some v → OkV w v) (t : Int) : OkV w (stp w t o) := by
  cases o with
  | none => exact pv_ok hw t
  | some v => exact vmin_ok (pv_ok hw t) (ho v rfl)
theorem mv_ok {w : api_Water} (hw : GoodW w) : ∀ (n : Nat) (t : Int), OkV w (mv w t n)
  | 0, t => pv_ok hw t
  | n + 1, t => vmin_ok (pv_ok hw t) (mv_ok hw n (t - 1))
theorem okv_sum {w : api_Water} (hw : GoodW w) : ∀ {v : List Int}, (∀ x ∈ v, -4000 ≤ x ∧ x ≤ 4000) → -4000 * v.length ≤ v.sum ∧ v.sum ≤ 4000 * v.length
  | [], _ => by simp
  | x :: v, h => by
    have := okv_sum hw (v := v) (fun y hy => h y (List.mem_cons_of_mem _ hy))
    have := h x List.mem_cons_self
    simp only [List.sum_cons, List.length_cons]; omega
theorem fl_w64 {w : api_Water} (hw : GoodW w) {v : List Int} (hv : OkV w v) : w64 (w.Level + v.sum) = fl w v := by
  have := okv_sum hw hv.2
  have := hv.1
  have := hw.nc
  have := hw.l0
  have := hw.l1
  unfold fl
  exact w64_id (by omega) (by omega)

theorem least2 (n old : Int) : tide_least n [old] = some (min n old) := rfl

theorem part_eq {w : api_Water} (hw : GoodW w) {t : Int} (h0 : 0 ≤ t) (h1 : t ≤ 1099511627776) {j : Nat} {y : Int} (hj : (pv w t)[j]? = some y) : tide_part w ((j : Int) - 1) t = some y := by
  unfold tide_part
  cases j with
  | zero =>
    simp only [pv, List.getElem?_cons_zero, Option.some.injEq] at hj
    subst hj
    rw [if_pos (by omega)]
    unfold tide_parts_1
    rw [correction_eq w (by have := hw.ns; omega) t h0 h1]; rfl
  | succ j =>
    simp only [pv, List.getElem?_cons_succ, List.getElem?_map, Option.map_eq_some_iff] at hj
    obtain ⟨c, hc, rfl⟩ := hj
    rw [if_neg (by omega)]
    have hlt := (List.getElem?_eq_some_iff.1 hc).1
    rw [show ((j + 1 : Nat) : Int) - 1 = (j : Int) by omega, ix_lt hlt, Option.bind_some]
    unfold tide_parts_2
    have e : w.Cycles[j] = c := (List.getElem?_eq_some_iff.1 hc).2
    rw [e, value_eq (hw.cs c (List.mem_of_getElem? hc)) (by omega) h1]; rfl

theorem grown_eq {w : api_Water} (hw : GoodW w) {t : Int} (h0 : 0 ≤ t) (h1 : t ≤ 1099511627776) {o : Option (List Int)} (ho : ∀ v, o = some v → OkV w v) :
    tide_floor_grown ⟨w, w, low w o⟩ t = some (fl w (stp w t o), low w (some (stp w t o))) := by
  have hs := stp_ok hw ho t
  unfold tide_floor_grown
  have hm : mapOpt (tide_grown1 ⟨w, w, low w o⟩ t) (tide_partKeys w) = some (stp w t o) := by
    refine mapOpt_of (by rw [hs.1]; simp [tide_partKeys]) fun j x y hx hy => ?_
    have hjl : j < w.Cycles.length + 1 := by rw [← hs.1]; exact (List.getElem?_eq_some_iff.1 hy).1
    have hxe : x = (j : Int) - 1 := by
      unfold tide_partKeys at hx
      rw [List.getElem?_map, List.getElem?_range hjl] at hx
      simpa using hx.symm
    subst hxe
    unfold tide_grown1
    have hp : ∃ p, (pv w t)[j]? = some p := ⟨_, List.getElem?_eq_getElem (by rw [pv_len]; exact hjl)⟩
    obtain ⟨p, hp⟩ := hp
    simp only
    rw [part_eq hw h0 h1 hp, Option.bind_some]
    cases o with
    | none =>
      simp only [low, Option.map_none, Option.bind_none]
      simp only [stp] at hy
      rw [hp] at hy; exact hy
    | some v =>
      have hv := ho v rfl
      have hl : lookI ((tide_partKeys w).zip v) ((j : Int) - 1) = v[j]? := by
        have := lookI_zip v 0 j (Nat.zero_le _)
        rw [hv.1] at this
        unfold tide_partKeys
        rw [List.range_eq_range']
        simpa using this
      simp only [low, Option.map_some, Option.bind_some, hl]
      have hjv : j < v.length := by rw [hv.1]; exact hjl
      have hvj : v[j]? = some v[j] := List.getElem?_eq_getElem hjv
      rw [hvj]
      simp only
      rw [least2]
      simp only [stp, vmin] at hy
      rw [List.getElem?_zipWith, hp, hvj] at hy
      exact hy
  rw [hm, Option.bind_some]
  simp only
  rw [fl_w64 hw hs]
  rfl

theorem parts_eq {w : api_Water} (hw : GoodW w) : tide_parts w = some w := by
  unfold tide_parts
  rw [if_pos (by have := hw.nc; omega)]

/-! ### Prove -/

def finP (cuts : List Int) : List Int × Int := if (2000 : Int) < cuts.length then ([], 2) else (cuts, 0)
def proveS (w : api_Water) (s : api_Span) (height : Int) : List Int × Int :=
  if askS w s = 0 then (if (extremeS w s (-1)).1 < height then ([], 5) else finP (grd (GG w) height (left s.Hi s.Lo) s.Lo s.Lo)) else ([], askS w s)

/-- The values so far: none in the first minute. -/
def sofar (w : api_Water) (b : Bool) (s t : Int) : Option (List Int) := if b = true then none else some (mv w (t - 1) (t - 1 - s).toNat)
theorem sofar_ok {w : api_Water} (hw : GoodW w) (b : Bool) (s t : Int) : ∀ v, sofar w b s t = some v → OkV w v := by
  intro v h
  unfold sofar at h
  split at h
  · cases h
  · simp only [Option.some.injEq] at h; subst h; exact mv_ok hw _ _
theorem stp_sofar (w : api_Water) (b : Bool) (s t : Int) (h : if b = true then s = t else s ≤ t - 1) : stp w t (sofar w b s t) = mv w t (t - s).toNat := by
  unfold sofar
  cases b with
  | true =>
    simp only [if_true] at h ⊢
    subst h
    rw [show (s - s).toNat = 0 by omega]; rfl
  | false =>
    simp only [Bool.false_eq_true, if_false] at h ⊢
    have := mv_next w (a := s) (t := t - 1) h
    rw [show t - 1 + 1 = t by omega] at this
    exact this.symm

theorem prove_eq (w : api_Water) (hw : LenW w) (s : api_Span) (height : Int) : tide_Prove w s height = some (proveS w s height) := by
  unfold tide_Prove proveS tide_Lowest
  rw [extreme_eq w hw s (-1) (.inr rfl), Option.bind_some, Option.bind_some]
  by_cases hq : askS w s = 0
  · have A := ask_of hw hq
    have he : (extremeS w s (-1)).2.2 = 0 := by unfold extremeS; rw [if_pos hq]
    rw [if_pos hq, if_neg (by simp [he])]
    simp only
    by_cases hl : (extremeS w s (-1)).1 < height
    · rw [if_pos (by simpa using hl), if_pos hl]
    · rw [if_neg (by simpa using hl), if_neg hl, parts_eq A.g, Option.bind_some]
      have h0 := A.l0; have h1 := A.l1; have h2 := A.l2; have h3 := A.l3
      refine lp_span (lo := s.Lo) (hi := s.Hi) (by omega) (by omega) (fun (a : List Int × Int × Bool) t => (t, a.1, low w (sofar w a.2.2 a.2.1 t))) (fun a t => finP (a.1 ++ grd (GG w) height (left s.Hi t) t a.2.1)) (fun t a => (a.1.length : Int) ≤ t - s.Lo ∧ (if a.2.2 = true then a.2.1 = t else a.2.1 ≤ t - 1)) (a := ([], s.Lo, true)) rfl ⟨by simp, by simp⟩ (fun a t q0 q1 hJ => ?_) (fun a hJ => ?_)
      · obtain ⟨cuts, st, b⟩ := a
        simp only at hJ ⊢
        obtain ⟨hc, hb⟩ := hJ
        unfold tide_Prove_b2
        simp only
        rw [if_pos (by simpa using q1), grown_eq A.g (by omega) (by omega) (sofar_ok A.g b st t), Option.bind_some, stp_sofar w b st t hb]
        simp only
        have e : fl w (mv w t (t - st).toNat) = GG w st t := rfl
        rw [e, left_succ q1]
        simp only [grd]
        by_cases hlt : GG w st t < height
        · rw [if_pos (by simpa using hlt), if_pos hlt, app_one (by omega), Option.bind_some]
          have := grown_eq A.g (t := t) (by omega) (by omega) (o := none) (fun v h => by cases h)
          rw [show low w none = none from rfl] at this
          rw [this, Option.bind_some]
          refine ⟨(cuts ++ [t], t, false), ?_, by simp, ⟨by simp; omega, by simp⟩⟩
          unfold tide_Prove_j3
          rw [w64_id (n := t + 1) (by omega) (by omega)]
          simp only [sofar, stp, Bool.false_eq_true, if_false]
          rw [show t + 1 - 1 = t by omega, show (t - t).toNat = 0 by omega]; rfl
        · rw [if_neg (by simpa using hlt), if_neg hlt]
          refine ⟨(cuts, st, false), ?_, rfl, ⟨by simp only; omega, ?_⟩⟩
          · unfold tide_Prove_j3
            rw [w64_id (n := t + 1) (by omega) (by omega)]
            simp only [sofar, Bool.false_eq_true, if_false]
            rw [show t + 1 - 1 = t by omega]
          · cases b <;> simp at hb ⊢ <;> omega
      · obtain ⟨cuts, st, b⟩ := a
        unfold tide_Prove_b2
        simp only
        rw [if_neg (by rw [decide_eq_true_eq]; omega), left_end]
        unfold tide_Prove_j1 finP
        simp only [grd, List.append_nil]
        split <;> rename_i hh <;> simp only [decide_eq_true_eq] at hh
        · rw [if_pos hh]; rfl
        · rw [if_neg hh]; rfl
  · have he : (extremeS w s (-1)).2.2 = askS w s := by unfold extremeS; rw [if_neg hq]
    rw [if_neg hq, if_pos (by simp [he, hq])]
    simp [he]

/-! ### CheckProof -/

/-- All minutes of a part are high enough. -/
def seg (w : api_Water) (h a b : Int) : Prop := ∀ t, a ≤ t → t < b → h ≤ GG w a t
def chk (w : api_Water) (h : Int) : Int → List Int → Prop
  | _, [] => True
  | a, e :: r => seg w h a e ∧ chk w h e r

open Classical in
noncomputable def check8 (p : Prop) : Int := if p then 0 else 8
theorem check8_t {p : Prop} (h : p) : check8 p = 0 := if_pos h
theorem check8_f {p : Prop} (h : ¬ p) : check8 p = 8 := if_neg h
theorem check8_iff {p q : Prop} (h : p ↔ q) : check8 p = check8 q := by
  by_cases hp : p
  · rw [check8_t hp, check8_t (h.1 hp)]
  · rw [check8_f hp, check8_f (fun hq => hp (h.2 hq))]

/-- The ends of parts, in order. -/
def ends : Int → Int → List Int → Prop
  | _, _, [] => True
  | a, hi, e :: r => a ≤ e ∧ e ≤ hi + 1 ∧ ends e hi r

open Classical in
theorem segs_eq {w : api_Water} (hw : GoodW w) {height x1 e a hi : Int} (h0 : 0 ≤ a) (h1 : a ≤ e) (h2 : e ≤ hi + 1) (h3 : hi ≤ 1048576) (hx : 0 ≤ x1) (hx1 : x1 ≤ 1000000) :
    ∃ lo', Lp (tide_CheckProof_b5 w height w x1 e) fuel (a, none) = some (if seg w height a e then .inl (e, w64 (x1 + 1), lo') else .inr 8) := by
  refine ⟨low w (sofar w (decide (e = a)) a e), ?_⟩
  have hF := lp_span2 (body := tide_CheckProof_b5 w height w x1 e) (lo := a) (hi := e - 1) (by omega) (by omega) (fun (b : Bool) t => (t, low w (sofar w b a t))) (fun b t => if (∀ u, t ≤ u → u < e → height ≤ GG w a u) then (.inl (e, w64 (x1 + 1), low w (sofar w (decide (e = a)) a e)) : (Int × Int × Option (List (Int × Int))) ⊕ Int) else .inr 8) (fun t b => b = decide (t = a) ∧ a ≤ t) (a := true) (s0 := (a, none)) rfl ⟨by simp, Int.le_refl _⟩ (fun b t q0 q1 hJ => ?_) (fun b hJ => ?_)
  · exact hF
  · obtain ⟨rfl, hat⟩ := hJ
    have hb : if decide (t = a) = true then a = t else a ≤ t - 1 := by
      by_cases e : t = a
      · rw [if_pos (by simpa using e)]; exact e.symm
      · rw [if_neg (by simpa using e)]; omega
    unfold tide_CheckProof_b5
    simp only
    rw [if_pos (by rw [decide_eq_true_eq]; omega), grown_eq hw (by omega) (by omega) (sofar_ok hw _ a t), Option.bind_some, stp_sofar w _ a t hb]
    simp only
    have e1 : fl w (mv w t (t - a).toNat) = GG w a t := rfl
    rw [e1]
    by_cases hlt : GG w a t < height
    · right
      rw [if_pos (by simpa using hlt)]
      rw [if_neg (fun hall => by have := hall t (Int.le_refl _) (by omega); omega)]
      rfl
    · left
      rw [if_neg (by simpa using hlt)]
      refine ⟨false, ?_, ?_, ?_, by omega⟩
      · rw [w64_id (n := t + 1) (by omega) (by omega)]
        simp only [sofar, Bool.false_eq_true, if_false]
        rw [show t + 1 - 1 = t by omega]
      · congr 1
        refine propext ⟨fun hall u u1 u2 => hall u (by omega) u2, fun hall u u1 u2 => ?_⟩
        by_cases e : u = t
        · subst e; omega
        · exact hall u (by omega) u2
      · simp; omega
  · obtain ⟨rfl, hat⟩ := hJ
    unfold tide_CheckProof_b5
    simp only
    rw [if_neg (by simp), show e - 1 + 1 = e by omega, if_pos (fun u u1 u2 => by omega)]
    rfl

theorem parts_chk {w : api_Water} (hw : GoodW w) {height hi : Int} (h3 : hi ≤ 1048576) {a : Int} (h0 : 0 ≤ a) (l : List Int) (hl : l.length ≤ 100000) (he : ends a hi l) :
    Lp (tide_CheckProof_b3 w height l w) fuel (a, 0, none) = some (check8 (chk w height a l)) := by
  refine lp_list l (by omega) (fun (p : Int × Option (List (Int × Int))) i => (p.1, i, p.2)) (fun p r => check8 (chk w height p.1 r)) (fun i p => 0 ≤ p.1 ∧ ends p.1 hi (l.drop i)) (a := (a, none)) rfl ⟨h0, by simpa using he⟩ (fun p i hi' hJ => ?_) (fun p hJ => ?_)
  · obtain ⟨f, lw⟩ := p
    simp only at hJ ⊢
    obtain ⟨q0, q1⟩ := hJ
    rw [List.drop_eq_getElem_cons hi'] at q1
    obtain ⟨q2, q3, q4⟩ := q1
    unfold tide_CheckProof_b3
    simp only
    rw [if_pos (by simpa using hi'), ix_lt hi', Option.bind_some]
    obtain ⟨lo', hin⟩ := segs_eq hw (height := height) (x1 := (i : Int)) q0 q2 q3 h3 (by omega) (by omega)
    rw [hin]
    by_cases hs : seg w height f l[i]
    · rw [if_pos hs]
      refine .inl ⟨(l[i], lo'), ?_, check8_iff ⟨fun h => h.2, fun h => ⟨hs, h⟩⟩, by omega, q4⟩
      simp only
      rw [w64s' hi' (by omega)]
    · rw [if_neg hs]
      exact .inr (by rw [check8_f (fun h => hs h.1)])
  · obtain ⟨f, lw⟩ := p
    obtain ⟨q0, q1⟩ := hJ
    unfold tide_CheckProof_b3
    simp only
    rw [if_neg (by simp)]
    unfold tide_CheckProof_j2
    simp only at q0
    rw [if_neg (by simp; omega), check8_t (p := chk w height f []) trivial]
    rfl

theorem incr_ends : ∀ (cs : List Int) (last hi : Int), last ≤ hi → incr last hi cs → ends last hi (cs ++ [hi + 1])
  | [], last, hi, hl, _ => ⟨by omega, by omega, trivial⟩
  | c :: r, last, hi, hl, h => ⟨by have := h.1; omega, by have := h.2.1; omega, incr_ends r c hi h.2.1 h.2.2⟩

theorem good_span (w : api_Water) (height : Int) (s : Int) (cs : List Int) : ∀ (n : Nat) (t hi : Int), (n : Int) = hi + 1 - t → (∀ c r, cs = c :: r → t ≤ c ∧ c ≤ hi) →
    (good (GG w) height n t s cs ↔ match cs with
      | [] => ∀ u, t ≤ u → u < hi + 1 → height ≤ GG w s u
      | c :: r => (∀ u, t ≤ u → u < c → height ≤ GG w s u) ∧ height ≤ GG w c c ∧ good (GG w) height (hi - c).toNat (c + 1) c r)
  | 0, t, hi, hn, hc => by
    cases cs with
    | nil => simp only [good, true_iff]; intro u u1 u2; omega
    | cons c r => have := hc c r rfl; omega
  | n + 1, t, hi, hn, hc => by
    cases cs with
    | nil =>
      rw [good_nil, good_span w height s [] n (t + 1) hi (by omega) (fun c r h => by cases h)]
      constructor
      · rintro ⟨h1, h2⟩ u u1 u2
        by_cases e : u = t
        · subst e; exact h1
        · exact h2 u (by omega) u2
      · intro h
        exact ⟨h t (by omega) (by omega), fun u u1 u2 => h u (by omega) u2⟩
    | cons c r =>
      have hcr := hc c r rfl
      by_cases e : c = t
      · subst e
        have hn' : (hi - c).toNat = n := by omega
        rw [good_cut]
        simp only [hn']
        exact ⟨fun h => ⟨fun u u1 u2 => by omega, h⟩, fun h => h.2⟩
      · rw [good_on e, good_span w height s (c :: r) n (t + 1) hi (by omega) (fun c' r' h => by cases h; omega)]
        simp only
        constructor
        · rintro ⟨h1, h2, h3⟩
          refine ⟨fun u u1 u2 => ?_, h3⟩
          by_cases e : u = t
          · subst e; exact h1
          · exact h2 u (by omega) u2
        · rintro ⟨h2, h3⟩
          exact ⟨h2 t (by omega) (by omega), fun u u1 u2 => h2 u (by omega) u2, h3⟩

/-- Parts between cuts, and minute by minute. -/
theorem chk_good (w : api_Water) (height hi : Int) : ∀ (cs : List Int) (s : Int), s ≤ hi → incr s hi cs → (chk w height s (cs ++ [hi + 1]) ↔ height ≤ GG w s s ∧ good (GG w) height (hi - s).toNat (s + 1) s cs)
  | [], s, hs, _ => by
    rw [good_span w height s [] _ (s + 1) hi (by omega) (fun c r h => by cases h)]
    simp only [List.nil_append, chk, and_true, seg]
    constructor
    · intro h; exact ⟨h s (by omega) (by omega), fun u u1 u2 => h u (by omega) u2⟩
    · rintro ⟨h1, h2⟩ u u1 u2
      by_cases e : u = s
      · subst e; exact h1
      · exact h2 u (by omega) u2
  | c :: r, s, hs, h => by
    obtain ⟨h1, h2, h3⟩ := h
    rw [good_span w height s (c :: r) _ (s + 1) hi (by omega) (fun c' r' h => by cases h; omega)]
    simp only [List.cons_append, chk]
    rw [chk_good w height hi r c h2 h3]
    unfold seg
    constructor
    · rintro ⟨k1, k2⟩
      exact ⟨k1 s (by omega) (by omega), fun u u1 u2 => k1 u (by omega) u2, k2⟩
    · rintro ⟨k0, k1, k2⟩
      refine ⟨fun u u1 u2 => ?_, k2⟩
      by_cases e : u = s
      · subst e; exact k0
      · exact k1 u (by omega) u2

/-- Cuts that prove a height. -/
def provesS (w : api_Water) (s : api_Span) (height : Int) (cuts : List Int) : Prop := incr s.Lo s.Hi cuts ∧ height ≤ GG w s.Lo s.Lo ∧ good (GG w) height (s.Hi - s.Lo).toNat (s.Lo + 1) s.Lo cuts

theorem incr_len : ∀ (cs : List Int) (last hi : Int), last ≤ hi → incr last hi cs → (cs.length : Int) ≤ hi - last
  | [], last, hi, hl, _ => by simp; omega
  | c :: r, last, hi, hl, h => by
    have := incr_len r c hi h.2.1 h.2.2
    have := h.1
    simp only [List.length_cons]; omega

theorem check_eq (w : api_Water) (hw : LenW w) (s : api_Span) (height : Int) (cuts : List Int) (hc : Len cuts) : tide_CheckProof w s height cuts = some (if askS w s = 0 then (if (2000 : Int) < cuts.length then 2 else check8 (provesS w s height cuts)) else askS w s) := by
  unfold tide_CheckProof
  rw [asked_eq w hw s, Option.bind_some]
  by_cases hq : askS w s = 0
  · have A := ask_of hw hq
    have h0 := A.l0; have h1 := A.l1; have h2 := A.l2; have h3 := A.l3
    rw [if_pos hq, if_neg (by simp [hq])]
    by_cases hm : (2000 : Int) < cuts.length
    · rw [if_pos (by simpa using hm), if_pos hm]
    · rw [if_neg (by simpa using hm), if_neg hm]
      have hj : incr s.Lo s.Hi cuts → tide_CheckProof_j1 w s height cuts = some (check8 (chk w height s.Lo (cuts ++ [s.Hi + 1]))) := by
        intro hin
        unfold tide_CheckProof_j1
        have e1 : app [] cuts = some cuts := by unfold app; rw [if_pos (by simp; omega)]; rfl
        have e2 : app cuts [w64 (s.Hi + 1)] = some (cuts ++ [s.Hi + 1]) := by rw [w64_id (by omega) (by omega)]; exact app_one (by omega)
        rw [e1, Option.bind_some, e2, Option.bind_some, parts_eq A.g, Option.bind_some]
        exact parts_chk A.g h2 h0 _ (by simp; omega) (incr_ends cuts s.Lo s.Hi h1 hin)
      refine lp_list cuts hc (fun (last : Int) i => (last, i)) (fun last r => check8 (incr last s.Hi r ∧ chk w height s.Lo (cuts ++ [s.Hi + 1]))) (fun i last => (incr s.Lo s.Hi cuts ↔ incr last s.Hi (cuts.drop i)) ∧ -1 ≤ last ∧ last ≤ 1048576) (a := s.Lo) rfl ⟨by simp, by omega, by omega⟩ (fun last i hi hJ => ?_) (fun last hJ => ?_) |>.trans ?_
      · obtain ⟨q0, q1, q2⟩ := hJ
        unfold tide_CheckProof_b6
        simp only
        rw [if_pos (by simpa using hi), ix_lt hi, Option.bind_some, w64_id (n := last + 1) (by omega) (by omega)]
        rw [List.drop_eq_getElem_cons hi] at q0
        by_cases hc : last + 1 ≤ cuts[i] ∧ cuts[i] ≤ s.Hi
        · left
          rw [if_neg (by simp [tide_within, hc])]
          refine ⟨cuts[i], ?_, check8_iff ⟨fun h => ⟨h.1.2.2, h.2⟩, fun h => ⟨⟨hc.1, hc.2, h.1⟩, h.2⟩⟩, ?_, by omega, by omega⟩
          · rw [w64s' hi (by omega)]
          · rw [q0]; exact ⟨fun h => h.2.2, fun h => ⟨hc.1, hc.2, h⟩⟩
        · right
          have hw2 : tide_within cuts[i] (last + 1) s.Hi = false := by
            unfold tide_within
            rw [Bool.and_eq_false_iff]
            by_cases h : last + 1 ≤ cuts[i]
            · right; simp; omega
            · left; simp; omega
          rw [if_pos (by rw [hw2]; rfl), check8_f (fun h => hc ⟨h.1.1, h.1.2.1⟩)]
      · obtain ⟨q0, q1, q2⟩ := hJ
        unfold tide_CheckProof_b6
        simp only
        have hin : incr s.Lo s.Hi cuts := q0.2 (by rw [List.drop_length]; trivial)
        rw [if_neg (by simp), hj hin]
        simp only [Option.map_some]
        rw [check8_iff (p := chk w height s.Lo (cuts ++ [s.Hi + 1])) (q := incr last s.Hi [] ∧ chk w height s.Lo (cuts ++ [s.Hi + 1])) ⟨fun h => ⟨trivial, h⟩, fun h => h.2⟩]
      · congr 1
        refine check8_iff ⟨fun h => ⟨h.1, (chk_good w height s.Hi cuts s.Lo h1 h.1).1 h.2⟩, fun h => ⟨h.1, (chk_good w height s.Hi cuts s.Lo h1 h.1).2 h.2⟩⟩
  · rw [if_neg hq, if_pos (by simp [hq])]

/-! ### The lowest water -/

theorem exS_min (H : Int → Int) : ∀ (n : Nat) (t : Int) (p : Int × Int), (exS H (-1) n t p).1 ≤ p.1 ∧ (∀ k : Int, t ≤ k → k < t + n → (exS H (-1) n t p).1 ≤ H k) ∧ ((exS H (-1) n t p).1 = p.1 ∨ ∃ k : Int, t ≤ k ∧ k < t + n ∧ (exS H (-1) n t p).1 = H k)
  | 0, t, p => ⟨by simp [exS], fun k h1 h2 => by omega, .inl rfl⟩
  | n + 1, t, p => by
    have ih := exS_min H n (t + 1) (better (-1) p (H t, t))
    have hb : (better (-1) p (H t, t)).1 ≤ p.1 ∧ (better (-1) p (H t, t)).1 ≤ H t ∧ ((better (-1) p (H t, t)).1 = p.1 ∨ (better (-1) p (H t, t)).1 = H t) := by
      unfold better
      split
      · rename_i h; simp only at h ⊢; exact ⟨by omega, by omega, .inr trivial⟩
      · rename_i h; simp only at h ⊢; exact ⟨by omega, by omega, .inl trivial⟩
    show (exS H (-1) n (t + 1) _).1 ≤ p.1 ∧ _
    refine ⟨by omega, fun k h1 h2 => ?_, ?_⟩
    · show (exS H (-1) n (t + 1) _).1 ≤ H k
      by_cases e : k = t
      · subst e; omega
      · exact ih.2.1 k (by omega) (by omega)
    · rcases ih.2.2 with h | ⟨k, h1, h2, h3⟩
      · rcases hb.2.2 with h4 | h4
        · exact .inl (h.trans h4)
        · exact .inr ⟨t, by omega, by omega, h.trans h4⟩
      · exact .inr ⟨k, by omega, by omega, h3⟩

theorem lowest_iff {w : api_Water} {s : api_Span} (hw : LenW w) (hq : askS w s = 0) (height : Int) : ¬ (extremeS w s (-1)).1 < height ↔ ∀ k : Int, s.Lo ≤ k → k ≤ s.Hi → height ≤ hgt w k := by
  have A := ask_of hw hq
  have h1 := A.l1
  have e : (extremeS w s (-1)).1 = (exS (hgt w) (-1) (left s.Hi (s.Lo + 1)) (s.Lo + 1) (hgt w s.Lo, s.Lo)).1 := by unfold extremeS; rw [if_pos hq]
  rw [e]
  obtain ⟨q1, q2, q3⟩ := exS_min (hgt w) (left s.Hi (s.Lo + 1)) (s.Lo + 1) (hgt w s.Lo, s.Lo)
  have hn : (left s.Hi (s.Lo + 1) : Int) = s.Hi - s.Lo := by unfold left; omega
  constructor
  · intro h k k1 k2
    by_cases e : k = s.Lo
    · subst e; simp only at q1; omega
    · have := q2 k (by omega) (by omega); omega
  · intro h
    rcases q3 with h4 | ⟨k, k1, k2, k3⟩
    · have := h s.Lo (by omega) h1; simp only at h4; omega
    · have := h k (by omega) (by omega); omega

/-- Cuts that prove a height, and the fewest. -/
theorem proves_least {w : api_Water} {s : api_Span} (hw : LenW w) (hq : askS w s = 0) {height : Int} {cuts : List Int} (h : provesS w s height cuts) :
    (∀ k : Int, s.Lo ≤ k → k ≤ s.Hi → height ≤ hgt w k) ∧ (grd (GG w) height (left s.Hi s.Lo) s.Lo s.Lo).length ≤ cuts.length := by
  have A := ask_of hw hq
  have h1 := A.l1
  obtain ⟨p1, p2, p3⟩ := h
  have hl : left s.Hi s.Lo = (s.Hi - s.Lo).toNat + 1 := by unfold left; omega
  have hg : good (GG w) height (left s.Hi s.Lo) s.Lo (s.Lo - 1 + 1) cuts := by
    rw [hl, show s.Lo - 1 + 1 = s.Lo by omega]
    cases cuts with
    | nil => exact good_nil.2 ⟨p2, p3⟩
    | cons c r => exact (good_on (by have := p1.1; omega)).2 ⟨p2, p3⟩
  rw [show s.Lo - 1 + 1 = s.Lo by omega] at hg
  have hn : (left s.Hi s.Lo : Int) = s.Hi - s.Lo + 1 := by unfold left; omega
  constructor
  · intro k k1 k2
    rw [← GG_self]
    by_cases e : k = s.Lo
    · subst e; exact p2
    · exact good_high (GG_falls w) _ (s.Lo + 1) s.Lo cuts (by omega) p3 k (by omega) (by omega)
  · rw [hl]
    unfold grd
    rw [if_neg (by omega)]
    exact (grd_least (GG_falls w) _ (s.Lo + 1) s.Lo s.Lo cuts (by omega) (by omega) p3).1 (Int.le_refl _)

theorem grd_proves {w : api_Water} {s : api_Span} (hw : LenW w) (hq : askS w s = 0) {height : Int} (h : ∀ k : Int, s.Lo ≤ k → k ≤ s.Hi → height ≤ hgt w k) : provesS w s height (grd (GG w) height (left s.Hi s.Lo) s.Lo s.Lo) := by
  have A := ask_of hw hq
  have h1 := A.l1
  have hl : left s.Hi s.Lo = (s.Hi - s.Lo).toNat + 1 := by unfold left; omega
  have h0 : height ≤ GG w s.Lo s.Lo := by rw [GG_self]; exact h s.Lo (Int.le_refl _) h1
  rw [hl]
  unfold grd
  rw [if_neg (by omega)]
  refine ⟨?_, h0, grd_good _ _ _ (fun k k1 k2 => ?_)⟩
  · have := grd_incr (G := GG w) (h := height) (s.Hi - s.Lo).toNat (s.Lo + 1) s.Lo s.Lo (by omega)
    rw [show s.Lo + 1 + ((s.Hi - s.Lo).toNat : Int) - 1 = s.Hi by omega] at this
    exact this
  · rw [GG_self]; exact h k (by omega) (by omega)

end Go.Mx
