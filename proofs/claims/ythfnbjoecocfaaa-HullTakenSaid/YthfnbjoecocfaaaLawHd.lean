/- Plain laws of ships, fourth part: right ships; loads are checked; what fits. Conditions: none. -/
import Derived.Test.YthfnbjoecocfaaaLawHc
set_option linter.unusedVariables false
set_option linter.unusedSimpArgs false
namespace Go.Mx

/-- A ship that is right. -/
structure GoodS (s : api_Ship) : Prop where
  id : 1 ≤ s.ID ∧ s.ID ≤ 1099511627776
  light : 1 ≤ s.Light ∧ s.Light ≤ 65536
  lever : -20000 ≤ s.Lever ∧ s.Lever ≤ 20000
  height : 0 ≤ s.Height ∧ s.Height ≤ 5000
  turn : 1 ≤ s.Turn ∧ s.Turn ≤ 1048576
  least : 0 ≤ s.Least ∧ s.Least ≤ 5000
  nh : s.Holds.length ≤ 8
  hold : ∀ h ∈ s.Holds, (0 ≤ h.Room ∧ h.Room ≤ 65536) ∧ (-20000 ≤ h.Lever ∧ h.Lever ≤ 20000) ∧ (0 ≤ h.Height ∧ h.Height ≤ 5000)
  total : s.Light + roomSum s.Holds ≤ 65536
  mean : GoodC s.Mean
  meta_ : GoodC s.Mtac
  rises : risesB s.Mean.Knots = true
  tmean : tabB s s.Mean = true
  tmeta : tabB s s.Mtac = true
theorem roomSum_bd : ∀ (l : List api_Hold), (∀ h ∈ l, 0 ≤ h.Room ∧ h.Room ≤ 65536) → 0 ≤ roomSum l ∧ roomSum l ≤ 65536 * l.length
  | [], _ => by simp [roomSum]
  | h :: r, hh => by
    have h1 := hh h List.mem_cons_self
    have h2 := roomSum_bd r fun x hx => hh x (List.mem_cons_of_mem _ hx)
    simp only [roomSum, List.map_cons, List.sum_cons, List.length_cons] at *
    omega
theorem holdsE_zero {rest : Int} : ∀ (l pre : List api_Hold), holdsE rest pre l = 0 → (∀ h ∈ l, holdB h = true) ∧ rest = 0
  | [], pre, h => ⟨fun _ hx => by simp at hx, h⟩
  | x :: r, pre, h => by
    unfold holdsE at h
    split at h
    · rename_i hb
      split at h
      · omega
      · obtain ⟨q1, q2⟩ := holdsE_zero r _ h
        refine ⟨fun y hy => ?_, q2⟩
        rcases List.mem_cons.1 hy with rfl | hy
        · exact hb
        · exact q1 y hy
    · omega
theorem GoodS.of {s : api_Ship} (h : chk s = 0) : GoodS s := by
  unfold chk at h
  split at h
  · rename_i hb
    split at h
    · omega
    · rename_i h8
      obtain ⟨q1, q2⟩ := holdsE_zero _ _ h
      have hh : ∀ x ∈ s.Holds, (0 ≤ x.Room ∧ x.Room ≤ 65536) ∧ (-20000 ≤ x.Lever ∧ x.Lever ≤ 20000) ∧ (0 ≤ x.Height ∧ x.Height ≤ 5000) := fun x hx => by
        have := q1 x hx
        simp only [holdB, Bool.and_eq_true, decide_eq_true_eq] at this
        omega
      obtain ⟨a1, a2, a3, a4, a5, a6⟩ := headB_of hb
      have hs := roomSum_bd s.Holds fun x hx => (hh x hx).1
      unfold restE at q2
      split at q2
      · omega
      · rename_i ht
        rw [w64_id (by omega) (by omega)] at ht
        unfold curvesE at q2
        split at q2
        · rename_i c1
          split at q2
          · rename_i c2
            unfold tailE at q2
            split at q2
            · rename_i c3
              exact ⟨a1, a2, a3, a4, a5, a6, by omega, hh, by omega, cchk_good c1, cchk_good c2, c3.1, c3.2.1, c3.2.2⟩
            · omega
          · omega
        · omega
    
  · omega
theorem greater_max (a b : Int) : hull_greater_int a b = max a b := by
  unfold hull_greater_int
  by_cases h : a < b
  · rw [if_pos (by simpa using h)]; omega
  · rw [if_neg (by simpa using h)]; omega

/-! Loads. -/
/-- A span of a hold. -/
def spanB (x : api_Span) (room : Int) : Bool := decide (0 ≤ x.Lo) && decide (x.Lo ≤ x.Hi) && decide (x.Hi ≤ room)
def allE (l : api_Load) : Int := if l.All.Lo < 0 ∨ l.All.Hi < l.All.Lo ∨ 65536 < l.All.Hi then 1 else if 4000 ≤ l.All.Hi - l.All.Lo then 2 else if min (hiSum l.Holds) l.All.Hi < max (loSum l.Holds) l.All.Lo then 9 else 0
def spansE (rest : Int) : List api_Hold → List api_Span → Int
  | _, [] => rest
  | h :: t, x :: r => if spanB x h.Room = true then spansE rest t r else 1
  | [], _ :: _ => 1
def loadE (s : api_Ship) (l : api_Load) : Int := if (l.Holds.length : Int) = (s.Holds.length : Int) then spansE (allE l) s.Holds l.Holds else 1
def chkL (s : api_Ship) (l : api_Load) : Int := if chk s = 0 then loadE s l else chk s
/-- The spans are right. -/
def SpansOK (s : api_Ship) (l : api_Load) (n : Nat) : Prop := ∀ j, j < n → ∀ x h, l.Holds[j]? = some x → s.Holds[j]? = some h → 0 ≤ x.Lo ∧ x.Lo ≤ x.Hi ∧ x.Hi ≤ h.Room
theorem sums_bd : ∀ (l : List api_Span), (∀ x ∈ l, 0 ≤ x.Lo ∧ x.Lo ≤ x.Hi ∧ x.Hi ≤ 65536) → 0 ≤ loSum l ∧ loSum l ≤ hiSum l ∧ hiSum l ≤ 65536 * l.length
  | [], _ => by simp [loSum, hiSum]
  | h :: r, hh => by
    have h1 := hh h List.mem_cons_self
    have h2 := sums_bd r fun x hx => hh x (List.mem_cons_of_mem _ hx)
    simp only [loSum, hiSum, List.map_cons, List.sum_cons, List.length_cons] at *
    omega
theorem spans_mem {s : api_Ship} {l : api_Load} (hg : GoodS s) (hl : l.Holds.length = s.Holds.length) (h : SpansOK s l l.Holds.length) : ∀ x ∈ l.Holds, 0 ≤ x.Lo ∧ x.Lo ≤ x.Hi ∧ x.Hi ≤ 65536 := fun x hx => by
  obtain ⟨j, hj, rfl⟩ := List.getElem_of_mem hx
  have hj' : j < s.Holds.length := by omega
  have h1 := h j hj _ _ (List.getElem?_eq_getElem hj) (List.getElem?_eq_getElem hj')
  have h2 := (hg.hold _ (List.getElem_mem hj')).1
  omega
theorem sums_ok {s : api_Ship} {l : api_Load} (hg : GoodS s) (hl : l.Holds.length = s.Holds.length) (h : SpansOK s l l.Holds.length) : 0 ≤ loSum l.Holds ∧ loSum l.Holds ≤ hiSum l.Holds ∧ hiSum l.Holds ≤ 524288 := by
  have h1 := sums_bd l.Holds (spans_mem hg hl h)
  have h2 := hg.nh
  omega
theorem totals_w (l : api_Load) (hl : Len l.Holds) : hull_totals l = some ⟨max (w64 (loSum l.Holds)) l.All.Lo, min (w64 (hiSum l.Holds)) l.All.Hi⟩ := by
  unfold hull_totals
  rw [hsums_eq l.Holds hl, Option.bind_some, greater_max]
theorem loadJ1 {s : api_Ship} {l : api_Load} (hg : GoodS s) (hl : l.Holds.length = s.Holds.length) (h : SpansOK s l l.Holds.length) (hw : w64 l.All.Hi = l.All.Hi ∧ w64 l.All.Lo = l.All.Lo) : hull_CheckLoad_j1 l = some (allE l) ∧ ref03_load_j1 l = some (allE l) := by
  have hL : Len l.Holds := by have := hg.nh; unfold Len; omega
  obtain ⟨b0, b1, b2⟩ := sums_ok hg hl h
  have e1 : w64 (loSum l.Holds) = loSum l.Holds := w64_id (by omega) (by omega)
  have e2 : w64 (hiSum l.Holds) = hiSum l.Holds := w64_id (by omega) (by omega)
  unfold hull_CheckLoad_j1 ref03_load_j1 allE
  rw [totals_w l hL, rsums_eq l.Holds hL, e1, e2]
  simp only [Option.bind_some]
  by_cases h1 : l.All.Lo < 0 ∨ l.All.Hi < l.All.Lo ∨ 65536 < l.All.Hi
  · rw [if_pos h1]
    constructor
    · rw [if_pos]; simp only [Bool.or_eq_true, decide_eq_true_eq]; omega
    · rw [if_pos]; simp only [ref03_span, Bool.not_eq_true', Bool.and_eq_false_iff, decide_eq_false_iff_not]; omega
  · rw [if_neg h1]
    have e3 : w64 (l.All.Hi - l.All.Lo) = l.All.Hi - l.All.Lo := w64_id (by omega) (by omega)
    rw [e3]
    constructor
    · rw [if_neg (by simp only [Bool.or_eq_true, decide_eq_true_eq]; omega)]
      by_cases h2 : 4000 ≤ l.All.Hi - l.All.Lo
      · rw [if_pos (by simpa using h2), if_pos h2]
      · rw [if_neg (by simpa using h2), if_neg h2]
        by_cases h3 : min (hiSum l.Holds) l.All.Hi < max (loSum l.Holds) l.All.Lo
        · rw [if_pos (by simpa using h3), if_pos h3]
        · rw [if_neg (by simpa using h3), if_neg h3]
    · rw [if_neg (by simp only [ref03_span, Bool.not_eq_true', Bool.and_eq_false_iff, decide_eq_false_iff_not]; omega)]
      by_cases h2 : 4000 ≤ l.All.Hi - l.All.Lo
      · rw [if_pos (by simpa using h2), if_pos h2]
      · rw [if_neg (by simpa using h2), if_neg h2]
        by_cases h3 : min (hiSum l.Holds) l.All.Hi < max (loSum l.Holds) l.All.Lo
        · rw [if_pos (by simp only [Bool.or_eq_true, decide_eq_true_eq]; omega), if_pos h3]
        · rw [if_neg (by simp only [Bool.or_eq_true, decide_eq_true_eq]; omega), if_neg h3]
theorem spansOK_step {s : api_Ship} {l : api_Load} {i : Nat} (h : SpansOK s l i) (h1 : i < l.Holds.length) (h2 : i < s.Holds.length) (hb : spanB l.Holds[i] s.Holds[i].Room = true) : SpansOK s l (i + 1) := fun j hj x y hx hy => by
  by_cases e : j = i
  · subst e
    rw [List.getElem?_eq_getElem h1, Option.some.injEq] at hx
    rw [List.getElem?_eq_getElem h2, Option.some.injEq] at hy
    subst hx; subst hy
    simp only [spanB, Bool.and_eq_true, decide_eq_true_eq] at hb
    omega
  · exact h j (by omega) x y hx hy
/-- What numbers may be. -/
def LoadW (l : api_Load) : Prop := w64 l.All.Hi = l.All.Hi ∧ w64 l.All.Lo = l.All.Lo
theorem hload_loop {s : api_Ship} {l : api_Load} (hg : GoodS s) (hl : l.Holds.length = s.Holds.length) (hw : LoadW l) : Lp (hull_CheckLoad_b2 s l) fuel 0 = some (spansE (allE l) s.Holds l.Holds) := by
  have hL : l.Holds.length ≤ 9223372036854775807 := by have := hg.nh; omega
  refine lp_list (body := hull_CheckLoad_b2 s l) l.Holds hL (fun (_ : List api_Hold) i => i) (spansE (allE l)) (fun i a => a = s.Holds.drop i ∧ SpansOK s l i) rfl ⟨rfl, fun j h => by omega⟩ (fun a i hi hJ => ?_) (fun a hJ => ?_)
  · have hi2 : i < s.Holds.length := by omega
    unfold hull_CheckLoad_b2
    simp only
    rw [if_pos (by simpa using hi), ix_lt hi, Option.bind_some, w64s' hi hL, ix_lt hi2, hJ.1, List.drop_eq_getElem_cons hi2]
    simp only [spansE]
    by_cases hb : spanB l.Holds[i] s.Holds[i].Room = true
    · left
      have hb2 := hb
      simp only [spanB, Bool.and_eq_true, decide_eq_true_eq] at hb2
      have e : (!(decide (l.Holds[i].Lo < 0) || decide (l.Holds[i].Hi < l.Holds[i].Lo))) = true := by simp; omega
      rw [e]
      simp only [gb, if_true, Option.bind_some]
      rw [if_neg (by simp only [Bool.or_eq_true, decide_eq_true_eq]; omega), if_pos hb]
      exact ⟨s.Holds.drop (i + 1), rfl, rfl, rfl, spansOK_step hJ.2 hi hi2 hb⟩
    · right
      rw [if_neg hb]
      have hb2 := hb
      simp only [spanB, Bool.and_eq_true, decide_eq_true_eq] at hb2
      by_cases h1 : l.Holds[i].Lo < 0 ∨ l.Holds[i].Hi < l.Holds[i].Lo
      · have e : (decide (l.Holds[i].Lo < 0) || decide (l.Holds[i].Hi < l.Holds[i].Lo)) = true := by simp; omega
        simp only [e, gb, Bool.not_true, Bool.false_eq_true, if_false, Option.bind_some, Bool.true_or, if_true]
      · have e : (decide (l.Holds[i].Lo < 0) || decide (l.Holds[i].Hi < l.Holds[i].Lo)) = false := by simp; omega
        simp only [e, gb, Bool.not_false, if_true, Option.bind_some, Bool.false_or]
        rw [if_pos (by rw [decide_eq_true_eq]; omega)]
  · unfold hull_CheckLoad_b2
    simp only
    rw [if_neg (by simp), (loadJ1 hg hl hJ.2 hw).1]
    cases a <;> rfl
theorem hload_eq (s : api_Ship) (l : api_Load) (hl : Len s.Holds) (hw : LoadW l) : hull_CheckLoad s l = some (chkL s l) := by
  unfold hull_CheckLoad chkL
  rw [hcheck_eq s hl, Option.bind_some]
  by_cases h : chk s = 0
  · rw [if_neg (by simp [h]), if_pos h]
    unfold loadE
    by_cases h2 : (l.Holds.length : Int) = (s.Holds.length : Int)
    · rw [if_neg (by simp [h2]), if_pos h2]; exact hload_loop (GoodS.of h) (by omega) hw
    · rw [if_pos (by simpa using h2), if_neg h2]
  · rw [if_pos (by simp [h]), if_neg h]
/-- A load that is right. -/
structure GoodL (s : api_Ship) (l : api_Load) : Prop where
  ship : GoodS s
  len : l.Holds.length = s.Holds.length
  spans : SpansOK s l l.Holds.length
  all : 0 ≤ l.All.Lo ∧ l.All.Lo ≤ l.All.Hi ∧ l.All.Hi ≤ 65536
  few : l.All.Hi - l.All.Lo < 4000
  some_ : max (loSum l.Holds) l.All.Lo ≤ min (hiSum l.Holds) l.All.Hi
theorem spansE_zero {rest : Int} : ∀ (hs : List api_Hold) (l : List api_Span), spansE rest hs l = 0 → (∀ (j : Nat) (x : api_Span) (h : api_Hold), l[j]? = some x → hs[j]? = some h → 0 ≤ x.Lo ∧ x.Lo ≤ x.Hi ∧ x.Hi ≤ h.Room) ∧ rest = 0
  | hs, [], h => ⟨fun j x h hx => by simp at hx, by cases hs <;> exact h⟩
  | [], x :: r, h => by simp [spansE] at h
  | y :: t, x :: r, h => by
    unfold spansE at h
    split at h
    · rename_i hb
      obtain ⟨q1, q2⟩ := spansE_zero t r h
      refine ⟨fun j a b ha hb' => ?_, q2⟩
      cases j with
      | zero =>
        simp only [List.getElem?_cons_zero, Option.some.injEq] at ha hb'
        subst ha; subst hb'
        simp only [spanB, Bool.and_eq_true, decide_eq_true_eq] at hb
        omega
      | succ j => exact q1 j a b (by simpa using ha) (by simpa using hb')
    · omega
theorem GoodL.of {s : api_Ship} {l : api_Load} (h : chkL s l = 0) : GoodL s l := by
  unfold chkL at h
  split at h
  · rename_i hc
    have hg := GoodS.of hc
    unfold loadE at h
    split at h
    · rename_i hl
      obtain ⟨q1, q2⟩ := spansE_zero _ _ h
      unfold allE at q2
      split at q2
      · omega
      · split at q2
        · omega
        · split at q2
          · omega
          · exact ⟨hg, by omega, fun j _ x y hx hy => q1 j x y hx hy, by omega, by omega, by omega⟩
    · omega
  · omega
theorem GoodL.lenL {s : api_Ship} {l : api_Load} (h : GoodL s l) : l.Holds.length ≤ 8 := by have := h.len; have := h.ship.nh; omega
theorem GoodL.mem {s : api_Ship} {l : api_Load} (h : GoodL s l) : ∀ x ∈ l.Holds, 0 ≤ x.Lo ∧ x.Lo ≤ x.Hi ∧ x.Hi ≤ 65536 := spans_mem h.ship h.len h.spans
/-- The totals that occur. -/
def totLo (l : api_Load) : Int := max (loSum l.Holds) l.All.Lo
def totHi (l : api_Load) : Int := min (hiSum l.Holds) l.All.Hi
theorem GoodL.tot {s : api_Ship} {l : api_Load} (h : GoodL s l) : 0 ≤ loSum l.Holds ∧ loSum l.Holds ≤ totLo l ∧ totLo l ≤ totHi l ∧ totHi l ≤ hiSum l.Holds ∧ hiSum l.Holds ≤ 524288 ∧ l.All.Lo ≤ totLo l ∧ totHi l ≤ l.All.Hi := by
  have h1 := sums_ok h.ship h.len h.spans
  have h2 := h.some_
  unfold totLo totHi
  omega
/-! What fits. -/
def fitsE (rest : Bool) : List api_Span → List Int → Bool
  | _, [] => rest
  | h :: t, x :: r => decide (h.Lo ≤ x) && decide (x ≤ h.Hi) && fitsE rest t r
  | [], _ :: _ => false
def fitB (l : api_Load) (x : List Int) : Bool := decide (x.length = l.Holds.length) && fitsE (decide (l.All.Lo ≤ w64 x.sum) && decide (w64 x.sum ≤ l.All.Hi)) l.Holds x
theorem hfits_eq (l : api_Load) (x : List Int) (hl : Len l.Holds) (hx : Len x) : hull_fits l x = some (fitB l x) := by
  unfold hull_fits fitB
  by_cases h : x.length = l.Holds.length
  · rw [if_neg (by simp [h])]
    simp only [h, decide_true, Bool.true_and]
    refine lp_list (body := hull_fits_b2 l x) x hx (fun (_ : List api_Span) i => i) (fitsE _) (fun i a => a = l.Holds.drop i) rfl rfl (fun a i hi hJ => ?_) (fun a hJ => ?_)
    · have hi2 : i < l.Holds.length := by omega
      unfold hull_fits_b2
      simp only
      rw [if_pos (by simpa using hi), ix_lt hi, Option.bind_some, w64s' hi hx, ix_lt hi2, Option.bind_some, Option.bind_some, hJ, List.drop_eq_getElem_cons hi2]
      simp only [fitsE]
      by_cases hb : hull_within x[i] l.Holds[i].Lo l.Holds[i].Hi = true
      · left
        rw [if_neg (by simp [hb])]
        simp only [hull_within] at hb
        exact ⟨l.Holds.drop (i + 1), rfl, by rw [hb, Bool.true_and], rfl⟩
      · right
        rw [if_pos (by simpa using hb)]
        simp only [hull_within, Bool.not_eq_true] at hb
        rw [hb, Bool.false_and]
    · unfold hull_fits_b2 hull_fits_j1
      simp only
      rw [if_neg (by simp), hsum_eq x hx]
      cases a <;> rfl
  · rw [if_pos (by simp; omega)]; simp [h]
/-- Masses are a loading of a load. -/
structure Fit (l : api_Load) (x : List Int) : Prop where
  len : x.length = l.Holds.length
  span : ∀ i (h1 : i < x.length) (h2 : i < l.Holds.length), l.Holds[i].Lo ≤ x[i] ∧ x[i] ≤ l.Holds[i].Hi
  all : l.All.Lo ≤ x.sum ∧ x.sum ≤ l.All.Hi
theorem fitsE_iff {rest : Bool} : ∀ (l : List api_Span) (x : List Int), x.length = l.length → (fitsE rest l x = true ↔ (∀ i (h1 : i < x.length) (h2 : i < l.length), l[i].Lo ≤ x[i] ∧ x[i] ≤ l[i].Hi) ∧ rest = true)
  | l, [], h => by cases l <;> simp [fitsE]
  | [], x :: r, h => by simp at h
  | y :: t, x :: r, h => by
    simp only [fitsE, Bool.and_eq_true, decide_eq_true_eq]
    rw [fitsE_iff t r (by simpa using h)]
    constructor
    · rintro ⟨h1, h2, h3⟩
      refine ⟨fun i q1 q2 => ?_, h3⟩
      cases i with
      | zero => exact h1
      | succ i => simpa using h2 i (by simpa using q1) (by simpa using q2)
    · rintro ⟨h1, h2⟩
      exact ⟨h1 0 (Nat.succ_pos _) (Nat.succ_pos _), fun i q1 q2 => h1 (i + 1) (Nat.succ_lt_succ q1) (Nat.succ_lt_succ q2), h2⟩
theorem sum_fit : ∀ (l : List api_Span) (x : List Int), x.length = l.length → (∀ i (h1 : i < x.length) (h2 : i < l.length), l[i].Lo ≤ x[i] ∧ x[i] ≤ l[i].Hi) → loSum l ≤ x.sum ∧ x.sum ≤ hiSum l
  | l, [], h, _ => by cases l <;> simp_all [loSum, hiSum]
  | [], x :: r, h, _ => by simp at h
  | y :: t, x :: r, h, hh => by
    have h0 := hh 0 (by simp) (by simp)
    have h1 := sum_fit t r (by simpa using h) fun i q1 q2 => hh (i + 1) (Nat.succ_lt_succ q1) (Nat.succ_lt_succ q2)
    simp only [List.getElem_cons_zero] at h0
    simp only [loSum, hiSum, List.map_cons, List.sum_cons] at *
    omega
theorem fitB_iff {s : api_Ship} {l : api_Load} (hg : GoodL s l) (x : List Int) : fitB l x = true ↔ Fit l x := by
  unfold fitB
  rw [Bool.and_eq_true, decide_eq_true_eq]
  have hs := hg.tot
  constructor
  · rintro ⟨h1, h2⟩
    obtain ⟨q1, q2⟩ := (fitsE_iff _ _ h1).1 h2
    have h3 := sum_fit _ _ h1 q1
    rw [w64_id (by omega) (by omega)] at q2
    simp only [Bool.and_eq_true, decide_eq_true_eq] at q2
    exact ⟨h1, q1, q2⟩
  · intro h
    have h3 := sum_fit _ _ h.len h.span
    refine ⟨h.len, (fitsE_iff _ _ h.len).2 ⟨h.span, ?_⟩⟩
    rw [w64_id (by omega) (by omega)]
    simp only [Bool.and_eq_true, decide_eq_true_eq]
    exact h.all
theorem Fit.sum {s : api_Ship} {l : api_Load} (hg : GoodL s l) {x : List Int} (h : Fit l x) : totLo l ≤ x.sum ∧ x.sum ≤ totHi l := by
  have h1 := sum_fit _ _ h.len h.span
  have h2 := h.all
  unfold totLo totHi
  omega
theorem hFits_eq (s : api_Ship) (l : api_Load) (x : List Int) (hl : Len s.Holds) (hw : LoadW l) (hL : Len l.Holds) (hx : Len x) : hull_Fits s l x = some (decide (chkL s l = 0) && fitB l x) := by
  unfold hull_Fits
  rw [hload_eq s l hl hw, Option.bind_some, hfits_eq l x hL hx]
  by_cases h : chkL s l = 0 <;> simp [h, gb]
end Go.Mx
