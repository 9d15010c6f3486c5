/- Plain laws, berths: the cheapest places (the loops of the search). Conditions: none. -/
import Derived.Test.YtnkngglimidldaaGreatLawYa
set_option linter.unusedVariables false
set_option linter.unusedSimpArgs false
namespace Go.Mx
theorem qE {σ ρ : Type} {body : σ → Option (σ ⊕ ρ)} {X : σ → Option ρ} {s0 : σ} (I : Nat → σ → Prop) (n : Nat) (hn : n < 18446744073709551615) (h0 : I 0 s0) (step : ∀ i s, i < n → I i s → ∃ s', body s = some (.inl s') ∧ I (i + 1) s') (last : ∀ s, I n s → body s = (X s).map Sum.inr) : ∃ s, I n s ∧ Lp body fuel s0 = X s := by
 have key : ∀ (m i : Nat) (s : σ), n < i + m → i ≤ n → I i s → ∃ s', I n s' ∧ Lp body m s = X s' := by
  intro m
  induction m with
  | zero => intro i s h h' hI; omega
  | succ m ih =>
   intro i s h h' hI
   by_cases e : i = n
   ·subst e
    refine ⟨s, hI, ?_⟩
    have := last s hI
    cases hx : X s with
    | none => rw [hx] at this; simp only [Option.map_none] at this; simp [Lp, this]
    | some r => rw [hx] at this; exact zFj m this
   ·obtain ⟨s', q1, q2⟩ := step i s (by omega) hI
    rw [zFi m q1]
    exact ih (i + 1) s' (by omega) (by omega) q2
 exact key fuel 0 s0 (by unfold fuel; omega) (Nat.zero_le _) h0
def gB (l : List Bool) (i : Nat) : Bool := l.getD i false
theorem zMB {l : List Bool} {i : Nat} (h : i < l.length) : ix l (i : Int) = some (gB l i) := by
 rw [jO h]; simp [gB, List.getD_eq_getElem?_getD, h]
theorem gB_set {l : List Bool} {i : Nat} (h : i < l.length) (v : Bool) (j : Nat) : gB (l.set i v) j = if j = i then v else gB l j := by
 unfold gB
 rw [List.getD_eq_getElem?_getD, List.getD_eq_getElem?_getD, List.getElem?_set]
 by_cases e : j = i
 ·subst e; simp [h]
 ·rw [if_neg (fun q => e q.symm), if_neg e]
theorem gI_rep (n i : Nat) (x : Int) (h : i < n) : gI (List.replicate n x) i = x := by
 rw [zBS (by simpa using h)]; simp
theorem gB_rep (n i : Nat) : gB (List.replicate n false) i = false := by
 unfold gB
 rw [List.getD_eq_getElem?_getD, List.getElem?_replicate]
 split <;> rfl
theorem zJ5 {l : List Int} {i : Nat} (h : l.length ≤ i) : gI l i = 0 := by
 unfold gI
 rw [List.getD_eq_getElem?_getD, List.getElem?_eq_none h]; rfl
def cC (cost : List (List Int)) (r k : Nat) : Int := gI (cost.getD (r - 1) []) (k - 1)
structure qW (cost : List (List Int)) (p : Nat) : Prop where
 hn : cost.length ≤ p
 hp : p ≤ 1000
 r : ∀ row ∈ cost, row.length = p ∧ ∀ x ∈ row, -1001 ≤ x ∧ x ≤ 1073741824
theorem qW.row {cost : List (List Int)} {p : Nat} (h : qW cost p) {r : Nat} (h1 : 1 ≤ r) (h2 : r ≤ cost.length) : ix cost (w64 ((r : Int) - 1)) = some (cost.getD (r - 1) []) ∧ (cost.getD (r - 1) []).length = p := by
 have hp := h.hp; have hn := h.hn
 have hl : r - 1 < cost.length := by omega
 rw [ZO (by omega) (by omega), show (r : Int) - 1 = ((r - 1 : Nat) : Int) by omega, jO hl]
 have e : cost.getD (r - 1) [] = cost[r - 1] := by simp [List.getD_eq_getElem?_getD, hl]
 rw [e]
 exact ⟨rfl, (h.r _ (List.getElem_mem hl)).1⟩
theorem qW.at {cost : List (List Int)} {p : Nat} (h : qW cost p) {r k : Nat} (h1 : 1 ≤ r) (h2 : r ≤ cost.length) (h3 : 1 ≤ k) (h4 : k ≤ p) : ix (cost.getD (r - 1) []) (w64 ((k : Int) - 1)) = some (cC cost r k) ∧ -1001 ≤ cC cost r k ∧ cC cost r k ≤ 1073741824 := by
 have hp := h.hp
 obtain ⟨q1, q2⟩ := h.row h1 h2
 have hl : k - 1 < (cost.getD (r - 1) []).length := by omega
 have hm : cost.getD (r - 1) [] ∈ cost := by
  have : r - 1 < cost.length := by omega
  rw [show cost.getD (r - 1) [] = cost[r - 1] by simp [List.getD_eq_getElem?_getD, this]]
  exact List.getElem_mem this
 rw [ZO (by omega) (by omega), show (k : Int) - 1 = ((k - 1 : Nat) : Int) by omega, yh hl]
 refine ⟨rfl, ?_⟩
 have := (h.r _ hm).2 _ (List.getElem_mem hl)
 rw [← zBS hl] at this
 exact this
structure zKt (cost : List (List Int)) (p : Nat) (at_ x : Nat) (row col : List Int) (U : Nat → Bool) (least fr : List Int) (k : Nat) (next step : Int) (least' fr' : List Int) : Prop where
 l1 : least'.length = p + 1
 l2 : fr'.length = p + 1
 lo : ∀ j, 1 ≤ j → j < k → U j = false → gI least' j ≤ gI least j ∧ gI least' j ≤ cC cost x j - gI row x - gI col j ∧ ((gI least' j = gI least j ∧ gI fr' j = gI fr j) ∨ (gI least' j = cC cost x j - gI row x - gI col j ∧ gI fr' j = at_)) ∧ step ≤ gI least' j
 no : ∀ j, ¬ (1 ≤ j ∧ j < k ∧ U j = false) → gI least' j = gI least j ∧ gI fr' j = gI fr j
 nx : (next = 0 ∧ step = 4294967296) ∨ ∃ m : Nat, next = (m : Int) ∧ 1 ≤ m ∧ m < k ∧ U m = false ∧ step = gI least' m ∧ step < 4294967296
theorem scan_eq {cost : List (List Int)} {p : Nat} (hc : qW cost p) {at_ x i : Nat} {of row col least fr : List Int} {used : List Bool} (hx1 : 1 ≤ x) (hx2 : x ≤ cost.length) (ha : at_ ≤ p)
  (hr : row.length = cost.length + 1) (hcl : col.length = p + 1) (hl : least.length = p + 1) (hf : fr.length = p + 1) (hu : used.length = p + 1)
  (br : -9007199254740992 ≤ gI row x ∧ gI row x ≤ 9007199254740992) (bc : ∀ k, 1 ≤ k → k ≤ p → -9007199254740992 ≤ gI col k ∧ gI col k ≤ 9007199254740992) :
  ∃ (next step : Int) (least' fr' : List Int), zKt cost p at_ x row col (gB (used.set at_ true)) least fr (p + 1) next step least' fr' ∧
   Lp (Jh cost (p : Int) (i : Int) of (at_ : Int) row col used (x : Int)) fuel (0, 4294967296, 1, least, fr) = j6 (i : Int) of (at_ : Int) row col used next step least' fr' := by
 have hp := hc.hp
 have key := qE (body := Jh cost (p : Int) (i : Int) of (at_ : Int) row col used (x : Int)) (X := fun s => j6 (i : Int) of (at_ : Int) row col used s.1 s.2.1 s.2.2.2.1 s.2.2.2.2) (s0 := (0, 4294967296, 1, least, fr))
  (fun j s => s.2.2.1 = ((j + 1 : Nat) : Int) ∧ zKt cost p at_ x row col (gB (used.set at_ true)) least fr (j + 1) s.1 s.2.1 s.2.2.2.1 s.2.2.2.2) p (by omega)
  ⟨rfl, hl, hf, fun j h1 h2 => by omega, fun j _ => ⟨rfl, rfl⟩, .inl ⟨rfl, rfl⟩⟩
  (fun j s hj hI => by
   obtain ⟨next, step, k, ls, f⟩ := s
   simp only at hI
   obtain ⟨rfl, hI⟩ := hI
   have hj3 : ∀ (a b : Int) (z y : List Int), ja ((j + 1 : Nat) : Int) a b z y = some (.inl (a, b, ((j + 1 + 1 : Nat) : Int), z, y)) := by
    intro a b z y
    unfold ja
    rw [ZO (by omega) (by omega)]; rfl
   unfold Jh
   simp only
   rw [if_pos (by simp; omega), show put used (at_ : Int) true = used.set at_ true from rfl, zMB (by rw [List.length_set]; omega), Option.bind_some]
   by_cases hU : gB (used.set at_ true) (j + 1) = true
   ·rw [if_pos hU, hj3]
    refine ⟨_, rfl, rfl, hI.l1, hI.l2, fun q h1 h2 h3 => ?_, fun q hq => hI.no q fun e => hq ⟨e.1, by omega, e.2.2⟩, ?_⟩
    ·by_cases e : q = j + 1
     ·subst e; rw [hU] at h3; cases h3
     ·exact hI.lo q h1 (by omega) h3
    ·rcases hI.nx with h | ⟨m, h1, h2, h3, h4⟩
     ·exact .inl h
     ·exact .inr ⟨m, h1, h2, by omega, h4⟩
   ·rw [if_neg hU]
    have hU' : gB (used.set at_ true) (j + 1) = false := by simpa using hU
    obtain ⟨q1, q2⟩ := hc.row hx1 hx2
    obtain ⟨q3, q4, q5⟩ := hc.at hx1 hx2 (k := j + 1) (by omega) (by omega)
    have bcj := bc (j + 1) (by omega) (by omega)
    have e1 := hI.no (j + 1) (fun e => by omega)
    have hL := hI.l1; have hF := hI.l2
    rw [q1, Option.bind_some, q3, Option.bind_some, yh (by omega), Option.bind_some, yh (by omega), Option.bind_some, yh (by omega), Option.bind_some,
     ZO (n := cC cost x (j + 1) - gI row x) (by omega) (by omega), ZO (by omega) (by omega)]
    -- the end of a round
    have fin : ∀ (z y : List Int), z.length = p + 1 → y.length = p + 1 → (∀ q, q ≠ j + 1 → gI z q = gI ls q ∧ gI y q = gI f q) →
      (gI z (j + 1) ≤ gI least (j + 1) ∧ gI z (j + 1) ≤ cC cost x (j + 1) - gI row x - gI col (j + 1) ∧ ((gI z (j + 1) = gI least (j + 1) ∧ gI y (j + 1) = gI fr (j + 1)) ∨ (gI z (j + 1) = cC cost x (j + 1) - gI row x - gI col (j + 1) ∧ gI y (j + 1) = at_))) →
      ∃ s', j4 next step ((j + 1 : Nat) : Int) z y = some (.inl s') ∧ s'.2.2.1 = ((j + 1 + 1 : Nat) : Int) ∧ zKt cost p at_ x row col (gB (used.set at_ true)) least fr (j + 1 + 1) s'.1 s'.2.1 s'.2.2.2.1 s'.2.2.2.2 := by
     intro z y hz hy hq hn
     unfold j4
     rw [yh (by omega), Option.bind_some]
     have base : ∀ (a b : Int), b ≤ step → b ≤ gI z (j + 1) → ((a = 0 ∧ b = 4294967296) ∨ ∃ m : Nat, a = (m : Int) ∧ 1 ≤ m ∧ m < j + 1 + 1 ∧ gB (used.set at_ true) m = false ∧ b = gI z m ∧ b < 4294967296) → zKt cost p at_ x row col (gB (used.set at_ true)) least fr (j + 1 + 1) a b z y := by
      intro a b hb1 hb2 hb3
      refine ⟨hz, hy, fun q h1 h2 h3 => ?_, fun q h1 => ?_, hb3⟩
      ·by_cases e : q = j + 1
       ·subst e; exact ⟨hn.1, hn.2.1, hn.2.2, hb2⟩
       ·obtain ⟨r1, r2, r3, r4⟩ := hI.lo q h1 (by omega) h3
        obtain ⟨s1, s2⟩ := hq q e
        rw [s1, s2]
        exact ⟨r1, r2, r3, by omega⟩
      ·have e : q ≠ j + 1 := fun e => h1 ⟨by omega, by omega, by rw [e]; exact hU'⟩
       obtain ⟨s1, s2⟩ := hq q e
       rw [s1, s2]
       exact hI.no q fun w => h1 ⟨w.1, by omega, w.2.2⟩
     by_cases hs : gI z (j + 1) < step
     ·rw [if_pos (by simpa using hs), Option.bind_some, hj3]
      have h4 : step ≤ 4294967296 := by
       rcases hI.nx with h | ⟨m, h1, h2, h3, h4, h5, h6⟩
       ·omega
       ·omega
      exact ⟨_, rfl, rfl, base ((j + 1 : Nat) : Int) (gI z (j + 1)) (by omega) (Int.le_refl _) (.inr ⟨j + 1, rfl, by omega, by omega, hU', rfl, by omega⟩)⟩
     ·rw [if_neg (by simpa using hs), hj3]
      refine ⟨_, rfl, rfl, base next step (Int.le_refl _) (by omega) ?_⟩
      rcases hI.nx with h | ⟨m, h1, h2, h3, h4, h5, h6⟩
      ·exact .inl h
      ·refine .inr ⟨m, h1, h2, by omega, h4, ?_, h6⟩
       rw [(hq m (by omega)).1]; exact h5
    by_cases hlt : cC cost x (j + 1) - gI row x - gI col (j + 1) < gI ls (j + 1)
    ·rw [if_pos (by simpa using hlt), Option.bind_some, yh (by omega), Option.bind_some, yx, yx]
     refine fin _ _ (by rw [List.length_set]; exact hL) (by rw [List.length_set]; exact hF) (fun q hq => ?_) ?_
     ·rw [JN (by omega), JN (by omega), if_neg hq, if_neg hq]; exact ⟨rfl, rfl⟩
     ·rw [JN (by omega), JN (by omega), if_pos rfl, if_pos rfl]
      exact ⟨by omega, Int.le_refl _, .inr ⟨rfl, rfl⟩⟩
    ·rw [if_neg (by simpa using hlt)]
     exact fin _ _ hL hF (fun q hq => ⟨rfl, rfl⟩) ⟨by omega, by omega, .inl e1⟩)
  (fun s hI => by
   obtain ⟨next, step, k, ls, f⟩ := s
   simp only at hI
   obtain ⟨rfl, hI⟩ := hI
   unfold Jh
   simp only
   rw [if_neg (by rw [decide_eq_true_eq]; omega)])
 obtain ⟨⟨next, step, k, ls, f⟩, ⟨h1, h2⟩, h3⟩ := key
 exact ⟨next, step, ls, f, h2, h3⟩
structure UpdI (n p : Nat) (O : Nat → Nat) (U : Nat → Bool) (step : Int) (row col least : List Int) (k : Nat) (row' col' least' : List Int) : Prop where
 l1 : row'.length = n + 1
 l2 : col'.length = p + 1
 l3 : least'.length = p + 1
 u1 : ∀ j, j < k → U j = true → gI row' (O j) = gI row (O j) + step
 u2 : ∀ r, (∀ j, j < k → U j = true → O j ≠ r) → gI row' r = gI row r
 v1 : ∀ j, gI col' j = if j < k ∧ U j = true then gI col j - step else gI col j
 m1 : ∀ j, gI least' j = if j < k ∧ U j = false then gI least j - step else gI least j
theorem upd_eq {n p i at_ : Nat} {of row col least fr : List Int} {used : List Bool} {next step : Int} (hn : n ≤ 1000) (hp : p ≤ 1000) (ha : at_ ≤ p) (hr : row.length = n + 1) (hcl : col.length = p + 1) (hl : least.length = p + 1) (hu : used.length = p + 1) (ho : of.length = p + 1)
  {O : Nat → Nat} (hO : ∀ j, j ≤ p → gI (of.set 0 (i : Int)) j = (O j : Int)) (hO2 : ∀ j, j ≤ p → gB (used.set at_ true) j = true → O j ≤ n) (hO3 : ∀ j k, j ≤ p → k ≤ p → gB (used.set at_ true) j = true → gB (used.set at_ true) k = true → O j = O k → j = k)
  (bs : -9007199254740992 ≤ step ∧ step ≤ 9007199254740992) (br : ∀ r, -9007199254740992 ≤ gI row r ∧ gI row r ≤ 9007199254740992) (bc : ∀ k, -9007199254740992 ≤ gI col k ∧ gI col k ≤ 9007199254740992) (bl : ∀ k, k ≤ p → gB (used.set at_ true) k = false → -9007199254740992 ≤ gI least k ∧ gI least k ≤ 9007199254740992) :
  ∃ row' col' least', UpdI n p O (gB (used.set at_ true)) step row col least (p + 1) row' col' least' ∧
   Lp (Ji (i : Int) of (at_ : Int) used next step fr) fuel (0, row, col, least) = jb (i : Int) of (at_ : Int) used next fr row' col' least' := by
 have hlen : (put used (at_ : Int) true).length = p + 1 := by rw [yx, List.length_set]; exact hu
 have key := qE (body := Ji (i : Int) of (at_ : Int) used next step fr) (X := fun s => jb (i : Int) of (at_ : Int) used next fr s.2.1 s.2.2.1 s.2.2.2) (s0 := (0, row, col, least))
  (fun j s => s.1 = (j : Int) ∧ UpdI n p O (gB (used.set at_ true)) step row col least j s.2.1 s.2.2.1 s.2.2.2) (p + 1) (by omega)
  ⟨rfl, hr, hcl, hl, fun j h => by omega, fun r _ => rfl, fun j => by rw [if_neg (by omega)], fun j => by rw [if_neg (by omega)]⟩
  (fun j s hj hI => by
   obtain ⟨k, rw', cl, ls⟩ := s
   simp only at hI
   obtain ⟨rfl, hI⟩ := hI
   have hL1 := hI.l1; have hL2 := hI.l2; have hL3 := hI.l3
   have hj3 : ∀ (a b c : List Int), j5 (j : Int) a b c = some (.inl (((j + 1 : Nat) : Int), a, b, c)) := by
    intro a b c
    unfold j5
    rw [ZO (by omega) (by omega)]; rfl
   unfold Ji
   simp only
   rw [if_pos (by rw [hlen, decide_eq_true_eq]; omega), show put used (at_ : Int) true = used.set at_ true from rfl, zMB (by rw [List.length_set]; omega), Option.bind_some]
   have hvj := hI.v1 j
   have hmj := hI.m1 j
   rw [if_neg (by omega)] at hvj hmj
   by_cases hU : gB (used.set at_ true) j = true
   ·have hOj := hO2 j (by omega) hU
    have hrj : gI rw' (O j) = gI row (O j) := hI.u2 _ fun q hq hq2 e => by
     have := hO3 q j (by omega) (by omega) hq2 hU e; omega
    have b1 := br (O j); have b2 := bc j
    rw [if_pos hU, show put of 0 (i : Int) = of.set 0 (i : Int) from rfl, yh (by rw [List.length_set]; omega), Option.bind_some, hO j (by omega), yh (by omega), Option.bind_some, Option.bind_some, yh (by omega), Option.bind_some, Option.bind_some,
     hrj, hvj, ZO (n := gI row (O j) + step) (by omega) (by omega), ZO (n := gI col j - step) (by omega) (by omega), yx, yx, hj3]
    refine ⟨_, rfl, rfl, by simp only [List.length_set]; exact hL1, by simp only [List.length_set]; exact hL2, hL3, fun q h1 h2 => ?_, fun r h => ?_, fun q => ?_, fun q => ?_⟩
    ·simp only
     rw [JN (by omega)]
     by_cases e : q = j
     ·subst e; rw [if_pos rfl]
     ·rw [if_neg (fun w => e (hO3 q j (by omega) (by omega) h2 hU w))]
      exact hI.u1 q (by omega) h2
    ·simp only
     rw [JN (by omega), if_neg (fun w => h j (by omega) hU w.symm)]
     exact hI.u2 r fun q h1 h2 => h q (by omega) h2
    ·simp only
     rw [JN (by omega)]
     by_cases e : q = j
     ·subst e; rw [if_pos rfl, if_pos ⟨by omega, hU⟩]
     ·rw [if_neg e, hI.v1 q]
      by_cases w : q < j ∧ gB (used.set at_ true) q = true
      ·rw [if_pos w, if_pos ⟨by omega, w.2⟩]
      ·rw [if_neg w, if_neg (fun z => w ⟨by omega, z.2⟩)]
    ·simp only
     rw [hI.m1 q]
     by_cases w : q < j ∧ gB (used.set at_ true) q = false
     ·rw [if_pos w, if_pos ⟨by omega, w.2⟩]
     ·rw [if_neg w, if_neg (fun z => w ⟨by
       have : q ≠ j := fun e => by rw [e, hU] at z; cases z.2
       omega, z.2⟩)]
   ·have hU' : gB (used.set at_ true) j = false := by simpa using hU
    have b3 := bl j (by omega) hU'
    rw [if_neg hU, yh (by omega), Option.bind_some, Option.bind_some, hmj, ZO (by omega) (by omega), yx, hj3]
    refine ⟨_, rfl, rfl, hL1, hL2, by simp only [List.length_set]; exact hL3, fun q h1 h2 => ?_, fun r h => hI.u2 r fun q h1 h2 => h q (by omega) h2, fun q => ?_, fun q => ?_⟩
    ·have : q ≠ j := fun e => by rw [e, hU'] at h2; cases h2
     exact hI.u1 q (by omega) h2
    ·simp only
     rw [hI.v1 q]
     by_cases w : q < j ∧ gB (used.set at_ true) q = true
     ·rw [if_pos w, if_pos ⟨by omega, w.2⟩]
     ·rw [if_neg w, if_neg (fun z => w ⟨by
       have : q ≠ j := fun e => by rw [e, hU'] at z; cases z.2
       omega, z.2⟩)]
    ·simp only
     rw [JN (by omega)]
     by_cases e : q = j
     ·subst e; rw [if_pos rfl, if_pos ⟨by omega, hU'⟩]
     ·rw [if_neg e, hI.m1 q]
      by_cases w : q < j ∧ gB (used.set at_ true) q = false
      ·rw [if_pos w, if_pos ⟨by omega, w.2⟩]
      ·rw [if_neg w, if_neg (fun z => w ⟨by omega, z.2⟩)])
  (fun s hI => by
   obtain ⟨k, rw', cl, ls⟩ := s
   simp only at hI
   obtain ⟨rfl, hI⟩ := hI
   unfold Ji
   simp only
   rw [if_neg (by rw [hlen, decide_eq_true_eq]; omega)])
 obtain ⟨⟨k, rw', cl, ls⟩, ⟨h1, h2⟩, h3⟩ := key
 exact ⟨rw', cl, ls, h2, h3⟩
end Go.Mx
