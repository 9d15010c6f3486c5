/- Cuts: the fewest are found by going as far as it goes. Conditions: none. -/
import Derived.Test.YtphmekpaalfliaaLawS
set_option linter.unusedVariables false
namespace Go.Mx

/-! ### Greedy cuts, over any measure that falls as a span grows -/

section
variable (G : Int → Int → Int) (h : Int)

/-- Cuts, as far as each goes: n minutes from t on, where the part began at s. -/
def grd : Nat → Int → Int → List Int
  | 0, _, _ => []
  | n + 1, t, s => if G s t < h then t :: grd n (t + 1) t else grd n (t + 1) s

/-- Cuts under which all is high enough. -/
def good : Nat → Int → Int → List Int → Prop
  | 0, _, _, cs => cs = []
  | n + 1, t, s, c :: cs => if c = t then h ≤ G t t ∧ good n (t + 1) t cs else h ≤ G s t ∧ good n (t + 1) s (c :: cs)
  | n + 1, t, s, [] => h ≤ G s t ∧ good n (t + 1) s []

structure Falls : Prop where
  mono : ∀ a a' b, a ≤ a' → a' ≤ b → G a b ≤ G a' b

variable {G h}

theorem good_nil {n : Nat} {t s : Int} : good G h (n + 1) t s [] ↔ h ≤ G s t ∧ good G h n (t + 1) s [] := Iff.rfl
theorem good_cut {n : Nat} {t s : Int} {cs : List Int} : good G h (n + 1) t s (t :: cs) ↔ h ≤ G t t ∧ good G h n (t + 1) t cs := by simp [good]
theorem good_on {n : Nat} {t s c : Int} {cs : List Int} (hc : c ≠ t) : good G h (n + 1) t s (c :: cs) ↔ h ≤ G s t ∧ good G h n (t + 1) s (c :: cs) := by simp [good, hc]

theorem grd_least (hG : Falls G) : ∀ (n : Nat) (t s s' : Int) (cs : List Int), s ≤ t - 1 → s' ≤ t - 1 → good G h n t s' cs → (s' ≤ s → (grd G h n t s).length ≤ cs.length) ∧ (grd G h n t s).length ≤ cs.length + 1
  | 0, t, s, s', cs, _, _, _ => by simp [grd]
  | n + 1, t, s, s', cs, h1, h2, hg => by
    unfold grd
    have on : ∀ cs', h ≤ G s' t → good G h n (t + 1) s' cs' → (s' ≤ s → (if G s t < h then t :: grd G h n (t + 1) t else grd G h n (t + 1) s).length ≤ cs'.length) ∧ (if G s t < h then t :: grd G h n (t + 1) t else grd G h n (t + 1) s).length ≤ cs'.length + 1 := by
      intro cs' k1 k2
      split
      · rename_i hl
        have ih := (grd_least hG n (t + 1) t s' cs' (by omega) (by omega) k2).1 (by omega)
        refine ⟨fun hs => ?_, by simp; omega⟩
        have := hG.mono s' s t hs (by omega)
        omega
      · have ih := grd_least hG n (t + 1) s s' cs' (by omega) (by omega) k2
        exact ih
    cases cs with
    | nil => exact on [] (good_nil.1 hg).1 (good_nil.1 hg).2
    | cons c cs =>
      by_cases hc : c = t
      · subst hc
        obtain ⟨k1, k2⟩ := good_cut.1 hg
        split
        · have ih := (grd_least hG n (c + 1) c c cs (by omega) (by omega) k2).1 (by omega)
          exact ⟨fun _ => by simp; omega, by simp; omega⟩
        · have ih := (grd_least hG n (c + 1) s c cs (by omega) (by omega) k2).2
          exact ⟨fun _ => by simp; omega, by simp; omega⟩
      · exact on (c :: cs) ((good_on hc).1 hg).1 ((good_on hc).1 hg).2

theorem grd_from : ∀ (n : Nat) (t s : Int), ∀ c ∈ grd G h n t s, t ≤ c ∧ c < t + n
  | 0, t, s, c, hc => by simp [grd] at hc
  | n + 1, t, s, c, hc => by
    unfold grd at hc
    split at hc
    · rcases List.mem_cons.1 hc with rfl | hc
      · omega
      · have := grd_from n (t + 1) t c hc; omega
    · have := grd_from n (t + 1) s c hc; omega

theorem grd_good : ∀ (n : Nat) (t s : Int), (∀ k : Int, t ≤ k → k < t + n → h ≤ G k k) → good G h n t s (grd G h n t s)
  | 0, t, s, _ => rfl
  | n + 1, t, s, hk => by
    unfold grd
    split
    · exact good_cut.2 ⟨hk t (by omega) (by omega), grd_good n (t + 1) t (fun k k1 k2 => hk k (by omega) (by omega))⟩
    · rename_i hl
      have ih := grd_good n (t + 1) s (fun k k1 k2 => hk k (by omega) (by omega))
      cases hq : grd G h n (t + 1) s with
      | nil => rw [hq] at ih; exact good_nil.2 ⟨by omega, ih⟩
      | cons c cs =>
        have := grd_from (G := G) (h := h) n (t + 1) s c (by rw [hq]; simp)
        rw [hq] at ih
        exact (good_on (by omega)).2 ⟨by omega, ih⟩

theorem good_high (hG : Falls G) : ∀ (n : Nat) (t s : Int) (cs : List Int), s ≤ t - 1 → good G h n t s cs → ∀ k : Int, t ≤ k → k < t + n → h ≤ G k k
  | 0, t, s, cs, _, _, k, h1, h2 => by omega
  | n + 1, t, s, cs, hs, hg, k, h1, h2 => by
    have on : ∀ cs', h ≤ G s t → good G h n (t + 1) s cs' → h ≤ G k k := by
      intro cs' k1 k2
      by_cases e : k = t
      · subst e
        have := hG.mono s k k (by omega) (by omega)
        omega
      · exact good_high hG n (t + 1) s cs' (by omega) k2 k (by omega) (by omega)
    cases cs with
    | nil => exact on [] (good_nil.1 hg).1 (good_nil.1 hg).2
    | cons c cs =>
      by_cases hc : c = t
      · subst hc
        obtain ⟨k1, k2⟩ := good_cut.1 hg
        by_cases e : k = c
        · subst e; exact k1
        · exact good_high hG n (c + 1) c cs (by omega) k2 k (by omega) (by omega)
      · exact on (c :: cs) ((good_on hc).1 hg).1 ((good_on hc).1 hg).2

/-- Cuts in order, behind some minute. -/
def incr : Int → Int → List Int → Prop
  | _, _, [] => True
  | last, hi, c :: r => last + 1 ≤ c ∧ c ≤ hi ∧ incr c hi r

theorem grd_incr : ∀ (n : Nat) (t s last : Int), last + 1 ≤ t → incr last (t + n - 1) (grd G h n t s)
  | 0, t, s, last, _ => trivial
  | n + 1, t, s, last, hl => by
    unfold grd
    have e : t + ((n + 1 : Nat) : Int) - 1 = (t + 1) + (n : Int) - 1 := by omega
    split
    · refine ⟨hl, by omega, ?_⟩
      rw [e]; exact grd_incr n (t + 1) t t (by omega)
    · rw [e]; exact grd_incr n (t + 1) s last (by omega)

theorem good_of_incr_end {n : Nat} {t s : Int} : ∀ (cs : List Int), good G h n t s cs → incr (t - 1) (t + n - 1) cs := by
  induction n generalizing t s with
  | zero => intro cs hg; simp only [good] at hg; subst hg; trivial
  | succ n ih =>
    intro cs hg
    have e : t + ((n + 1 : Nat) : Int) - 1 = (t + 1) + (n : Int) - 1 := by omega
    rw [e]
    cases cs with
    | nil => trivial
    | cons c cs =>
      by_cases hc : c = t
      · subst hc
        have := ih cs (good_cut.1 hg).2
        refine ⟨by omega, by omega, ?_⟩
        rw [show c = c + 1 - 1 by omega]
        simpa using this
      · have := ih (c :: cs) ((good_on hc).1 hg).2
        obtain ⟨k1, k2, k3⟩ := this
        exact ⟨by omega, by omega, k3⟩
end

/-! ### The floor of a part -/

def pv (w : api_Water) (t : Int) : List Int := corr w.Shifts t :: w.Cycles.map fun c => val c t
def vmin (a b : List Int) : List Int := List.zipWith min a b
/-- The least values in n + 1 minutes up to t. -/
def mv (w : api_Water) (t : Int) : Nat → List Int
  | 0 => pv w t
  | n + 1 => vmin (pv w t) (mv w (t - 1) n)
def fl (w : api_Water) (v : List Int) : Int := w.Level + v.sum
/-- The floor of the minutes from a to b. -/
def GG (w : api_Water) (a b : Int) : Int := fl w (mv w b (b - a).toNat)

def Le (a b : List Int) : Prop := a.length = b.length ∧ ∀ (i : Nat) x y, a[i]? = some x → b[i]? = some y → x ≤ y
theorem Le.refl (a : List Int) : Le a a := ⟨rfl, fun i x y h1 h2 => by rw [h1] at h2; cases h2; omega⟩
theorem Le.trans {a b c : List Int} (h : Le a b) (k : Le b c) : Le a c := ⟨h.1.trans k.1, fun i x z h1 h2 => by
  have hi : i < b.length := by rw [← h.1]; exact (List.getElem?_eq_some_iff.1 h1).1
  have := h.2 i x b[i] h1 (List.getElem?_eq_getElem hi)
  have := k.2 i b[i] z (List.getElem?_eq_getElem hi) h2
  omega⟩
theorem vmin_len {a b : List Int} (h : a.length = b.length) : (vmin a b).length = a.length := by simp [vmin, h]
theorem vmin_left {a b : List Int} (h : a.length = b.length) : Le (vmin a b) a := ⟨vmin_len h, fun i x y h1 h2 => by
  unfold vmin at h1
  rw [List.getElem?_zipWith] at h1
  rw [h2] at h1
  cases hb : b[i]? with
  | none => rw [hb] at h1; cases h1
  | some z => rw [hb] at h1; simp only [Option.some.injEq] at h1; subst h1; exact Int.min_le_left _ _⟩
theorem vmin_right {a b : List Int} (h : a.length = b.length) : Le (vmin a b) b := ⟨(vmin_len h).trans h, fun i x y h1 h2 => by
  unfold vmin at h1
  rw [List.getElem?_zipWith] at h1
  rw [h2] at h1
  cases hb : a[i]? with
  | none => rw [hb] at h1; cases h1
  | some z => rw [hb] at h1; simp only [Option.some.injEq] at h1; subst h1; exact Int.min_le_right _ _⟩
theorem vmin_mono {a b c d : List Int} (h : a.length = b.length) (h1 : Le a c) (h2 : Le b d) : Le (vmin a b) (vmin c d) := ⟨by rw [vmin_len h, vmin_len (by rw [← h1.1, h, h2.1])]; exact h1.1, fun i x y k1 k2 => by
  unfold vmin at k1 k2
  rw [List.getElem?_zipWith] at k1 k2
  cases ha : a[i]? with
  | none => rw [ha] at k1; simp at k1
  | some a' =>
    cases hb : b[i]? with
    | none => rw [ha, hb] at k1; simp at k1
    | some b' =>
      cases hc : c[i]? with
      | none => rw [hc] at k2; simp at k2
      | some c' =>
        cases hd : d[i]? with
        | none => rw [hc, hd] at k2; simp at k2
        | some d' =>
          rw [ha, hb] at k1
          rw [hc, hd] at k2
          simp only [Option.some.injEq] at k1 k2
          subst k1; subst k2
          have := h1.2 i _ _ ha hc
          have := h2.2 i _ _ hb hd
          omega⟩
theorem Le.sum : ∀ {a b : List Int}, Le a b → a.sum ≤ b.sum
  | [], [], _ => by simp
  | [], y :: b, h => by simp [Le] at h
  | x :: a, [], h => by simp [Le] at h
  | x :: a, y :: b, h => by
    have h0 := h.2 0 x y (by simp) (by simp)
    have := Le.sum (a := a) (b := b) ⟨by simpa using h.1, fun i x y h1 h2 => h.2 (i + 1) x y (by simpa using h1) (by simpa using h2)⟩
    simp; omega
theorem pv_len (w : api_Water) (t : Int) : (pv w t).length = w.Cycles.length + 1 := by simp [pv]
theorem mv_len (w : api_Water) : ∀ (n : Nat) (t : Int), (mv w t n).length = w.Cycles.length + 1
  | 0, t => pv_len w t
  | n + 1, t => by unfold mv; rw [vmin_len (by rw [pv_len, mv_len w n]), pv_len]
theorem mv_more (w : api_Water) : ∀ (n : Nat) (t : Int), Le (mv w t (n + 1)) (mv w t n)
  | 0, t => by unfold mv; exact vmin_left (by rw [pv_len, mv_len])
  | n + 1, t => by
    show Le (vmin (pv w t) (mv w (t - 1) (n + 1))) (vmin (pv w t) (mv w (t - 1) n))
    exact vmin_mono (by rw [pv_len, mv_len]) (Le.refl _) (mv_more w n (t - 1))
theorem mv_add (w : api_Water) (t : Int) (n : Nat) : ∀ k, Le (mv w t (n + k)) (mv w t n)
  | 0 => Le.refl _
  | k + 1 => (mv_more w (n + k) t).trans (mv_add w t n k)
theorem GG_falls (w : api_Water) : Falls (GG w) := ⟨fun a a' b h1 h2 => by
  unfold GG fl
  have e : (b - a).toNat = (b - a').toNat + (a' - a).toNat := by omega
  rw [e]
  have := (mv_add w b (b - a').toNat (a' - a).toNat).sum
  omega⟩
theorem GG_self (w : api_Water) (t : Int) : GG w t t = hgt w t := by
  unfold GG fl
  rw [show (t - t).toNat = 0 by omega]
  simp [mv, pv, hgt]; omega
theorem mv_next (w : api_Water) {a t : Int} (h : a ≤ t) : mv w (t + 1) (t + 1 - a).toNat = vmin (pv w (t + 1)) (mv w t (t - a).toNat) := by
  rw [show (t + 1 - a).toNat = (t - a).toNat + 1 by omega]
  show vmin _ (mv w (t + 1 - 1) _) = _
  rw [show t + 1 - 1 = t by omega]

end Go.Mx
