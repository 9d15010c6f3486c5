/- Plain laws of water, second part: few, what checks say, heights. Conditions: none. -/
import Derived.Test.YtnkngglimidldaaGreatLawT
import Derived.Test.YtnkngglimidldaaGreatOkp
set_option linter.unusedVariables false
namespace Go.Mx
structure zHy (w : zY) : Prop where
 l0 : -4000 ≤ w.Level
 l1 : w.Level ≤ 4000
 nc : w.Cycles.length ≤ 6
 ns : w.Shifts.length ≤ 20
 cs : ∀ c ∈ w.Cycles, Good c
 ss : ∀ s ∈ w.Shifts, -4000 ≤ s.Add ∧ s.Add ≤ 4000
structure LenW (w : zY) : Prop where
 c : Len w.Cycles
 s : Len w.Shifts
 h : ∀ c ∈ w.Cycles, Len c.Heights
theorem LenW.of {w : zY} (h : zBs w) : LenW w := ⟨h.2.1.1, h.2.2.1.1, fun c hc => (h.2.1.2 c hc).2.2.2.1.1⟩
theorem zMD (l : List zw) (c : zw) (hl : Len l) : ∃ r, ZG l c = some r := by
 unfold ZG
 unfold Len at hl
 suffices h : ∃ r, Lp (ZU l c) fuel 0 = some r ∧ True by obtain ⟨r, h, _⟩ := h; exact ⟨r, h⟩
 refine lp_inv' (fun i s => s = (i : Int)) _ l.length (by omega) rfl fun i s hi hI => ?_
 subst hI
 unfold ZU
 by_cases h : i < l.length
 ·rw [if_pos (by simpa using h), jO h]
  simp only [Option.bind_some]
  by_cases hr : ym l[i] c = true
  ·rw [if_pos hr]; exact .inr ⟨_, rfl, trivial⟩
  ·rw [if_neg hr]; exact .inl ⟨h, _, rfl, w64s i (by omega)⟩
 ·rw [if_neg (by simpa using h)]; exact .inr ⟨_, rfl, trivial⟩
theorem zMS (w : zY) (hn : w.Shifts.length ≤ 20) : ∃ e, Jd w = some e ∧ (e = 0 → ∀ s ∈ w.Shifts, -4000 ≤ s.Add ∧ s.Add ≤ 4000) := by
 unfold Jd
 refine lp_inv' (fun i s => s.2 = (i : Int) ∧ ∀ j (hj : j < w.Shifts.length), j < i → -4000 ≤ w.Shifts[j].Add ∧ w.Shifts[j].Add ≤ 4000) _ w.Shifts.length (by omega) ⟨rfl, fun j _ h => by omega⟩ fun i s hi hI => ?_
 obtain ⟨last, x⟩ := s
 obtain ⟨rfl, hI⟩ := hI
 unfold QU
 by_cases h : i < w.Shifts.length
 ·simp only
  rw [if_pos (by simpa using h), jO h]
  simp only [Option.bind_some]
  split
  ·exact .inr ⟨1, rfl, fun h => by cases h⟩
  ·rename_i hc
   refine .inl ⟨h, _, rfl, w64s i (by omega), fun j hj hji => ?_⟩
   by_cases hj' : j = i
   ·subst hj'
    simp only [Bool.or_eq_true, not_or, Bool.not_eq_true, Bool.not_eq_false', Zr, zh, Bool.and_eq_true, decide_eq_true_eq] at hc
    exact hc.2
   ·exact hI j hj (by omega)
 ·simp only
  rw [if_neg (by simpa using h)]
  refine .inr ⟨0, rfl, fun _ x hx => ?_⟩
  obtain ⟨j, hj, rfl⟩ := List.getElem_of_mem hx
  exact hI j hj (by omega)
theorem zKR {α : Type} {l : List α} {i : Nat} (h : i ≤ l.length) : sub l 0 (i : Int) = some (l.take i) := by
 unfold sub
 rw [if_pos ⟨by omega, by omega, by omega⟩]
 simp
theorem zKD (w : zY) (hw : LenW w) : ∃ e, yn w = some e ∧ (e = 0 → zHy w) := by
 unfold yn
 by_cases h1 : Zr w.Level = true
 ·rw [if_neg (by simp [h1])]
  simp only [Zr, zh, Bool.and_eq_true, decide_eq_true_eq] at h1
  split
  ·exact ⟨2, rfl, fun h => by cases h⟩
  ·rename_i h2
   simp only [Bool.or_eq_true, decide_eq_true_eq, not_or] at h2
   refine lp_inv' (fun i s => s = (i : Int) ∧ ∀ j (hj : j < w.Cycles.length), j < i → Good w.Cycles[j]) _ w.Cycles.length (by omega) ⟨rfl, fun j _ h => by omega⟩ fun i s hi hI => ?_
   obtain ⟨rfl, hI⟩ := hI
   unfold QT
   by_cases h : i < w.Cycles.length
   ·rw [if_pos (by simpa using h), jO h]
    simp only [Option.bind_some]
    obtain ⟨b, hb, hg⟩ := zJs w.Cycles[i] (hw.h _ (List.getElem_mem h))
    rw [hb]
    simp only [Option.bind_some]
    cases b with
    | false => exact .inr ⟨1, rfl, fun h => by cases h⟩
    | true =>
     simp only [Bool.not_true, Bool.false_eq_true, if_false]
     obtain ⟨r, hr⟩ := zMD (w.Cycles.take i) w.Cycles[i] (by unfold Len; simp; omega)
     rw [zKR (by omega)]
     unfold ZK
     simp only [Option.bind_some, hr]
     split
     ·exact .inr ⟨6, rfl, fun h => by cases h⟩
     ·refine .inl ⟨h, _, rfl, w64s i (by omega), fun j hj hji => ?_⟩
      by_cases hj' : j = i
      ·subst hj'; exact hg rfl
      ·exact hI j hj (by omega)
   ·rw [if_neg (by simpa using h)]
    obtain ⟨e, he, hs⟩ := zMS w (by omega)
    rw [he]
    refine .inr ⟨e, rfl, fun h0 => ⟨h1.1, h1.2, by omega, by omega, fun c hc => ?_, hs h0⟩⟩
    obtain ⟨j, hj, rfl⟩ := List.getElem_of_mem hc
    exact hI j hj (by omega)
 ·rw [if_pos (by simp [h1])]; exact ⟨1, rfl, fun h => by cases h⟩
def corr : List yf → Int → Int
 | [], _ => 0
 | s :: r, t => if s.From ≤ t / 1440 ∧ t / 1440 ≤ s.To then s.Add else corr r t
theorem zGk : ∀ (l : List yf) (t : Int), (∀ s ∈ l, -4000 ≤ s.Add ∧ s.Add ≤ 4000) → -4000 ≤ corr l t ∧ corr l t ≤ 4000
 | [], t, _ => by simp [corr]
 | s :: r, t, h => by
  unfold corr
  split
  ·exact h s List.mem_cons_self
  ·exact zGk r t fun x hx => h x (List.mem_cons_of_mem _ hx)
theorem zHs (l : List yf) (t : Int) : ∀ i, (∀ j (hj : j < l.length), j < i → ¬ (l[j].From ≤ t / 1440 ∧ t / 1440 ≤ l[j].To)) → corr l t = corr (l.drop i) t := by
 intro i
 induction i with
 | zero => intro _; simp
 | succ i ih =>
  intro h
  rw [ih fun j hj hji => h j hj (by omega)]
  by_cases hi : i < l.length
  ·rw [List.drop_eq_getElem_cons hi]
   simp only [corr]
   rw [if_neg (h i hi (by omega))]
  ·rw [List.drop_eq_nil_of_le (by omega), List.drop_eq_nil_of_le (by omega)]
theorem zHD (w : zY) (hn : w.Shifts.length ≤ 20) (t : Int) (h0 : 0 ≤ t) (h1 : t ≤ 1099511627776) : YG w t = some (corr w.Shifts t) := by
 unfold YG
 suffices h : ∃ r, Lp (yl w t) fuel 0 = some r ∧ r = corr w.Shifts t by obtain ⟨r, h, rfl⟩ := h; exact h
 have hq : quo t 1440 = some (t / 1440) := by
  unfold quo
  rw [if_neg (by omega), Int.tdiv_eq_ediv_of_nonneg h0, ZO (by omega) (by omega)]
 refine lp_inv' (fun i s => s = (i : Int) ∧ ∀ j (hj : j < w.Shifts.length), j < i → ¬ (w.Shifts[j].From ≤ t / 1440 ∧ t / 1440 ≤ w.Shifts[j].To)) _ w.Shifts.length (by omega) ⟨rfl, fun j _ h => by omega⟩ fun i s hi hI => ?_
 obtain ⟨rfl, hI⟩ := hI
 unfold yl
 by_cases h : i < w.Shifts.length
 ·rw [if_pos (by simpa using h), jO h, hq]
  simp only [Option.bind_some]
  by_cases hr : w.Shifts[i].From ≤ t / 1440 ∧ t / 1440 ≤ w.Shifts[i].To
  ·rw [if_pos (by simpa [zh] using hr)]
   refine .inr ⟨_, rfl, ?_⟩
   rw [zHs w.Shifts t i hI, List.drop_eq_getElem_cons h]
   simp only [corr]
   rw [if_pos hr]
  ·rw [if_neg (by simpa [zh] using hr)]
   refine .inl ⟨h, _, rfl, w64s i (by omega), fun j hj hji => ?_⟩
   by_cases hj' : j = i
   ·subst hj'; exact hr
   ·exact hI j hj (by omega)
 ·rw [if_neg (by simpa using h)]
  refine .inr ⟨0, rfl, ?_⟩
  rw [zHs w.Shifts t i hI, List.drop_eq_nil_of_le (by omega)]
  rfl
def hgt (w : zY) (t : Int) : Int := w.Level + corr w.Shifts t + (w.Cycles.map fun c => val c t).sum
theorem zHG : ∀ (l : List zw) (t : Int), (∀ c ∈ l, Good c) → -4000 * l.length ≤ (l.map fun c => val c t).sum ∧ (l.map fun c => val c t).sum ≤ 4000 * l.length
 | [], t, _ => by simp
 | c :: r, t, h => by
  have h1 := zHE (h c List.mem_cons_self) t
  have h2 := zHG r t fun x hx => h x (List.mem_cons_of_mem _ hx)
  simp only [List.map_cons, List.sum_cons, List.length_cons]
  omega
theorem zGZ {w : zY} (hw : zHy w) {t : Int} (h0 : 0 ≤ t) (h1 : t ≤ 1099511627776) : Jm t w w = some (hgt w t) := by
 unfold Jm
 suffices h : ∃ r, Lp (Yh t w w) fuel (w.Level, -1) = some r ∧ r = hgt w t by obtain ⟨r, h, rfl⟩ := h; exact h
 have hc := zHD w hw.ns t h0 h1
 have b1 := zGk w.Shifts t hw.ss
 have l0 := hw.l0
 have l1 := hw.l1
 have nc := hw.nc
 refine lp_inv' (fun i s => s.2 = (i : Int) - 1 ∧ s.1 = w.Level + (if i = 0 then 0 else corr w.Shifts t) + ((w.Cycles.take (i - 1)).map fun c => val c t).sum) _ (w.Cycles.length + 1) (by omega) ⟨rfl, by simp⟩ fun i s hi hI => ?_
 obtain ⟨a, b⟩ := s
 simp only at hI
 obtain ⟨rfl, rfl⟩ := hI
 unfold Yh
 simp only
 by_cases hz : i = 0
 ·subst hz
  rw [if_pos (by simp; omega), if_pos (by simp)]
  unfold zAd
  rw [hc]
  refine .inl ⟨by omega, _, rfl, ?_, ?_⟩
  ·simp; decide
  ·simp only [if_true, List.take_zero, List.map_nil, List.sum_nil, Nat.zero_sub, Nat.zero_add, Nat.sub_self]
   rw [ZO (by omega) (by omega)]
   simp
 ·obtain ⟨k, rfl⟩ : ∃ k, i = k + 1 := ⟨i - 1, by omega⟩
  simp only [Nat.add_sub_cancel]
  rw [show ((k + 1 : Nat) : Int) - 1 = (k : Int) by omega]
  by_cases h : k < w.Cycles.length
  ·rw [if_pos (by simpa using h), if_neg (by simp), jO h]
   simp only [Option.bind_some]
   unfold zAc
   have hg := hw.cs _ (List.getElem_mem h)
   rw [zLT hg (by omega) h1]
   have b2 := zHG (w.Cycles.take k) t fun x hx => hw.cs x (List.mem_of_mem_take hx)
   have b3 := zHE hg t
   rw [List.length_take] at b2
   refine .inl ⟨by omega, _, rfl, ?_, ?_⟩
   ·simp only; rw [ZO (by omega) (by omega)]; try omega
   ·simp only [if_neg (Nat.succ_ne_zero _)]
    rw [ZO (by omega) (by omega)]
    rw [List.take_add_one, List.getElem?_eq_getElem h]
    simp only [Option.toList_some, List.map_append, List.map_cons, List.map_nil, List.sum_append, List.sum_cons, List.sum_nil]
    omega
  ·rw [if_neg (by simpa using h)]
   refine .inr ⟨_, rfl, ?_⟩
   rw [if_neg (by omega), List.take_of_length_le (by omega)]
   rfl
end Go.Mx
