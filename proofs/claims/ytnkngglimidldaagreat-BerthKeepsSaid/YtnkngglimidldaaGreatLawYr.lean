/- Plain laws, berths: Change, and what is changed. Conditions: none. -/
import Derived.Test.YtnkngglimidldaaGreatLawBerthMost
set_option linter.unusedVariables false
set_option linter.unusedSimpArgs false
namespace Go.Mx
theorem zH4 (l : List zP) (hl : Len l) (id : Int) : Qs l id = some (match l.find? (fun s => decide (s.Call = id)) with | some s => (s, true) | none => (⟨0, ⟨0, 0⟩, ⟨0, 0⟩⟩, false)) := by
 have h : Zj l id = some (Yf (fun s => decide (s.Call = id)) l 0) := by
  unfold Zj ZE
  have e := zBw (body := zo l id) (fun s => decide (s.Call = id)) l hl (fun i hi => by
   unfold zo
   simp only
   rw [if_pos (by simpa using hi), jO hi, Option.bind_some, w64s' hi hl]; rfl) (by
   unfold zo
   simp only
   rw [if_neg (by simp)]; rfl)
  rw [e]; rfl
 unfold Qs
 rw [h, Option.bind_some]
 rcases Q0 (fun s : zP => decide (s.Call = id)) l 0 with ⟨h1, h2⟩ | ⟨i, h1, h2, h3, h4⟩
 ·rw [show (0 : Int) = ((0 : Nat) : Int) from rfl, h1, if_pos (by simp), List.find?_eq_none.2 fun x hx => by rw [h2 x hx]; simp]
 ·have e : Yf (fun s : zP => decide (s.Call = id)) l 0 = (i : Int) := by rw [show (0 : Int) = ((0 : Nat) : Int) from rfl, h1, Nat.zero_add]
  have hf : l.find? (fun s => decide (s.Call = id)) = some l[i] := List.find?_eq_some_iff_getElem.2 ⟨h3, i, h2, rfl, fun j hj => by simpa using h4 j hj⟩
  rw [e, if_neg (by simp), jO h2, Option.bind_some, hf]
theorem zK0 (l : List zF) (hl : Len l) (x : zF) : jw l x = some (Yf (fun y => decide (x = y)) l 0) := by
 unfold jw
 exact zBw (body := jQ l x) (fun y => decide (x = y)) l hl (fun i hi => by
  unfold jQ
  simp only
  rw [if_pos (by simpa using hi), jO hi, Option.bind_some, w64s' hi hl]) (by
  unfold jQ
  simp only
  rw [if_neg (by simp)]; rfl)
def zAv (sl : List zF) (old : List zP) (id : Int) : Int := match old.find? (fun s => decide (s.Call = id)) with
 | some s => Yf (fun y => decide (s.Slot = y)) sl 0
 | none => -1
def qK (h : zL) (l : List zN) (old : List zP) : zK := ⟨l, Z6 h 0 h.Tides, l.map fun c => yR h c 0 h.Tides, l.map fun c => zAv (Z6 h 0 h.Tides) old c.ID⟩
theorem zHu {h : zL} {l : List zN} (hg : zCG h l) (old : List zP) : BOK (qK h l old) := by
 have := zED hg
 exact ⟨this.nc, this.ns, this.lc, by simp [qK]⟩
theorem zKF {h : zL} (hg : zAb h) {i : Nat} (hi : i < h.Tides.length) (l : List zF) (hl : l.length ≤ 6 * i) : Lp (YW h (i : Int)) fuel (0, l) = some (.inl (((i + 1 : Nat) : Int), l ++ h.Berths.map fun b => (⟨i, b.ID⟩ : zF))) := by
 have hnt := hg.nt; have hnb := hg.nb
 refine J3 h.Berths (by omega) (fun (a : List zF) j => (j, a)) (fun a r => Sum.inl (((i + 1 : Nat) : Int), a ++ r.map fun b => (⟨i, b.ID⟩ : zF))) (fun j a => a.length ≤ 6 * i + j) (a := l) rfl (by simpa using hl) (fun a j hj hJ => ?_) (fun a _ => ?_)
 ·left
  unfold YW zW
  simp only
  rw [if_pos (by simpa using hj), jO hj, Option.bind_some, qU (by simp only [List.length_cons, List.length_nil]; omega), Option.bind_some, w64s' hj (by omega)]
  exact ⟨_, rfl, by simp only [List.map_cons, List.append_assoc, List.cons_append, List.nil_append], by simp only [List.length_append, List.length_cons, List.length_nil]; omega⟩
 ·unfold YW zW YT
  simp only
  rw [if_neg (by simp), ZO (by omega) (by omega)]
  simp
theorem zHz {h : zL} {l : List zN} {old : List zP} (hh : LenH h) (hl : Len l) (ec : QH h l = 0) (ho : old.length ≤ 10) {P : List zP} (hp : jG (qK h l old) = some P) : JG h l old = some (P, 0) := by
 have hg := zCG.of hh ec
 have hnt := hg.h.nt; have hnb := hg.h.nb; have hn := hg.n
 have hsl : Len (Z6 h 0 h.Tides) := by have := (zED hg).ns; unfold Len; have e : (Zz h l).slots = Z6 h 0 h.Tides := rfl; rw [e] at this; omega
 unfold JG
 rw [yH h hh l hl, Option.bind_some, if_neg (by simp [ec]), if_neg (by rw [decide_eq_true_eq]; omega)]
 -- the ships' old slots
 have h3 : Lp (YX l old (Z6 h 0 h.Tides) (l.map fun c => yR h c 0 h.Tides)) fuel (0, l.map fun _ => -1) = some (P, 0) := by
  refine J3 l hl (fun (a : List Int) i => (i, a)) (fun _ _ => (P, 0)) (fun i a => a = (l.take i).map (fun c => zAv (Z6 h 0 h.Tides) old c.ID) ++ (l.drop i).map fun _ => -1) (a := l.map fun _ => -1) rfl (by simp) (fun a i hi hJ => ?_) (fun a hJ => ?_)
  ·left
   have hal : a.length = l.length := by rw [hJ]; simp; omega
   have hnext : a.set i (zAv (Z6 h 0 h.Tides) old l[i].ID) = (l.take (i + 1)).map (fun c => zAv (Z6 h 0 h.Tides) old c.ID) ++ (l.drop (i + 1)).map fun _ => -1 := by
    rw [hJ, List.set_append_right _ _ (by simp; omega), List.drop_eq_getElem_cons hi, List.map_cons]
    have e0 : i - ((l.take i).map (fun c => zAv (Z6 h 0 h.Tides) old c.ID)).length = 0 := by simp; omega
    rw [e0, List.set_cons_zero, List.take_succ_eq_append_getElem hi, List.map_append]
    simp
   unfold YX
   simp only
   rw [if_pos (by simpa using hi), jO hi, Option.bind_some, zH4 old (by unfold Len; omega), Option.bind_some]
   unfold Jy
   rw [w64s' hi (by omega)]
   cases hf : old.find? (fun s => decide (s.Call = l[i].ID)) with
   | none =>
    have e1 : zAv (Z6 h 0 h.Tides) old l[i].ID = -1 := by unfold zAv; rw [hf]
    refine ⟨a, by simp, trivial, ?_⟩
    rw [← hnext, e1]
    have hai : a[i]? = some (-1) := by
     rw [hJ, List.getElem?_append_right (by simp; omega)]
     have e0 : i - ((l.take i).map (fun c => zAv (Z6 h 0 h.Tides) old c.ID)).length = 0 := by simp; omega
     rw [e0, List.drop_eq_getElem_cons hi]; rfl
    refine List.ext_getElem? fun j => ?_
    rw [List.getElem?_set]
    by_cases e : i = j
    ·subst e; rw [if_pos rfl, if_pos (by omega), hai]
    ·rw [if_neg e]
   | some s =>
    have e1 : zAv (Z6 h 0 h.Tides) old l[i].ID = Yf (fun y => decide (s.Slot = y)) (Z6 h 0 h.Tides) 0 := by unfold zAv; rw [hf]
    simp only [if_true]
    rw [zK0 _ hsl, Option.bind_some, jO (by omega : i < a.length), Option.bind_some, yx, ← e1, hnext]
    exact ⟨_, rfl, trivial, rfl⟩
  ·have e : a = l.map fun c => zAv (Z6 h 0 h.Tides) old c.ID := by rw [hJ]; simp
   subst e
   unfold YX YU
   simp only
   rw [if_neg (by simp), show (⟨l, Z6 h 0 h.Tides, l.map fun c => yR h c 0 h.Tides, l.map fun c => zAv (Z6 h 0 h.Tides) old c.ID⟩ : zK) = qK h l old from rfl, hp]; rfl
 refine J3 h.Tides (by omega) (fun (a : List zF) i => (i, a)) (fun _ _ => (P, 0)) (fun i a => a ++ Z6 h i (h.Tides.drop i) = Z6 h 0 h.Tides ∧ a.length ≤ 6 * i) (a := []) rfl ⟨by simp, by simp⟩ (fun a i hi hJ => ?_) (fun a hJ => ?_)
 ·left
  unfold Qn
  simp only [show (zW h).Tides = h.Tides from rfl]
  rw [if_pos (by simpa using hi), zKF hg.h hi a hJ.2]
  refine ⟨_, rfl, trivial, ?_, by simp only [List.length_append, List.length_map]; omega⟩
  rw [← hJ.1, List.drop_eq_getElem_cons hi]
  simp only [Z6, List.append_assoc]
 ·have ea : a = Z6 h 0 h.Tides := by have := hJ.1; simpa [Z6] using this
  subst ea
  unfold Qn
  simp only [show (zW h).Tides = h.Tides from rfl]
  rw [if_neg (by simp)]
  refine J3 l hl (fun (x : List (List (zF × zD)) × List Int) i => (i, x.1, x.2)) (fun _ _ => Sum.inr (P, 0)) (fun i x => x.1 = (l.take i).map (fun c => yR h c 0 h.Tides) ∧ x.2 = (l.take i).map fun _ => -1) (a := ([], [])) rfl ⟨rfl, rfl⟩ (fun x i hi hJ => ?_) (fun x hJ => ?_)
  ·left
   unfold Qm
   simp only
   rw [if_pos (by simpa using hi), jO hi, Option.bind_some, zIh hg.h (zEg.of (hg.r _ (List.getElem_mem hi))), Option.bind_some, qU (by rw [hJ.1]; simp; omega), Option.bind_some, qU (by rw [hJ.2]; simp; omega), Option.bind_some, w64s' hi (by omega)]
   refine ⟨(_, _), rfl, trivial, ?_, ?_⟩
   ·rw [hJ.1, List.take_succ_eq_append_getElem hi, List.map_append]; rfl
   ·rw [hJ.2, List.take_succ_eq_append_getElem hi, List.map_append]; rfl
  ·obtain ⟨x1, x2⟩ := x
   obtain ⟨j1, j2⟩ := hJ
   simp only [List.take_length] at j1 j2
   subst j1
   subst j2
   unfold Qm YS YV
   simp only
   rw [if_neg (by simp), h3]; rfl
theorem zMK {α : Type} {β : Type} {L : List α} {k : Nat} {z : α} (hk : k ≤ L.length) (h0 : 0 < L.length) (K : List α → Option β) : (Option.bind (sub L (k : Int) (L.length : Int)) fun _ => Option.bind (clrE L (k : Int) z) fun l4 => Option.bind (sub l4 0 (k : Int)) K) = K (L.take k) := by
 have e1 : sub L (k : Int) (L.length : Int) = some (L.drop k) := by unfold sub; rw [if_pos ⟨by omega, by omega, by omega⟩]; simp
 rw [e1, Option.bind_some]
 unfold clrE
 rw [if_pos ⟨h0, by omega, by omega⟩, Option.bind_some]
 unfold sub
 rw [if_pos ⟨by omega, by omega, by simp; omega⟩, Option.bind_some]
 congr 1
 simp [List.take_append_of_le_length, Nat.min_eq_left hk]
theorem zMe {l : List Int} (hs : l.Pairwise (· ≤ ·)) {i : Nat} (hi : i < l.length) : ∀ y ∈ l.take (i + 1), y ≤ l[i] := fun y hy => by
 obtain ⟨j, hj, rfl⟩ := List.mem_take_iff_getElem.1 hy
 by_cases e : j = i
 ·subst e; exact Int.le_refl _
 ·exact List.pairwise_iff_getElem.1 hs j i (by omega) hi (by omega)
theorem zJQ (l : List Int) (hl : l.length ≤ 4000) (hs : l.Pairwise (· ≤ ·)) (a : Nat) (a0 : 1 ≤ a) (ha : a < l.length) (he : l[a] = l[a - 1]) (hlt : (l.take a).Pairwise (· < ·)) : ∃ r, Lp (QL (a : Int)) fuel ((a : Int), 1, l) = some r ∧ ∃ r', r = .inr r' ∧ (∀ y, y ∈ r' ↔ y ∈ l) ∧ r'.Pairwise (· < ·) ∧ r'.length ≤ 4000 := by
 refine lp_inv' (fun (n : Nat) (s : Int × Int × List Int) => ∃ (k : Nat) (L : List Int), s = ((k : Int), ((n + 1 : Nat) : Int), L) ∧ k ≤ a + n ∧ L.length = l.length ∧ a + n + 1 ≤ l.length ∧ (∀ j, a + n ≤ j → L[j]? = l[j]?) ∧ (∀ y, y ∈ L.take k ↔ y ∈ l.take (a + n + 1)) ∧ (L.take k).Pairwise (· < ·)) _ l.length (by omega) ⟨a, l, rfl, by omega, rfl, by omega, fun _ _ => rfl, fun y => ?_, hlt⟩ fun n s hn hI => ?_
 ·rw [List.take_succ_eq_append_getElem ha, List.mem_append, List.mem_singleton]
  refine ⟨.inl, fun h => ?_⟩
  rcases h with h | rfl
  ·exact h
  ·exact List.mem_take_iff_getElem.2 ⟨a - 1, by omega, he.symm⟩
 ·obtain ⟨k, L, rfl, h1, h2, h3, h4, h5, h6⟩ := hI
  unfold QL
  simp only [Int.toNat_natCast, List.length_drop]
  by_cases hlt : a + n + 1 < l.length
  ·have g : ∀ j (hj : j < l.length), a + n ≤ j → ix (List.drop a L) ((j - a : Nat) : Int) = some l[j] := fun j hj hj2 => by
    have hd : j - a < (L.drop a).length := by rw [List.length_drop]; omega
    rw [jO hd, List.getElem_drop]
    have := h4 j hj2
    rw [List.getElem?_eq_getElem (by omega), List.getElem?_eq_getElem hj] at this
    rw [← Option.some.inj this]
    congr 1
    congr 1
    omega
   have e1 := g (a + n + 1) hlt (by omega)
   have e2 := g (a + n) (by omega) (by omega)
   rw [show a + n + 1 - a = n + 1 by omega] at e1
   rw [show a + n - a = n by omega] at e2
   have hkl : k < L.length := by omega
   rw [if_pos (decide_eq_true (by omega)), e1, Option.bind_some, ZO (n := ((n + 1 : Nat) : Int) - 1) (by omega) (by omega), show ((n + 1 : Nat) : Int) - 1 = (n : Int) by omega, e2, Option.bind_some]
   unfold Jk
   rw [ZO (n := ((n + 1 : Nat) : Int) + 1) (by omega) (by omega), show ((n + 1 : Nat) : Int) + 1 = ((n + 1 + 1 : Nat) : Int) by omega]
   by_cases hne : l[a + n + 1] = l[a + n]
   ·rw [if_neg (by simp [hne])]
    refine .inl ⟨by omega, _, rfl, k, L, rfl, by omega, h2, by omega, fun j hj => h4 j (by omega), fun y => ?_, h6⟩
    rw [h5, show a + (n + 1) + 1 = (a + n + 1) + 1 by omega, List.take_succ_eq_append_getElem hlt, List.mem_append, List.mem_singleton]
    refine ⟨.inl, fun h => ?_⟩
    rcases h with h | rfl
    ·exact h
    ·exact List.mem_take_iff_getElem.2 ⟨a + n, by omega, hne.symm⟩
   ·rw [if_pos (by simp [hne]), Option.bind_some, jO hkl, Option.bind_some, ZO (n := (k : Int) + 1) (by omega) (by omega)]
    have htk : (L.set k l[a + n + 1]).take (k + 1) = L.take k ++ [l[a + n + 1]] := by
     rw [List.take_succ_eq_append_getElem (by rw [List.length_set]; omega), List.take_set_of_le (Nat.le_refl _)]
     simp
    refine .inl ⟨by omega, _, rfl, k + 1, L.set k l[a + n + 1], rfl, by omega, by rw [List.length_set]; exact h2, by omega, fun j hj => ?_, fun y => ?_, ?_⟩
    ·rw [List.getElem?_set_ne (by omega)]; exact h4 j (by omega)
    ·rw [htk, show a + (n + 1) + 1 = (a + n + 1) + 1 by omega, List.take_succ_eq_append_getElem hlt, List.mem_append, List.mem_append, h5]
    ·rw [htk, List.pairwise_append]
     refine ⟨h6, List.pairwise_singleton _ _, fun y hy z hz => ?_⟩
     rw [List.mem_singleton] at hz
     subst hz
     have := zMe hs (show a + n < l.length by omega) y ((h5 y).1 hy)
     have := List.pairwise_iff_getElem.1 hs (a + n) (a + n + 1) (by omega) hlt (by omega)
     omega
  ·have e : a + n + 1 = l.length := by omega
   rw [if_neg (by rw [decide_eq_true_eq]; omega)]
   have : yc (k : Int) L = some (.inr (L.take k)) := zMK (by omega) (by omega) _
   refine .inr ⟨_, by rw [this]; rfl, L.take k, rfl, fun y => ?_, h6, by rw [List.length_take]; omega⟩
   rw [h5, e, List.take_length]
theorem zJP (l1 : List Int) (hl : l1.length ≤ 4000) : ∃ r, Jl l1 = some r ∧ (∀ y, y ∈ r ↔ y ∈ l1) ∧ r.Pairwise (· < ·) ∧ r.length ≤ 4000 := by
 have hlen : (srtI l1).length = l1.length := List.length_mergeSort l1
 have hsrt : (srtI l1).Pairwise (· ≤ ·) := by
  have := List.pairwise_mergeSort (le := fun x y : Int => decide (x ≤ y)) (fun a b c h1 h2 => by simp at *; omega) (fun a b => by simp; omega) l1
  exact this.imp fun h => by simpa using h
 unfold Jl srtO
 rw [if_pos (by omega), Option.bind_some]
 have key : ∃ r, (if decide (((srtI l1).length : Int) < 2) = true then JB (srtI l1) else Lp (QM (srtI l1)) fuel 1) = some r ∧ (∀ y, y ∈ r ↔ y ∈ srtI l1) ∧ r.Pairwise (· < ·) ∧ r.length ≤ 4000 := by
  generalize srtI l1 = l at hlen hsrt
  by_cases h2 : (l.length : Int) < 2
  ·rw [if_pos (decide_eq_true h2)]
   refine ⟨l, rfl, fun y => Iff.rfl, ?_, by omega⟩
   match l, h2 with
   | [], _ => exact List.Pairwise.nil
   | [x], _ => exact List.pairwise_singleton _ _
   | _ :: _ :: _, h => simp at h; omega
  ·rw [if_neg (by rw [decide_eq_true_eq]; exact h2)]
   refine lp_inv' (fun (i : Nat) (s : Int) => s = ((i + 1 : Nat) : Int) ∧ i + 1 ≤ l.length ∧ (l.take (i + 1)).Pairwise (· < ·)) _ l.length (by omega) ⟨rfl, by omega, ?_⟩ fun i s hi hI => ?_
   ·rw [List.take_succ_eq_append_getElem (by omega : 0 < l.length)]
    simp
   ·obtain ⟨rfl, i1, i2⟩ := hI
    unfold QM
    simp only
    by_cases hlt : i + 1 < l.length
    ·rw [if_pos (decide_eq_true (by omega)), jO hlt, Option.bind_some, ZO (n := ((i + 1 : Nat) : Int) - 1) (by omega) (by omega), show ((i + 1 : Nat) : Int) - 1 = (i : Int) by omega, jO (by omega : i < l.length), Option.bind_some]
     by_cases he : l[i + 1] = l[i]
     ·rw [if_pos (decide_eq_true he)]
      have hq : qslN l ((i + 1 : Nat) : Int) = some ((i + 1 : Nat) : Int) := by
       unfold qslN
       rw [if_pos ⟨by cases l with | nil => simp at i1 | cons => rfl, by omega, by omega⟩]
      rw [hq, Option.bind_some]
      obtain ⟨r, r1, r', rfl, r2, r3, r4⟩ := zJQ l (by omega) hsrt (i + 1) (by omega) hlt (by simpa using he) i2
      exact .inr ⟨r', r1, r2, r3, r4⟩
     ·rw [if_neg (by rw [decide_eq_true_eq]; exact he)]
      refine .inl ⟨by omega, _, rfl, by rw [ZO (by omega) (by omega)]; omega, by omega, ?_⟩
      rw [List.take_succ_eq_append_getElem hlt, List.pairwise_append]
      refine ⟨i2, List.pairwise_singleton _ _, fun y hy z hz => ?_⟩
      rw [List.mem_singleton] at hz
      subst hz
      have := zMe hsrt (show i < l.length by omega) y hy
      have := List.pairwise_iff_getElem.1 hsrt i (i + 1) (by omega) hlt (by omega)
      omega
    ·rw [if_neg (by rw [decide_eq_true_eq]; omega)]
     refine .inr ⟨l, rfl, fun y => Iff.rfl, ?_, by omega⟩
     rw [List.take_of_length_le (by omega)] at i2
     exact i2
 obtain ⟨r, r1, r2, r3⟩ := key
 exact ⟨r, r1, fun y => by rw [r2]; exact List.mem_mergeSort, r3⟩
def chB (old now : List zP) (id : Int) : Bool := match old.find? (fun s => decide (s.Call = id)) with
 | some a => (match now.find? (fun s => decide (s.Call = id)) with | some b => !decide (a.Slot = b.Slot) | none => true)
 | none => false
theorem zKM (old now : List zP) (ho : old.length ≤ 100) (hn : Len now) : ∃ r, Qh old now = some r ∧ (∀ y, y ∈ r ↔ chB old now y = true) ∧ r.Pairwise (· < ·) ∧ r.length ≤ 4000 := by
 unfold Qh
 have key := lp_inv' (body := QK old now) (s0 := (0, [])) (fun (i : Nat) (s : Int × List Int) => ∃ L, s = ((i : Int), L) ∧ L.length ≤ i ∧ ∀ y, y ∈ L ↔ chB old now y = true ∧ ∃ x ∈ old.take i, x.Call = y) (fun r => (∀ y, y ∈ r ↔ chB old now y = true) ∧ r.Pairwise (· < ·) ∧ r.length ≤ 4000) old.length (by omega) ⟨[], rfl, by simp, fun y => by simp⟩ fun i s hi hI => by
  obtain ⟨L, rfl, l1, l2⟩ := hI
  unfold QK
  simp only
  by_cases hlt : i < old.length
  ·rw [if_pos (by simpa using hlt), jO hlt, Option.bind_some, zH4 old (by unfold Len; omega), Option.bind_some, zH4 now hn, Option.bind_some]
   have hfo : ∃ a, old.find? (fun s : zP => decide (s.Call = old[i].Call)) = some a := by
    cases hf : old.find? (fun s : zP => decide (s.Call = old[i].Call)) with
    | some a => exact ⟨a, rfl⟩
    | none => have := List.find?_eq_none.1 hf old[i] (List.getElem_mem hlt); simp at this
   obtain ⟨a, ha⟩ := hfo
   have hcond : (!(match now.find? (fun s : zP => decide (s.Call = old[i].Call)) with | some s => (s, true) | none => ((⟨0, ⟨0, 0⟩, ⟨0, 0⟩⟩ : zP), false)).2 || !decide (a.Slot = (match now.find? (fun s : zP => decide (s.Call = old[i].Call)) with | some s => (s, true) | none => ((⟨0, ⟨0, 0⟩, ⟨0, 0⟩⟩ : zP), false)).1.Slot)) = chB old now old[i].Call := by
    unfold chB
    rw [ha]
    cases now.find? (fun s : zP => decide (s.Call = old[i].Call)) with
    | some b => simp
    | none => simp
   rw [ha]
   simp only
   rw [hcond]
   unfold Jj
   have hx : ∀ y, (∃ x ∈ old.take (i + 1), x.Call = y) ↔ (∃ x ∈ old.take i, x.Call = y) ∨ old[i].Call = y := fun y => by
    rw [List.take_succ_eq_append_getElem hlt]
    constructor
    ·rintro ⟨x, hx, e⟩
     rcases List.mem_append.1 hx with hx | hx
     ·exact .inl ⟨x, hx, e⟩
     ·rw [List.mem_singleton] at hx; subst hx; exact .inr e
    ·rintro (⟨x, hx, e⟩ | e)
     ·exact ⟨x, List.mem_append_left _ hx, e⟩
     ·exact ⟨old[i], List.mem_append_right _ (List.mem_singleton.2 rfl), e⟩
   cases hc : chB old now old[i].Call with
   | true =>
    rw [if_pos rfl, qU (by simp; omega), Option.bind_some, w64s' hlt (by omega)]
    refine .inl ⟨hlt, _, rfl, L ++ [old[i].Call], rfl, by simp; omega, fun y => ?_⟩
    rw [List.mem_append, List.mem_singleton, l2, hx]
    constructor
    ·rintro (⟨h1, h2⟩ | rfl)
     ·exact ⟨h1, .inl h2⟩
     ·exact ⟨hc, .inr rfl⟩
    ·rintro ⟨h1, h2 | rfl⟩
     ·exact .inl ⟨h1, h2⟩
     ·exact .inr rfl
   | false =>
    rw [if_neg (by simp), w64s' hlt (by omega)]
    refine .inl ⟨hlt, _, rfl, L, rfl, by omega, fun y => ?_⟩
    rw [l2, hx]
    constructor
    ·rintro ⟨h1, h2⟩; exact ⟨h1, .inl h2⟩
    ·rintro ⟨h1, h2 | rfl⟩
     ·exact ⟨h1, h2⟩
     ·rw [hc] at h1; cases h1
  ·have e : i = old.length := by omega
   subst e
   rw [if_neg (by simp)]
   obtain ⟨r, r1, r2, r3⟩ := zJP L (by omega)
   refine .inr ⟨r, by rw [r1]; rfl, fun y => ?_, r3⟩
   rw [r2, l2, List.take_length]
   refine ⟨fun h => h.1, fun h => ⟨h, ?_⟩⟩
   unfold chB at h
   cases hf : old.find? (fun s => decide (s.Call = y)) with
   | none => rw [hf] at h; cases h
   | some a => exact ⟨a, List.mem_of_find?_eq_some hf, by simpa using List.find?_some hf⟩
 exact key
theorem count_one (d : Int) (D : List Int) (hd : d ∉ D) : ∀ l : List zN, (l.filter fun c => decide (c.ID = d)).length + (l.filter fun c => decide (c.ID ∈ D)).length = (l.filter fun c => decide (c.ID ∈ d :: D)).length
 | [] => rfl
 | c :: l => by
  have ih := count_one d D hd l
  simp only [List.filter_cons]
  by_cases e1 : c.ID = d
  ·have e2 : c.ID ∉ D := by rw [e1]; exact hd
   rw [if_pos (by simpa using e1), if_neg (by simpa using e2), if_pos (by simp [e1])]
   simp only [List.length_cons]
   omega
  ·by_cases e2 : c.ID ∈ D
   ·rw [if_neg (by simpa using e1), if_pos (by simpa using e2), if_pos (by simp [e2])]
    simp only [List.length_cons]
    omega
   ·rw [if_neg (by simpa using e1), if_neg (by simpa using e2), if_neg (by simp [e1, e2])]
    exact ih
theorem zJR (l : List zN) : ∀ (D : List Int), D.Nodup → ((D.map fun id => ((l.filter fun c => decide (c.ID = id)).length : Int)).sum = ((l.filter fun c => decide (c.ID ∈ D)).length : Int))
 | [], _ => by
  have : (l.filter fun c => decide (c.ID ∈ ([] : List Int))) = [] := List.filter_eq_nil_iff.2 fun c _ => by simp
  rw [this]; rfl
 | d :: D, h => by
  rw [List.nodup_cons] at h
  rw [List.map_cons, List.sum_cons, zJR l D h.2, ← count_one d D h.1 l]
  omega
theorem zKE (l : List zN) (old now : List zP) (hl : l.length ≤ 10) (ho : old.length ≤ 100) (hn : Len now) : yC l old now = some (((l.filter fun c => chB old now c.ID).length : Nat) : Int) := by
 obtain ⟨D, d1, d2, d3, d4⟩ := zKM old now ho hn
 unfold yC
 rw [d1, Option.bind_some]
 have hnd : D.Nodup := d3.imp fun h => by omega
 have hin : ∀ (x3 x n : Int), 0 ≤ n → n ≤ 100000 → Lp (yT l x3 x) fuel (n, 0) = some (.inl (n + ((l.filter fun c => decide (c.ID = x)).length : Int), w64 (x3 + 1))) := fun x3 x n n0 n1 => by
  suffices q : ∃ r, Lp (yT l x3 x) fuel (n, 0) = some r ∧ r = .inl (n + ((l.filter fun c => decide (c.ID = x)).length : Int), w64 (x3 + 1)) by obtain ⟨r, q, rfl⟩ := q; exact q
  refine lp_inv' (fun (i : Nat) (s : Int × Int) => s = (n + (((l.take i).filter fun c => decide (c.ID = x)).length : Int), (i : Int))) _ l.length (by omega) (by simp) fun i s hi hI => ?_
  subst hI
  unfold yT
  simp only
  by_cases hlt : i < l.length
  ·rw [if_pos (by simpa using hlt), jO hlt, Option.bind_some]
   unfold Jf
   rw [w64s' hlt (by omega), List.take_succ_eq_append_getElem hlt, List.filter_append, List.length_append]
   have hfl : ((l.take i).filter fun c => decide (c.ID = x)).length ≤ i := Nat.le_trans (List.length_filter_le _ _) (by rw [List.length_take]; omega)
   by_cases e : l[i].ID = x
   ·rw [if_pos (by simpa using e), ZO (by omega) (by omega)]
    refine .inl ⟨hlt, _, rfl, ?_⟩
    simp [e]; omega
   ·rw [if_neg (by simpa using e)]
    refine .inl ⟨hlt, _, rfl, ?_⟩
    simp [e]
  ·have e : i = l.length := by omega
   subst e
   rw [if_neg (by simp), List.take_length]
   exact .inr ⟨_, rfl, rfl⟩
 have hDl : ∀ i, ((((D.take i).map fun id => ((l.filter fun c => decide (c.ID = id)).length : Int)).sum = ((l.filter fun c => decide (c.ID ∈ D.take i)).length : Int))) := fun i => zJR l _ (List.Nodup.sublist (List.take_sublist _ _) hnd)
 suffices q : ∃ r, Lp (QE l D) fuel (0, 0) = some r ∧ r = (((l.filter fun c => chB old now c.ID).length : Nat) : Int) by obtain ⟨r, q, rfl⟩ := q; exact q
 refine lp_inv' (fun (i : Nat) (s : Int × Int) => s = (((D.take i).map fun id => ((l.filter fun c => decide (c.ID = id)).length : Int)).sum, (i : Int))) _ D.length (by omega) (by simp) fun i s hi hI => ?_
 subst hI
 unfold QE
 simp only
 by_cases hlt : i < D.length
 ·have hb : ((l.filter fun c => decide (c.ID ∈ D.take i)).length : Int) ≤ 10 := by have := List.length_filter_le (fun c : zN => decide (c.ID ∈ D.take i)) l; omega
  rw [if_pos (by simpa using hlt), jO hlt, Option.bind_some, hin _ _ _ (by rw [hDl]; omega) (by rw [hDl]; omega), w64s' hlt (by omega)]
  refine .inl ⟨hlt, _, rfl, ?_⟩
  rw [List.take_succ_eq_append_getElem hlt, List.map_append, List.sum_append]
  simp
 ·have e : i = D.length := by omega
  subst e
  rw [if_neg (by simp), hDl, List.take_length]
  refine .inr ⟨_, rfl, ?_⟩
  congr 2
  refine List.filter_congr fun c _ => ?_
  rw [Bool.eq_iff_iff, decide_eq_true_eq]
  exact d2 c.ID
end Go.Mx
