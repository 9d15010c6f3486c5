/- Plain laws, berths: harbours, slots, when a ship lies there. Conditions: none. -/
import Derived.Test.YtnkngglimidldaaGreatLawYa
import Derived.Test.YtnkngglimidldaaGreatLawTideWindows
set_option linter.unusedVariables false
set_option linter.unusedSimpArgs false
namespace Go.Mx
def zBg (s : zD) : Bool := decide (0 ≤ s.Lo ∧ s.Lo ≤ s.Hi ∧ s.Hi ≤ 1048576 ∧ s.Hi - s.Lo < 1440)
theorem zLE (s : zD) : je s = zBg s := by
 unfold je zBg
 by_cases h : 0 ≤ s.Lo ∧ s.Lo ≤ s.Hi ∧ s.Hi ≤ 1048576
 ·rw [ZH (by omega) (by omega)]
  rw [Bool.eq_iff_iff]
  simp [and_assoc]
 ·rw [Bool.eq_iff_iff]
  simp only [Bool.and_eq_true, decide_eq_true_eq]
  constructor
  ·intro q; exact absurd ⟨q.1.1.1, q.1.1.2, q.1.2⟩ h
  ·intro q; exact absurd ⟨q.1, q.2.1, q.2.2.1⟩ h
def zET (b : zj) : Bool := decide (1 ≤ b.ID ∧ b.ID ≤ 1099511627776 ∧ 0 ≤ b.Depth ∧ b.Depth ≤ 8000)
def zEb (e : Int) : List zj → List zj → Int
 | _, [] => e
 | pre, b :: r => if zET b = true then (if (pre.any fun x => decide (x.ID = b.ID)) = true then 6 else zEb e (pre ++ [b]) r) else 1
def zEf (e : Int) : Int → List zD → Int
 | _, [] => e
 | last, t :: r => if zBg t = true ∧ last < t.Lo then zEf e t.Hi r else 1
def zIp (h : zK) : Int := if 0 ≤ h.Keel ∧ h.Keel ≤ 8000 then 0 else 1
def zBP (h : zK) : Int :=
 if zAp h.Water = 0 then (if 6 < h.Berths.length ∨ 12 < h.Tides.length then 2 else zEb (zEf (zIp h) (-1) h.Tides) [] h.Berths) else zAp h.Water
structure LenH (h : zK) : Prop where
 w : LenW h.Water
 b : Len h.Berths
 t : Len h.Tides
theorem LenH.of {h : zK} (q : zAK h) : LenH h := ⟨LenW.of q.1, q.2.1.1, q.2.2.1.1⟩
theorem zHI (l : List zj) (hl : Len l) (id : Int) : zo l id = some (yy (fun b => decide (b.ID = id)) l 0) := by
 unfold zo zu
 have e := zBK (body := zh l id) (fun b => decide (b.ID = id)) l hl (fun i hi => by
  unfold zh
  rw [if_pos (by simpa using hi), jE hi, Option.bind_some, w64s' hi hl]
  rfl) (by
  unfold zh
  rw [if_neg (by simp)]; rfl)
 rw [e]; rfl
theorem zIu {α : Type} {p : α → Bool} {l : List α} {i : Nat} (hi : i < l.length) (hp : p l[i] = true) : yy p l 0 < (i : Int) ↔ (l.take i).any p = true := by
 rcases QT p l 0 with ⟨h1, h2⟩ | ⟨k, h1, h2, h3, h4⟩
 ·rw [h2 _ (List.getElem_mem hi)] at hp; cases hp
 ·rw [show ((0 : Nat) : Int) = 0 from rfl] at h1
  rw [h1, List.any_eq_true]
  constructor
  ·intro h
   refine ⟨l[k], ?_, h3⟩
   rw [List.mem_take_iff_getElem]
   exact ⟨k, by omega, rfl⟩
  ·rintro ⟨x, hx, hx2⟩
   rw [List.mem_take_iff_getElem] at hx
   obtain ⟨j, hj, rfl⟩ := hx
   by_cases e : j < k
   ·rw [h4 j e] at hx2; cases hx2
   ·omega
theorem zLA (h : zK) (hh : LenH h) : Jm h = some (zBP h) := by
 unfold Jm zBP
 rw [zGQ _ hh.w, Option.bind_some]
 by_cases h0 : zAp h.Water = 0
 ·rw [if_pos h0, if_neg (by simp [h0])]
  by_cases h1 : 6 < h.Berths.length ∨ 12 < h.Tides.length
  ·rw [if_pos h1, if_pos (by simp; omega)]
  ·rw [if_neg h1, if_neg (by simp; omega)]
   refine Jg h.Berths hh.b (fun (_ : List zj) i => i) (zEb (zEf (zIp h) (-1) h.Tides)) (fun i a => a = h.Berths.take i) (a := []) rfl (by simp) (fun a i hi hJ => ?_) (fun a _ => ?_)
   ·subst hJ
    unfold Qr
    rw [if_pos (by simpa using hi), jE hi]
    simp only [Option.bind_some, zEb]
    by_cases hg : zET h.Berths[i] = true
    ·rw [if_pos hg, zHI _ hh.b, Option.bind_some, if_neg (by simp only [zET, decide_eq_true_eq] at hg; simp [zY]; omega)]
     have := zIu (p := fun b => decide (b.ID = h.Berths[i].ID)) hi (by simp)
     by_cases hc : ((h.Berths.take i).any fun x => decide (x.ID = h.Berths[i].ID)) = true
     ·right; rw [if_pos hc, if_pos (by rw [decide_eq_true_eq]; exact this.2 hc)]
     ·left
      rw [if_neg hc, if_neg (by rw [decide_eq_true_eq]; exact fun q => hc (this.1 q)), w64s' hi hh.b]
      exact ⟨_, rfl, rfl, by rw [List.take_succ_eq_append_getElem hi]⟩
    ·right
     rw [if_neg hg, if_pos]
     simp only [zET, decide_eq_true_eq] at hg
     simp [zY]; omega
   ·unfold Qr
    rw [if_neg (by simp)]
    unfold YR
    rw [Jg h.Tides hh.t (fun (a : Int) i => (a, i)) (zEf (zIp h)) (fun _ _ => True) (a := -1) rfl trivial (fun a i hi _ => ?_) (fun a _ => ?_)]
    ·rfl
    ·unfold Qs
     simp only
     rw [if_pos (by simpa using hi), jE hi, Option.bind_some, zLE]
     simp only [zEf]
     by_cases hc : zBg h.Tides[i] = true ∧ a < h.Tides[i].Lo
     ·left
      rw [if_pos hc, if_neg (by simp [hc.1]; omega), w64s' hi hh.t]
      exact ⟨_, rfl, rfl, trivial⟩
     ·right
      rw [if_neg hc, if_pos]
      rw [Bool.or_eq_true, Bool.not_eq_true', decide_eq_true_eq]
      by_cases ht : zBg h.Tides[i] = true
      ·right
       have : ¬ a < h.Tides[i].Lo := fun q => hc ⟨ht, q⟩
       omega
      ·left; simpa using ht
    ·unfold Qs
     simp only
     rw [if_neg (by simp)]
     unfold YQ zIp
     simp only [zEf]
     by_cases hk : 0 ≤ h.Keel ∧ h.Keel ≤ 8000
     ·rw [if_pos hk, if_neg (by simp [zY]; omega)]; rfl
     ·rw [if_neg hk, if_pos (by simp [zY]; omega)]; rfl
 ·rw [if_neg h0, if_pos (by simp [h0])]
structure qm (h : zK) : Prop where
 c : zAp h.Water = 0
 g : zHX h.Water
 lw : LenW h.Water
 nb : h.Berths.length ≤ 6
 nt : h.Tides.length ≤ 12
 bs : ∀ b ∈ h.Berths, 1 ≤ b.ID ∧ b.ID ≤ 1099511627776 ∧ 0 ≤ b.Depth ∧ b.Depth ≤ 8000
 bd : h.Berths.Pairwise (fun a b => a.ID ≠ b.ID)
 ts : ∀ t ∈ h.Tides, 0 ≤ t.Lo ∧ t.Lo ≤ t.Hi ∧ t.Hi ≤ 1048576 ∧ t.Hi - t.Lo < 1440
 tp : h.Tides.Pairwise (fun a b => a.Hi < b.Lo)
 k0 : 0 ≤ h.Keel
 k1 : h.Keel ≤ 8000
theorem zE2 (e : Int) : ∀ (l pre : List zj), zEb e pre l = 0 → pre.Pairwise (fun a b => a.ID ≠ b.ID) → e = 0 ∧ (∀ b ∈ l, zET b = true) ∧ (pre ++ l).Pairwise (fun a b => a.ID ≠ b.ID)
 | [], pre, h, hp => ⟨h, fun b hb => (by cases hb), by simpa using hp⟩
 | b :: r, pre, h, hp => by
  unfold zEb at h
  split at h
  ·rename_i hg
   split at h
   ·cases h
   ·rename_i hn
    have hp' : (pre ++ [b]).Pairwise (fun a b => a.ID ≠ b.ID) := by
     rw [List.pairwise_append]
     refine ⟨hp, List.pairwise_singleton _ _, fun x hx y hy => ?_⟩
     rw [List.mem_singleton] at hy
     subst hy
     intro q
     exact hn (List.any_eq_true.2 ⟨x, hx, by simpa using q⟩)
    obtain ⟨q1, q2, q3⟩ := zE2 e r (pre ++ [b]) h hp'
    refine ⟨q1, fun x hx => ?_, by simpa using q3⟩
    rcases List.mem_cons.1 hx with rfl | hx
    ·exact hg
    ·exact q2 x hx
  ·cases h
theorem zFO (e : Int) : ∀ (l : List zD) (last : Int), zEf e last l = 0 → e = 0 ∧ (∀ t ∈ l, zBg t = true ∧ last < t.Lo) ∧ l.Pairwise (fun a b => a.Hi < b.Lo)
 | [], last, h => ⟨h, fun b hb => (by cases hb), .nil⟩
 | t :: r, last, h => by
  unfold zEf at h
  split at h
  ·rename_i hg
   obtain ⟨q1, q2, q3⟩ := zFO e r t.Hi h
   have ht := hg.1
   simp only [zBg, decide_eq_true_eq] at ht
   refine ⟨q1, fun x hx => ?_, List.pairwise_cons.2 ⟨fun x hx => (q2 x hx).2, q3⟩⟩
   rcases List.mem_cons.1 hx with rfl | hx
   ·exact hg
   ·have := q2 x hx
    exact ⟨this.1, by omega⟩
  ·cases h
theorem qm.of {h : zK} (hh : LenH h) (h0 : zBP h = 0) : qm h := by
 unfold zBP at h0
 split at h0
 ·rename_i hc
  split at h0
  ·cases h0
  ·rename_i hn
   obtain ⟨q1, q2, q3⟩ := zE2 _ _ _ h0 .nil
   obtain ⟨r1, r2, r3⟩ := zFO _ _ _ q1
   have hk : 0 ≤ h.Keel ∧ h.Keel ≤ 8000 := by
    unfold zIp at r1
    split at r1
    ·assumption
    ·cases r1
   exact ⟨hc, zE0 hh.w hc, hh.w, by omega, by omega, fun b hb => by simpa [zET] using q2 b hb, by simpa using q3, fun t ht => by simpa [zBg] using (r2 t ht).1, r3, hk.1, hk.2⟩
 ·contradiction
def need (h : zK) (b : zj) (d : Int) : Int := d + h.Keel - b.Depth
def Qy (h : zK) (c : zM) (t : zD) (b : zj) : zD × Bool :=
 if min t.Hi c.To < max t.Lo c.From then (⟨0, 0⟩, false) else
  if (zDa h.Water ⟨max t.Lo c.From, min t.Hi c.To⟩ (need h b c.Draught) c.Long).2 = 0 then
   (⟨(zDa h.Water ⟨max t.Lo c.From, min t.Hi c.To⟩ (need h b c.Draught) c.Long).1.Lo, (zDa h.Water ⟨max t.Lo c.From, min t.Hi c.To⟩ (need h b c.Draught) c.Long).1.Lo + c.Long - 1⟩, true)
  else (⟨0, 0⟩, false)
theorem zFm (long : Int) : ∀ l : List zD, ((zCj long l).2 = 0 ∧ (zCj long l).1 ∈ l ∧ long ≤ (zCj long l).1.Hi - (zCj long l).1.Lo + 1) ∨ ((zCj long l).2 = 5 ∧ ∀ x ∈ l, x.Hi - x.Lo + 1 < long)
 | [] => .inr ⟨rfl, fun x hx => by cases hx⟩
 | x :: r => by
  unfold zCj
  by_cases hc : long ≤ x.Hi - x.Lo + 1
  ·rw [if_pos hc]; exact .inl ⟨rfl, List.mem_cons_self, hc⟩
  ·rw [if_neg hc]
   rcases zFm long r with ⟨h1, h2, h3⟩ | ⟨h1, h2⟩
   ·exact .inl ⟨h1, List.mem_cons_of_mem _ h2, h3⟩
   ·refine .inr ⟨h1, fun y hy => ?_⟩
    rcases List.mem_cons.1 hy with rfl | hy
    ·omega
    ·exact h2 y hy
theorem WinP.block {H : Int → Int} {height lo t : Int} {l : List zD} (h : WinP H height lo t l) {a : Int} (ha : lo ≤ a) : ∀ n : Nat, a + n < t → (∀ m, a ≤ m → m ≤ a + n → height ≤ H m) → ∃ x ∈ l, x.Lo ≤ a ∧ a + n ≤ x.Hi
 | 0, ht, hm => by
  obtain ⟨x, hx, q1, q2⟩ := h.all a ha (by omega) (hm a (by omega) (by omega))
  exact ⟨x, hx, q1, by omega⟩
 | n + 1, ht, hm => by
  obtain ⟨x, hx, q1, q2⟩ := WinP.block h ha n (by omega) (fun m h0 h1 => hm m h0 (by omega))
  by_cases e : a + ((n + 1 : Nat) : Int) ≤ x.Hi
  ·exact ⟨x, hx, q1, e⟩
  ·obtain ⟨z, hz, q3, q4⟩ := h.all (a + ((n + 1 : Nat) : Int)) (by omega) ht (hm _ (by omega) (by omega))
   exact (h.one hx hz (by omega) q3 q4).elim
theorem zKr {h : zK} (hg : qm h) {b : zj} (hb : b ∈ h.Berths) {d : Int} (h0 : 0 ≤ d) (h1 : d ≤ 8000) : yQ h b d = need h b d := by
 obtain ⟨b0, b1, b2, b3⟩ := hg.bs b hb
 have := hg.k0; have := hg.k1
 unfold yQ need
 rw [ZH (n := d + h.Keel) (by omega) (by omega), ZH (by omega) (by omega)]
theorem zJ2 {h : zK} (hg : qm h) {c : zM} {x : zE} {t : zD} {b : zj} (ht : ix h.Tides x.Tide = some t) (hb : b ∈ h.Berths) (h0 : 0 ≤ c.Draught) (h1 : c.Draught ≤ 8000) (hF : 0 ≤ c.From) (hL : 1 ≤ c.Long) (hL2 : c.Long ≤ 1440) : YL h c x b = some (Qy h c t b) := by
 have htm : t ∈ h.Tides := by
  unfold ix at ht
  split at ht
  ·exact List.mem_of_getElem? ht
  ·cases ht
 obtain ⟨t0, t1, t2, t3⟩ := hg.ts t htm
 unfold YL Qy
 rw [ht, Option.bind_some]
 by_cases hc : min t.Hi c.To < max t.Lo c.From
 ·rw [if_pos (by simpa using hc), if_pos hc]
 ·rw [if_neg (by simpa using hc), if_neg hc, zKr hg hb h0 h1, Next_eq _ hg.lw _ _ _ (show (-9223372036854775808 : Int) ≤ c.Long ∧ c.Long ≤ 9223372036854775807 from ⟨by omega, by omega⟩), Option.bind_some]
  by_cases hn : (zDa h.Water ⟨max t.Lo c.From, min t.Hi c.To⟩ (need h b c.Draught) c.Long).2 = 0
  ·rw [if_neg (by simp [hn]), if_pos hn]
   have hq : 0 ≤ (zDa h.Water ⟨max t.Lo c.From, min t.Hi c.To⟩ (need h b c.Draught) c.Long).1.Lo ∧ (zDa h.Water ⟨max t.Lo c.From, min t.Hi c.To⟩ (need h b c.Draught) c.Long).1.Lo ≤ 1048576 := by
    obtain ⟨w1, w2⟩ := zEe h.Water hg.lw ⟨max t.Lo c.From, min t.Hi c.To⟩ (need h b c.Draught)
    unfold zDa at hn ⊢
    split at hn
    ·rename_i e1
     rw [if_pos e1]
     rw [if_neg (by omega)] at hn ⊢
     rcases zFm c.Long (Yu h.Water ⟨max t.Lo c.From, min t.Hi c.To⟩ (need h b c.Draught)).1 with ⟨n1, n2, n3⟩ | ⟨n1, n2⟩
     ·have := w2 _ n2; omega
     ·rw [n1] at hn; cases hn
    ·rename_i e1; exact absurd hn e1
   rw [ZH (n := _ + c.Long) (by omega) (by omega), ZH (by omega) (by omega)]
  ·rw [if_pos (by simp [hn]), if_neg hn]
end Go.Mx
