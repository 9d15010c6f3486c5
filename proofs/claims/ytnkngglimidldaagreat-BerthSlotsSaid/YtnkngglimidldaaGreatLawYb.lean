/- Plain laws, berths: harbours, slots, when a ship lies there. Conditions: none. -/
import Derived.Test.YtnkngglimidldaaGreatLawYa
import Derived.Test.YtnkngglimidldaaGreatLawTideWindows
set_option linter.unusedVariables false
set_option linter.unusedSimpArgs false
namespace Go.Mx
def timedB (s : api_Span) : Bool := decide (0 ≤ s.Lo ∧ s.Lo ≤ s.Hi ∧ s.Hi ≤ 1048576 ∧ s.Hi - s.Lo < 1440)
theorem timed_eq (s : api_Span) : berth_timed s = timedB s := by
 unfold berth_timed timedB
 by_cases h : 0 ≤ s.Lo ∧ s.Lo ≤ s.Hi ∧ s.Hi ≤ 1048576
 ·rw [w64_id (by omega) (by omega)]
  rw [Bool.eq_iff_iff]
  simp [and_assoc]
 ·rw [Bool.eq_iff_iff]
  simp only [Bool.and_eq_true, decide_eq_true_eq]
  constructor
  ·intro q; exact absurd ⟨q.1.1.1, q.1.1.2, q.1.2⟩ h
  ·intro q; exact absurd ⟨q.1, q.2.1, q.2.2.1⟩ h
def goodBB (b : api_Berth) : Bool := decide (1 ≤ b.ID ∧ b.ID ≤ 1099511627776 ∧ 0 ≤ b.Depth ∧ b.Depth ≤ 8000)
def berthS (e : Int) : List api_Berth → List api_Berth → Int
 | _, [] => e
 | pre, b :: r => if goodBB b = true then (if (pre.any fun x => decide (x.ID = b.ID)) = true then 6 else berthS e (pre ++ [b]) r) else 1
def tideS (e : Int) : Int → List api_Span → Int
 | _, [] => e
 | last, t :: r => if timedB t = true ∧ last < t.Lo then tideS e t.Hi r else 1
def keelS (h : api_Harbour) : Int := if 0 ≤ h.Keel ∧ h.Keel ≤ 8000 then 0 else 1
def checkHS (h : api_Harbour) : Int :=
 if checkS h.Water = 0 then (if 6 < h.Berths.length ∨ 12 < h.Tides.length then 2 else berthS (tideS (keelS h) (-1) h.Tides) [] h.Berths) else checkS h.Water
structure LenH (h : api_Harbour) : Prop where
 w : LenW h.Water
 b : Len h.Berths
 t : Len h.Tides
theorem LenH.of {h : api_Harbour} (q : ok_api_Harbour h) : LenH h := ⟨LenW.of q.1, q.2.1.1, q.2.2.1.1⟩
theorem firstB_eq (l : List api_Berth) (hl : Len l) (id : Int) : berth_first_api_Berth__berth_berthID l id = some (firstI (fun b => decide (b.ID = id)) l 0) := by
 unfold berth_first_api_Berth__berth_berthID slices_IndexFunc_api_Berth__berth_first_api_Berth_1__berth_berthID
 have e := index_loop (body := slices_IndexFunc_api_Berth__berth_first_api_Berth_1__berth_berthID_b2 l id) (fun b => decide (b.ID = id)) l hl (fun i hi => by
  unfold slices_IndexFunc_api_Berth__berth_first_api_Berth_1__berth_berthID_b2
  rw [if_pos (by simpa using hi), ix_lt hi, Option.bind_some, w64s' hi hl]
  rfl) (by
  unfold slices_IndexFunc_api_Berth__berth_first_api_Berth_1__berth_berthID_b2
  rw [if_neg (by simp)]; rfl)
 rw [e]; rfl
theorem first_lt {α : Type} {p : α → Bool} {l : List α} {i : Nat} (hi : i < l.length) (hp : p l[i] = true) : firstI p l 0 < (i : Int) ↔ (l.take i).any p = true := by
 rcases firstI_spec p l 0 with ⟨h1, h2⟩ | ⟨k, h1, h2, h3, h4⟩
 ·rw [h2 _ (List.getElem_mem hi)] at hp; cases hp
 ·rw [show ((0 : Nat) : Int) = 0 from rfl] at h1
  rw [h1, List.any_eq_true]
  constructor
  ·intro h
   refine ⟨l[k], ?_, h3⟩
   rw [List.mem_take_iff_getElem]
   exact ⟨k, by omega, rfl⟩
  ·rintro ⟨x, hx, hx2⟩
   rw [List.mem_take_iff_getElem] at hx
   obtain ⟨j, hj, rfl⟩ := hx
   by_cases e : j < k
   ·rw [h4 j e] at hx2; cases hx2
   ·omega
theorem CheckH_eq (h : api_Harbour) (hh : LenH h) : berth_Check h = some (checkHS h) := by
 unfold berth_Check checkHS
 rw [Check_eq _ hh.w, Option.bind_some]
 by_cases h0 : checkS h.Water = 0
 ·rw [if_pos h0, if_neg (by simp [h0])]
  by_cases h1 : 6 < h.Berths.length ∨ 12 < h.Tides.length
  ·rw [if_pos h1, if_pos (by simp; omega)]
  ·rw [if_neg h1, if_neg (by simp; omega)]
   refine lp_list h.Berths hh.b (fun (_ : List api_Berth) i => i) (berthS (tideS (keelS h) (-1) h.Tides)) (fun i a => a = h.Berths.take i) (a := []) rfl (by simp) (fun a i hi hJ => ?_) (fun a _ => ?_)
   ·subst hJ
    unfold berth_Check_b4
    rw [if_pos (by simpa using hi), ix_lt hi]
    simp only [Option.bind_some, berthS]
    by_cases hg : goodBB h.Berths[i] = true
    ·rw [if_pos hg, firstB_eq _ hh.b, Option.bind_some, if_neg (by simp only [goodBB, decide_eq_true_eq] at hg; simp [berth_within]; omega)]
     have := first_lt (p := fun b => decide (b.ID = h.Berths[i].ID)) hi (by simp)
     by_cases hc : ((h.Berths.take i).any fun x => decide (x.ID = h.Berths[i].ID)) = true
     ·right; rw [if_pos hc, if_pos (by rw [decide_eq_true_eq]; exact this.2 hc)]
     ·left
      rw [if_neg hc, if_neg (by rw [decide_eq_true_eq]; exact fun q => hc (this.1 q)), w64s' hi hh.b]
      exact ⟨_, rfl, rfl, by rw [List.take_succ_eq_append_getElem hi]⟩
    ·right
     rw [if_neg hg, if_pos]
     simp only [goodBB, decide_eq_true_eq] at hg
     simp [berth_within]; omega
   ·unfold berth_Check_b4
    rw [if_neg (by simp)]
    unfold berth_Check_j1
    rw [lp_list h.Tides hh.t (fun (a : Int) i => (a, i)) (tideS (keelS h)) (fun _ _ => True) (a := -1) rfl trivial (fun a i hi _ => ?_) (fun a _ => ?_)]
    ·rfl
    ·unfold berth_Check_b3
     simp only
     rw [if_pos (by simpa using hi), ix_lt hi, Option.bind_some, timed_eq]
     simp only [tideS]
     by_cases hc : timedB h.Tides[i] = true ∧ a < h.Tides[i].Lo
     ·left
      rw [if_pos hc, if_neg (by simp [hc.1]; omega), w64s' hi hh.t]
      exact ⟨_, rfl, rfl, trivial⟩
     ·right
      rw [if_neg hc, if_pos]
      rw [Bool.or_eq_true, Bool.not_eq_true', decide_eq_true_eq]
      by_cases ht : timedB h.Tides[i] = true
      ·right
       have : ¬ a < h.Tides[i].Lo := fun q => hc ⟨ht, q⟩
       omega
      ·left; simpa using ht
    ·unfold berth_Check_b3
     simp only
     rw [if_neg (by simp)]
     unfold berth_Check_j2 keelS
     simp only [tideS]
     by_cases hk : 0 ≤ h.Keel ∧ h.Keel ≤ 8000
     ·rw [if_pos hk, if_neg (by simp [berth_within]; omega)]; rfl
     ·rw [if_neg hk, if_pos (by simp [berth_within]; omega)]; rfl
 ·rw [if_neg h0, if_pos (by simp [h0])]
structure GoodH (h : api_Harbour) : Prop where
 c : checkS h.Water = 0
 g : GoodW h.Water
 lw : LenW h.Water
 nb : h.Berths.length ≤ 6
 nt : h.Tides.length ≤ 12
 bs : ∀ b ∈ h.Berths, 1 ≤ b.ID ∧ b.ID ≤ 1099511627776 ∧ 0 ≤ b.Depth ∧ b.Depth ≤ 8000
 bd : h.Berths.Pairwise (fun a b => a.ID ≠ b.ID)
 ts : ∀ t ∈ h.Tides, 0 ≤ t.Lo ∧ t.Lo ≤ t.Hi ∧ t.Hi ≤ 1048576 ∧ t.Hi - t.Lo < 1440
 tp : h.Tides.Pairwise (fun a b => a.Hi < b.Lo)
 k0 : 0 ≤ h.Keel
 k1 : h.Keel ≤ 8000
theorem berthS_zero (e : Int) : ∀ (l pre : List api_Berth), berthS e pre l = 0 → pre.Pairwise (fun a b => a.ID ≠ b.ID) → e = 0 ∧ (∀ b ∈ l, goodBB b = true) ∧ (pre ++ l).Pairwise (fun a b => a.ID ≠ b.ID)
 | [], pre, h, hp => ⟨h, fun b hb => (by cases hb), by simpa using hp⟩
 | b :: r, pre, h, hp => by
  unfold berthS at h
  split at h
  ·rename_i hg
   split at h
   ·cases h
   ·rename_i hn
    have hp' : (pre ++ [b]).Pairwise (fun a b => a.ID ≠ b.ID) := by
     rw [List.pairwise_append]
     refine ⟨hp, List.pairwise_singleton _ _, fun x hx y hy => ?_⟩
     rw [List.mem_singleton] at hy
     subst hy
     intro q
     exact hn (List.any_eq_true.2 ⟨x, hx, by simpa using q⟩)
    obtain ⟨q1, q2, q3⟩ := berthS_zero e r (pre ++ [b]) h hp'
    refine ⟨q1, fun x hx => ?_, by simpa using q3⟩
    rcases List.mem_cons.1 hx with rfl | hx
    ·exact hg
    ·exact q2 x hx
  ·cases h
theorem tideS_zero (e : Int) : ∀ (l : List api_Span) (last : Int), tideS e last l = 0 → e = 0 ∧ (∀ t ∈ l, timedB t = true ∧ last < t.Lo) ∧ l.Pairwise (fun a b => a.Hi < b.Lo)
 | [], last, h => ⟨h, fun b hb => (by cases hb), .nil⟩
 | t :: r, last, h => by
  unfold tideS at h
  split at h
  ·rename_i hg
   obtain ⟨q1, q2, q3⟩ := tideS_zero e r t.Hi h
   have ht := hg.1
   simp only [timedB, decide_eq_true_eq] at ht
   refine ⟨q1, fun x hx => ?_, List.pairwise_cons.2 ⟨fun x hx => (q2 x hx).2, q3⟩⟩
   rcases List.mem_cons.1 hx with rfl | hx
   ·exact hg
   ·have := q2 x hx
    exact ⟨this.1, by omega⟩
  ·cases h
theorem GoodH.of {h : api_Harbour} (hh : LenH h) (h0 : checkHS h = 0) : GoodH h := by
 unfold checkHS at h0
 split at h0
 ·rename_i hc
  split at h0
  ·cases h0
  ·rename_i hn
   obtain ⟨q1, q2, q3⟩ := berthS_zero _ _ _ h0 .nil
   obtain ⟨r1, r2, r3⟩ := tideS_zero _ _ _ q1
   have hk : 0 ≤ h.Keel ∧ h.Keel ≤ 8000 := by
    unfold keelS at r1
    split at r1
    ·assumption
    ·cases r1
   exact ⟨hc, checkS_good hh.w hc, hh.w, by omega, by omega, fun b hb => by simpa [goodBB] using q2 b hb, by simpa using q3, fun t ht => by simpa [timedB] using (r2 t ht).1, r3, hk.1, hk.2⟩
 ·contradiction
def need (h : api_Harbour) (b : api_Berth) (d : Int) : Int := d + h.Keel - b.Depth
def whenS (h : api_Harbour) (c : api_Call) (t : api_Span) (b : api_Berth) : api_Span × Bool :=
 if min t.Hi c.To < max t.Lo c.From then (⟨0, 0⟩, false) else
  if (nextT h.Water ⟨max t.Lo c.From, min t.Hi c.To⟩ (need h b c.Draught) c.Long).2 = 0 then
   (⟨(nextT h.Water ⟨max t.Lo c.From, min t.Hi c.To⟩ (need h b c.Draught) c.Long).1.Lo, (nextT h.Water ⟨max t.Lo c.From, min t.Hi c.To⟩ (need h b c.Draught) c.Long).1.Lo + c.Long - 1⟩, true)
  else (⟨0, 0⟩, false)
theorem nextS_spec (long : Int) : ∀ l : List api_Span, ((nextS long l).2 = 0 ∧ (nextS long l).1 ∈ l ∧ long ≤ (nextS long l).1.Hi - (nextS long l).1.Lo + 1) ∨ ((nextS long l).2 = 5 ∧ ∀ x ∈ l, x.Hi - x.Lo + 1 < long)
 | [] => .inr ⟨rfl, fun x hx => by cases hx⟩
 | x :: r => by
  unfold nextS
  by_cases hc : long ≤ x.Hi - x.Lo + 1
  ·rw [if_pos hc]; exact .inl ⟨rfl, List.mem_cons_self, hc⟩
  ·rw [if_neg hc]
   rcases nextS_spec long r with ⟨h1, h2, h3⟩ | ⟨h1, h2⟩
   ·exact .inl ⟨h1, List.mem_cons_of_mem _ h2, h3⟩
   ·refine .inr ⟨h1, fun y hy => ?_⟩
    rcases List.mem_cons.1 hy with rfl | hy
    ·omega
    ·exact h2 y hy
theorem WinP.block {H : Int → Int} {height lo t : Int} {l : List api_Span} (h : WinP H height lo t l) {a : Int} (ha : lo ≤ a) : ∀ n : Nat, a + n < t → (∀ m, a ≤ m → m ≤ a + n → height ≤ H m) → ∃ x ∈ l, x.Lo ≤ a ∧ a + n ≤ x.Hi
 | 0, ht, hm => by
  obtain ⟨x, hx, q1, q2⟩ := h.all a ha (by omega) (hm a (by omega) (by omega))
  exact ⟨x, hx, q1, by omega⟩
 | n + 1, ht, hm => by
  obtain ⟨x, hx, q1, q2⟩ := WinP.block h ha n (by omega) (fun m h0 h1 => hm m h0 (by omega))
  by_cases e : a + ((n + 1 : Nat) : Int) ≤ x.Hi
  ·exact ⟨x, hx, q1, e⟩
  ·obtain ⟨z, hz, q3, q4⟩ := h.all (a + ((n + 1 : Nat) : Int)) (by omega) ht (hm _ (by omega) (by omega))
   exact (h.one hx hz (by omega) q3 q4).elim
theorem askS_zero {w : api_Water} {s : api_Span} (hc : checkS w = 0) (h0 : 0 ≤ s.Lo) (h1 : s.Lo ≤ s.Hi) (h2 : s.Hi ≤ 1048576) (h3 : s.Hi - s.Lo < 10080) : askS w s = 0 := by
 unfold askS
 rw [if_pos hc, if_pos ⟨h0, h1, h2⟩, if_neg (by omega)]
theorem windowsS_zero {w : api_Water} {s : api_Span} (hw : LenW w) (hc : checkS w = 0) (height : Int) (h0 : 0 ≤ s.Lo) (h1 : s.Lo ≤ s.Hi) (h2 : s.Hi ≤ 1048576) (h3 : s.Hi - s.Lo < 10080) : (windowsS w s height).2 = 0 ∧ WinP (hgt w) height s.Lo (s.Hi + 1) (windowsS w s height).1 := by
 have := askS_zero hc h0 h1 h2 h3
 unfold windowsS
 rw [if_pos this]
 exact ⟨rfl, win_all (ask_of hw this) height⟩
theorem when_true {h : api_Harbour} (hg : GoodH h) {c : api_Call} {t : api_Span} {b : api_Berth} (ht : t ∈ h.Tides) (hF : 0 ≤ c.From) (hL : 1 ≤ c.Long) (q : (whenS h c t b).2 = true) :
  max t.Lo c.From ≤ (whenS h c t b).1.Lo ∧ (whenS h c t b).1.Hi ≤ min t.Hi c.To ∧ (whenS h c t b).1.Hi = (whenS h c t b).1.Lo + c.Long - 1 ∧ ∀ m, (whenS h c t b).1.Lo ≤ m → m ≤ (whenS h c t b).1.Hi → need h b c.Draught ≤ hgt h.Water m := by
 obtain ⟨t0, t1, t2, t3⟩ := hg.ts t ht
 unfold whenS at q ⊢
 split at q
 ·cases q
 ·rename_i hs
  split at q
  ·rename_i hn
   rw [if_neg hs, if_pos hn]
   obtain ⟨w1, w2⟩ := windowsS_zero (s := ⟨max t.Lo c.From, min t.Hi c.To⟩) hg.lw hg.c (need h b c.Draught) (by simp only; omega) (by simp only; omega) (by simp only; omega) (by simp only; omega)
   unfold nextT at hn ⊢
   rw [if_pos w1, if_neg (by omega)] at hn ⊢
   generalize (windowsS h.Water ⟨max t.Lo c.From, min t.Hi c.To⟩ (need h b c.Draught)).1 = l at *
   rcases nextS_spec c.Long l with ⟨n1, n2, n3⟩ | ⟨n1, n2⟩
   ·obtain ⟨p1, p2, p3, p4⟩ := w2.ins _ n2
    simp only at p1 p3 ⊢
    exact ⟨by omega, by omega, trivial, fun m h0 h1 => p4 m h0 (by omega)⟩
   ·rw [n1] at hn; cases hn
  ·cases q
theorem when_can {h : api_Harbour} (hg : GoodH h) {c : api_Call} {t : api_Span} {b : api_Berth} (ht : t ∈ h.Tides) (hF : 0 ≤ c.From) (hL : 1 ≤ c.Long) {a : Int} (h0 : max t.Lo c.From ≤ a) (h1 : a + c.Long - 1 ≤ min t.Hi c.To)
  (h2 : ∀ m, a ≤ m → m ≤ a + c.Long - 1 → need h b c.Draught ≤ hgt h.Water m) : (whenS h c t b).2 = true := by
 obtain ⟨t0, t1, t2, t3⟩ := hg.ts t ht
 unfold whenS
 rw [if_neg (by omega)]
 obtain ⟨w1, w2⟩ := windowsS_zero (s := ⟨max t.Lo c.From, min t.Hi c.To⟩) hg.lw hg.c (need h b c.Draught) (by simp only; omega) (by simp only; omega) (by simp only; omega) (by simp only; omega)
 rw [if_pos]
 unfold nextT
 rw [if_pos w1, if_neg (by omega)]
 obtain ⟨x, hx, x1, x2⟩ := w2.block (a := a) (by simp only; omega) (c.Long - 1).toNat (by simp only; omega) (fun m q0 q1 => h2 m q0 (by omega))
 rcases nextS_spec c.Long (windowsS h.Water ⟨max t.Lo c.From, min t.Hi c.To⟩ (need h b c.Draught)).1 with ⟨n1, n2, n3⟩ | ⟨n1, n2⟩
 ·exact n1
 ·have := n2 x hx; omega
theorem needed_eq {h : api_Harbour} (hg : GoodH h) {b : api_Berth} (hb : b ∈ h.Berths) {d : Int} (h0 : 0 ≤ d) (h1 : d ≤ 8000) : berth_needed h b d = need h b d := by
 obtain ⟨b0, b1, b2, b3⟩ := hg.bs b hb
 have := hg.k0; have := hg.k1
 unfold berth_needed need
 rw [w64_id (n := d + h.Keel) (by omega) (by omega), w64_id (by omega) (by omega)]
theorem when_eq {h : api_Harbour} (hg : GoodH h) {c : api_Call} {x : api_Slot} {t : api_Span} {b : api_Berth} (ht : ix h.Tides x.Tide = some t) (hb : b ∈ h.Berths) (h0 : 0 ≤ c.Draught) (h1 : c.Draught ≤ 8000) (hF : 0 ≤ c.From) (hL : 1 ≤ c.Long) (hL2 : c.Long ≤ 1440) : berth_when h c x b = some (whenS h c t b) := by
 have htm : t ∈ h.Tides := by
  unfold ix at ht
  split at ht
  ·exact List.mem_of_getElem? ht
  ·cases ht
 obtain ⟨t0, t1, t2, t3⟩ := hg.ts t htm
 unfold berth_when whenS
 rw [ht, Option.bind_some]
 by_cases hc : min t.Hi c.To < max t.Lo c.From
 ·rw [if_pos (by simpa using hc), if_pos hc]
 ·rw [if_neg (by simpa using hc), if_neg hc, needed_eq hg hb h0 h1, Next_eq _ hg.lw _ _ _ (show (-9223372036854775808 : Int) ≤ c.Long ∧ c.Long ≤ 9223372036854775807 from ⟨by omega, by omega⟩), Option.bind_some]
  by_cases hn : (nextT h.Water ⟨max t.Lo c.From, min t.Hi c.To⟩ (need h b c.Draught) c.Long).2 = 0
  ·rw [if_neg (by simp [hn]), if_pos hn]
   have hq : 0 ≤ (nextT h.Water ⟨max t.Lo c.From, min t.Hi c.To⟩ (need h b c.Draught) c.Long).1.Lo ∧ (nextT h.Water ⟨max t.Lo c.From, min t.Hi c.To⟩ (need h b c.Draught) c.Long).1.Lo ≤ 1048576 := by
    obtain ⟨w1, w2⟩ := windowsS_ok h.Water hg.lw ⟨max t.Lo c.From, min t.Hi c.To⟩ (need h b c.Draught)
    unfold nextT at hn ⊢
    split at hn
    ·rename_i e1
     rw [if_pos e1]
     rw [if_neg (by omega)] at hn ⊢
     rcases nextS_spec c.Long (windowsS h.Water ⟨max t.Lo c.From, min t.Hi c.To⟩ (need h b c.Draught)).1 with ⟨n1, n2, n3⟩ | ⟨n1, n2⟩
     ·have := w2 _ n2; omega
     ·rw [n1] at hn; cases hn
    ·rename_i e1; exact absurd hn e1
   rw [w64_id (n := _ + c.Long) (by omega) (by omega), w64_id (by omega) (by omega)]
  ·rw [if_pos (by simp [hn]), if_neg hn]
end Go.Mx
