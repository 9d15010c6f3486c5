/- Plain laws of ships, third part: the specification's check of a ship is the program's. Conditions: none. -/
import Derived.Test.YthfnbjoecocfaaaLawHb
set_option linter.unusedVariables false
set_option linter.unusedSimpArgs false
namespace Go.Mx

theorem knot_get {c : api_Curve} (hg : GoodC c) : ix c.Knots 0 = some (c.Knots.getD 0 default) ∧ ix c.Knots (w64 ((c.Knots.length : Int) - 1)) = some (c.Knots.getD (c.Knots.length - 1) default) ∧ (0 ≤ (c.Knots.getD 0 default).X ∧ (c.Knots.getD 0 default).X ≤ 2000) ∧ (0 ≤ (c.Knots.getD (c.Knots.length - 1) default).X ∧ (c.Knots.getD (c.Knots.length - 1) default).X ≤ 2000) := by
  have h0 := hg.n0
  have h1 := hg.n1
  have hl : c.Knots.length - 1 < c.Knots.length := by omega
  have e1 : c.Knots.getD 0 default = c.Knots[0] := by simp [List.getD_eq_getElem?_getD, h0]
  have e2 : c.Knots.getD (c.Knots.length - 1) default = c.Knots[c.Knots.length - 1] := by simp [List.getD_eq_getElem?_getD, hl]
  rw [e1, e2]
  refine ⟨?_, ?_, ?_, ?_⟩
  · have := ix_lt (l := c.Knots) (i := 0) h0; simpa using this
  · rw [w64_id (by omega) (by omega), show (c.Knots.length : Int) - 1 = ((c.Knots.length - 1 : Nat) : Int) by omega, ix_lt hl]
  · have := hg.xy 0 h0; omega
  · have := hg.xy _ hl; omega
theorem tabled_eq (s : api_Ship) (c : api_Curve) (hg : GoodC c) (hl : Len s.Holds) (h0 : w64 s.Light = s.Light) : hull_tabled s c = some (if tabB s c = true then 0 else 1) := by
  obtain ⟨k1, k2, k3, k4⟩ := knot_get hg
  have hm : hull_table_masses ⟨c⟩ = some ⟨(c.Knots.getD 0 default).X * 40, (c.Knots.getD (c.Knots.length - 1) default).X * 40⟩ := by
    unfold hull_table_masses
    simp only
    rw [k1, k2, Option.bind_some, Option.bind_some, w64_id (by omega) (by omega), w64_id (by omega) (by omega)]
  have hr : hull_rooms s = some (w64 (s.Light + roomSum s.Holds)) := (hrooms_eq s hl).resolve_right (by simp [h0])
  obtain ⟨b, b1, b2⟩ := index_tabled c.Knots (by have := hg.n1; unfold Len; omega)
  unfold hull_tabled
  rw [hm, hr, b1]
  simp only [Option.bind_some]
  unfold tabB
  rw [← b2]
  generalize (c.Knots.getD 0 default).X * 40 = p
  generalize (c.Knots.getD (c.Knots.length - 1) default).X * 40 = q
  generalize w64 (s.Light + roomSum s.Holds) = r
  by_cases h1 : s.Light < p
  · have e : decide (p ≤ s.Light) = false := by simp; omega
    simp [gb, h1, e]
  · have e : decide (p ≤ s.Light) = true := by simp; omega
    by_cases h2 : q < r
    · have e2 : ¬ r ≤ q := by omega
      simp [gb, h1, e, h2, e2]
    · have e2 : r ≤ q := by omega
      cases b <;> simp [gb, h1, e, h2, e2]
theorem known_eq (s : api_Ship) (c : api_Curve) (hg : GoodC c) (hl : Len s.Holds) : ref03_known s c = some (tabB s c) := by
  obtain ⟨k1, k2, k3, k4⟩ := knot_get hg
  have hr := rrooms_eq s hl
  have hn := hg.n1
  have hj : ref03_known_j1 s c = some (decide ((c.Knots.getD 0 default).X * 40 ≤ s.Light) && decide (w64 (s.Light + roomSum s.Holds) ≤ (c.Knots.getD (c.Knots.length - 1) default).X * 40)) := by
    unfold ref03_known_j1
    rw [k1, k2, hr]
    simp only [Option.bind_some]
    rw [w64_id (n := (c.Knots.getD 0 default).X * 40) (by omega) (by omega)]
    by_cases h1 : (c.Knots.getD 0 default).X * 40 ≤ s.Light
    · simp only [h1, decide_true, gb, if_true, Option.bind_some, Bool.true_and]
      rw [w64_add', w64_id (n := (c.Knots.getD (c.Knots.length - 1) default).X * 40) (by omega) (by omega)]
    · simp only [h1, decide_false, gb, Bool.false_eq_true, if_false, Option.bind_some, Bool.false_and]
  unfold ref03_known
  refine (lp_list (body := ref03_known_b2 s c) c.Knots (by omega) (fun (_ : Unit) i => i) (fun _ l => (decide ((c.Knots.getD 0 default).X * 40 ≤ s.Light) && decide (w64 (s.Light + roomSum s.Holds) ≤ (c.Knots.getD (c.Knots.length - 1) default).X * 40)) && !(l.any fun k => decide (k.Y < 0))) (fun _ _ => True) (a := ()) rfl trivial (fun a i hi _ => ?_) (fun a _ => ?_)).trans rfl
  · unfold ref03_known_b2
    simp only
    rw [if_pos (by simpa using hi), ix_lt hi, Option.bind_some, w64s' hi (by omega)]
    by_cases hy : c.Knots[i].Y < 0
    · right; rw [if_pos (by simpa using hy)]; simp only [List.any_cons, hy, decide_true, Bool.true_or, Bool.not_true, Bool.and_false]
    · left; rw [if_neg (by simpa using hy)]; exact ⟨(), rfl, by simp only [List.any_cons, hy, decide_false, Bool.false_or], trivial⟩
  · unfold ref03_known_b2
    simp only
    rw [if_neg (by simp), hj]; simp

/-! Holds. -/
def holdB (h : api_Hold) : Bool := decide (1 ≤ h.ID) && decide (h.ID ≤ 1099511627776) && (decide (0 ≤ h.Room) && decide (h.Room ≤ 65536)) && ((decide (-20000 ≤ h.Lever) && decide (h.Lever ≤ 20000)) && (decide (0 ≤ h.Height) && decide (h.Height ≤ 5000)))
def holdsE (rest : Int) : List api_Hold → List api_Hold → Int
  | _, [] => rest
  | pre, h :: r => if holdB h = true then (if (pre.any fun x => decide (x.ID = h.ID)) = true then 6 else holdsE rest (pre ++ [h]) r) else 1
theorem contains_ID (l : List api_Hold) (c : api_Hold) (hl : Len l) : slices_ContainsFunc_api_Hold__hull_Check_1 l c = some (l.any fun x => decide (x.ID = c.ID)) := by
  have h : ∃ r, slices_IndexFunc_api_Hold__hull_Check_1 l c = some r ∧ (if 0 ≤ r then (l.any fun x => decide (x.ID = c.ID)) = true else (l.any fun x => decide (x.ID = c.ID)) = false) := by
    unfold slices_IndexFunc_api_Hold__hull_Check_1
    unfold Len at hl
    refine lp_inv' (fun i s => s = (i : Int) ∧ ∀ j (hj : j < l.length), j < i → ¬ l[j].ID = c.ID) _ l.length (by omega) ⟨rfl, fun j _ h => by omega⟩ fun i s hi hI => ?_
    obtain ⟨rfl, hI⟩ := hI
    unfold slices_IndexFunc_api_Hold__hull_Check_1_b2
    by_cases h : i < l.length
    · rw [if_pos (by simpa using h), ix_lt h]
      simp only [Option.bind_some]
      by_cases hr : l[i].ID = c.ID
      · rw [if_pos (by simpa [hull_Check_1] using hr)]
        refine .inr ⟨_, rfl, ?_⟩
        rw [if_pos (by omega), List.any_eq_true]
        exact ⟨_, List.getElem_mem h, by simpa using hr⟩
      · rw [if_neg (by simpa [hull_Check_1] using hr)]
        refine .inl ⟨h, _, rfl, w64s i (by omega), fun j hj hji => ?_⟩
        by_cases hj' : j = i
        · subst hj'; exact hr
        · exact hI j hj (by omega)
    · rw [if_neg (by simpa using h)]
      refine .inr ⟨-1, rfl, ?_⟩
      rw [if_neg (by omega), List.any_eq_false]
      intro x hx
      obtain ⟨j, hj, rfl⟩ := List.getElem_of_mem hx
      simpa using hI j hj (by omega)
  obtain ⟨r, h1, h2⟩ := h
  unfold slices_ContainsFunc_api_Hold__hull_Check_1
  rw [h1, Option.bind_some]
  split at h2
  · rename_i h; rw [h2]; simpa using h
  · rename_i h; rw [h2]; simpa using h

def headB (s : api_Ship) : Bool := (((hull_within s.ID 1 1099511627776 && hull_within s.Light 1 65536) && hull_placed s.Lever s.Height) && hull_within s.Turn 1 1048576) && hull_within s.Least 0 5000
/-- The error of a ship behind that of her curves. -/
def tailE (s : api_Ship) : Int := if risesB s.Mean.Knots = true ∧ tabB s s.Mean = true ∧ tabB s s.Mtac = true then 0 else 1
def curvesE (s : api_Ship) : Int := if cchk s.Mean = 0 then (if cchk s.Mtac = 0 then tailE s else cchk s.Mtac) else cchk s.Mean
def restE (s : api_Ship) : Int := if 65536 < w64 (s.Light + roomSum s.Holds) then 1 else curvesE s
def chk (s : api_Ship) : Int := if headB s = true then (if 8 < (s.Holds.length : Int) then 2 else holdsE (restE s) [] s.Holds) else 1
theorem headB_not {s : api_Ship} (h : ¬ headB s = true) : (((((!hull_within s.ID 1 1099511627776) || !hull_within s.Light 1 65536) || !hull_placed s.Lever s.Height) || !hull_within s.Turn 1 1048576) || !hull_within s.Least 0 5000) = true := by
  have e : (((((!hull_within s.ID 1 1099511627776) || !hull_within s.Light 1 65536) || !hull_placed s.Lever s.Height) || !hull_within s.Turn 1 1048576) || !hull_within s.Least 0 5000) = !headB s := by simp [headB]
  rw [e]; simpa using h
theorem headB_of {s : api_Ship} (h : headB s = true) : (1 ≤ s.ID ∧ s.ID ≤ 1099511627776) ∧ (1 ≤ s.Light ∧ s.Light ≤ 65536) ∧ (-20000 ≤ s.Lever ∧ s.Lever ≤ 20000) ∧ (0 ≤ s.Height ∧ s.Height ≤ 5000) ∧ (1 ≤ s.Turn ∧ s.Turn ≤ 1048576) ∧ (0 ≤ s.Least ∧ s.Least ≤ 5000) := by
  simp only [headB, hull_placed, hull_within, Bool.and_eq_true, decide_eq_true_eq] at h
  omega

theorem or_two (a b : Int) : cmp_Or_api_Errno [a, b] = some (if a = 0 then b else a) := by
  unfold cmp_Or_api_Errno
  refine lp_list (body := cmp_Or_api_Errno_b2 [a, b]) [a, b] (by simp) (fun (_ : Unit) i => i) (fun _ l => match l with | [x, y] => if x = 0 then y else x | [y] => y | _ => 0) (fun _ _ => True) (a := ()) rfl trivial (fun u i hi _ => ?_) (fun u _ => ?_)
  · unfold cmp_Or_api_Errno_b2
    simp only
    rw [if_pos (by simp only [decide_eq_true_eq]; exact Int.ofNat_lt.2 hi), ix_lt hi, Option.bind_some, w64s' hi (by simp)]
    match i, hi with
    | 0, _ =>
      simp only [List.getElem_cons_zero]
      by_cases h : a = 0
      · left; rw [if_neg (by simp [h])]; exact ⟨(), rfl, by simp [h], trivial⟩
      · right; rw [if_pos (by simp [h])]; simp [h]
    | 1, _ =>
      simp only [List.getElem_cons_succ, List.getElem_cons_zero]
      by_cases h : b = 0
      · left; rw [if_neg (by simp [h])]; exact ⟨(), rfl, by simp [h], trivial⟩
      · right; rw [if_pos (by simp [h])]; simp
  · rfl
theorem check_j2 (s : api_Ship) (h1 : cchk s.Mean = 0) (h2 : cchk s.Mtac = 0) (hl : Len s.Holds) (h0 : w64 s.Light = s.Light) : hull_Check_j2 s = some (tailE s) := by
  obtain ⟨n, q1, q2⟩ := Rising_one s.Mean h1
  unfold hull_Check_j2 tailE
  rw [q1, Option.bind_some]
  by_cases hn : n = 1
  · rw [if_neg (by simp [hn]), tabled_eq s s.Mean (cchk_good h1) hl h0, tabled_eq s s.Mtac (cchk_good h2) hl h0]
    simp only [Option.bind_some, or_two]
    rw [q2.1 hn]
    cases tabB s s.Mean <;> cases tabB s s.Mtac <;> simp
  · rw [if_pos (by simp [hn]), if_neg]
    intro h
    exact hn (q2.2 h.1)
theorem check_j1' (s : api_Ship) (hl : Len s.Holds) (h0 : w64 s.Light = s.Light) : hull_Check_j1 s = some (restE s) := by
  unfold hull_Check_j1 restE
  rw [(hrooms_eq s hl).resolve_right (by simp [h0]), Option.bind_some]
  by_cases h : 65536 < w64 (s.Light + roomSum s.Holds)
  · rw [if_pos (by simpa using h), if_pos h]
  · rw [if_neg (by simpa using h), if_neg h]
    refine (lp_list (body := hull_Check_b3 s) [s.Mean, s.Mtac] (by simp) (fun (_ : Unit) i => i) (fun _ l => match l with | [a, b] => if cchk a = 0 then (if cchk b = 0 then tailE s else cchk b) else cchk a | [b] => if cchk b = 0 then tailE s else cchk b | _ => tailE s) (fun i _ => (1 ≤ i → cchk s.Mean = 0) ∧ (2 ≤ i → cchk s.Mtac = 0)) (a := ()) rfl ⟨by omega, by omega⟩ (fun u i hi hJ => ?_) (fun u hJ => ?_)).trans rfl
    · unfold hull_Check_b3
      simp only
      rw [if_pos (by simp only [decide_eq_true_eq]; exact Int.ofNat_lt.2 hi), ix_lt hi, Option.bind_some, w64s' hi (by simp), curveCheck_eq, Option.bind_some]
      match i, hi with
      | 0, _ =>
        simp only [List.getElem_cons_zero]
        by_cases h : cchk s.Mean = 0
        · left; rw [if_neg (by simp [h])]; exact ⟨(), rfl, by simp [h], fun _ => h, by omega⟩
        · right; rw [if_pos (by simp [h])]; simp [h]
      | 1, _ =>
        simp only [List.getElem_cons_succ, List.getElem_cons_zero]
        by_cases h : cchk s.Mtac = 0
        · left; rw [if_neg (by simp [h])]; exact ⟨(), rfl, by simp [h], fun _ => hJ.1 (by omega), fun _ => h⟩
        · right; rw [if_pos (by simp [h])]; simp [h]
    · unfold hull_Check_b3
      simp only
      rw [if_neg (by simp), check_j2 s (hJ.1 (by simp)) (hJ.2 (by simp)) hl h0]; rfl
theorem hcheck_eq (s : api_Ship) (hl : Len s.Holds) : hull_Check s = some (chk s) := by
  unfold hull_Check chk
  by_cases hb : headB s = true
  · have h0 : w64 s.Light = s.Light := by have := headB_of hb; exact w64_id (by omega) (by omega)
    rw [if_neg (by simp only [headB] at hb; simp at hb ⊢; simp [hb]), if_pos hb]
    by_cases h8 : 8 < (s.Holds.length : Int)
    · rw [if_pos (by simpa using h8), if_pos h8]
    · rw [if_neg (by simpa using h8), if_neg h8]
      refine lp_list (body := hull_Check_b4 s) s.Holds hl (fun (_ : List api_Hold) i => i) (holdsE (restE s)) (fun i pre => pre = s.Holds.take i) rfl rfl (fun a i hi hJ => ?_) (fun a hJ => ?_)
      · unfold hull_Check_b4
        simp only
        rw [if_pos (by simpa using hi), ix_lt hi, Option.bind_some, w64s' hi hl]
        simp only [holdsE]
        have ec : (((!hull_within s.Holds[i].ID 1 1099511627776) || !hull_within s.Holds[i].Room 0 65536) || !hull_placed s.Holds[i].Lever s.Holds[i].Height) = !holdB s.Holds[i] := by
          simp [holdB, hull_within, hull_placed]
        rw [ec]
        by_cases hh : holdB s.Holds[i] = true
        · rw [if_neg (by simp [hh]), if_pos hh, sub_pre (by omega), Option.bind_some, contains_ID _ _ (by unfold Len at *; rw [List.length_take]; omega), Option.bind_some, ← hJ]
          by_cases hd : (a.any fun x => decide (x.ID = s.Holds[i].ID)) = true
          · right; rw [if_pos hd, if_pos hd]
          · left; rw [if_neg hd, if_neg hd]
            exact ⟨a ++ [s.Holds[i]], rfl, rfl, by rw [hJ, List.take_append_getElem]⟩
        · right; rw [if_pos (by simp [hh]), if_neg hh]
      · unfold hull_Check_b4
        simp only
        rw [if_neg (by simp), check_j1' s hl h0]; rfl
  · rw [if_pos (headB_not hb), if_neg hb]

/-! The specification. -/
theorem rises_loop (s : api_Ship) (hg : GoodC s.Mean) (hj : ref03_Check_j2 s = some (if tabB s s.Mean = true ∧ tabB s s.Mtac = true then 0 else 1)) : Lp (ref03_Check_b3 s) fuel 1 = some (tailE s) := by
  have hn := hg.n1
  have h0 := hg.n0
  have htl : s.Mean.Knots.tail.length = s.Mean.Knots.length - 1 := by simp
  have hd0 : s.Mean.Knots = s.Mean.Knots[0] :: s.Mean.Knots.tail := by
    have : ∀ (l : List api_Knot) (h : 0 < l.length), l = l[0] :: l.tail := fun l h => by
      cases l with
      | nil => simp at h
      | cons a r => rfl
    exact this _ h0
  have h := lp_list (body := ref03_Check_b3 s) (s0 := 1) s.Mean.Knots.tail (by omega) (fun (k : api_Knot) i => i + 1) (fun k l => if risesB (k :: l) = true ∧ tabB s s.Mean = true ∧ tabB s s.Mtac = true then 0 else 1) (fun i k => k = s.Mean.Knots.getD i default) (a := s.Mean.Knots[0]) rfl (by simp [List.getD_eq_getElem?_getD, h0]) (fun a i hi hJ => ?_) (fun a hJ => ?_)
  · rw [h]; unfold tailE; rw [← hd0]
  · have hi1 : i + 1 < s.Mean.Knots.length := by omega
    have hi0 : i < s.Mean.Knots.length := by omega
    have ht : s.Mean.Knots.tail[i] = s.Mean.Knots[i + 1] := by simp
    have ea : a = s.Mean.Knots[i] := by rw [hJ]; simp [List.getD_eq_getElem?_getD, hi0]
    unfold ref03_Check_b3
    simp only
    rw [if_pos (by rw [decide_eq_true_eq]; omega), show (i : Int) + 1 = ((i + 1 : Nat) : Int) by omega, ix_lt hi1, Option.bind_some, show w64 (((i + 1 : Nat) : Int) - 1) = (i : Int) by rw [w64_id (by omega) (by omega)]; omega, ix_lt hi0, Option.bind_some, w64s' hi1 (by omega), ht, ea]
    simp only [risesB, Bool.and_eq_true, decide_eq_true_eq]
    by_cases hy : s.Mean.Knots[i + 1].Y ≤ s.Mean.Knots[i].Y
    · right; rw [if_pos (by simpa using hy), if_neg (by omega)]
    · left; rw [if_neg (by simpa using hy)]
      refine ⟨s.Mean.Knots[i + 1], by simp, ?_, by simp [List.getD_eq_getElem?_getD, hi1]⟩
      have : s.Mean.Knots[i].Y < s.Mean.Knots[i + 1].Y := by omega
      simp [this]
  · unfold ref03_Check_b3
    simp only
    rw [if_neg (by rw [decide_eq_true_eq]; omega), hj]
    simp [risesB]
theorem rcheck_j1' (s : api_Ship) (hl : Len s.Holds) : ref03_Check_j1 s = some (restE s) := by
  unfold ref03_Check_j1 restE
  rw [rrooms_eq s hl, Option.bind_some, w64_add']
  by_cases h : 65536 < w64 (s.Light + roomSum s.Holds)
  · rw [if_pos (by simpa using h), if_pos h]
  · rw [if_neg (by simpa using h), if_neg h, ref1Check_eq, Option.bind_some]
    unfold curvesE
    by_cases h1 : cchk s.Mean = 0
    · rw [if_neg (by simp [h1]), if_pos h1, ref1Check_eq, Option.bind_some]
      by_cases h2 : cchk s.Mtac = 0
      · rw [if_neg (by simp [h2]), if_pos h2]
        refine rises_loop s (cchk_good h1) ?_
        unfold ref03_Check_j2
        rw [known_eq s s.Mean (cchk_good h1) hl, known_eq s s.Mtac (cchk_good h2) hl]
        simp only [Option.bind_some]
        cases tabB s s.Mean <;> cases tabB s s.Mtac <;> simp
      · rw [if_pos (by simp [h2]), if_neg h2]
    · rw [if_pos (by simp [h1]), if_neg h1]
theorem dup_loop (s : api_Ship) (i : Nat) (x : api_Hold) (hi : i < s.Holds.length) (hl : Len s.Holds) : Lp (ref03_Check_b6 s (i : Int) x) fuel 0 = some (if ((s.Holds.take i).any fun y => decide (y.ID = x.ID)) = true then .inr 6 else .inl ((i + 1 : Nat) : Int)) := by
  have hlt : (s.Holds.take i).length = i := by rw [List.length_take]; omega
  unfold Len at hl
  refine (lp_list (body := ref03_Check_b6 s (i : Int) x) (s.Holds.take i) (by omega) (fun (_ : Unit) k => k) (fun _ l => if (l.any fun y => decide (y.ID = x.ID)) = true then (.inr 6 : Int ⊕ Int) else .inl ((i + 1 : Nat) : Int)) (fun _ _ => True) (a := ()) rfl trivial (fun a k hk _ => ?_) (fun a _ => ?_)).trans rfl
  · have hk' : k < i := by omega
    have hk2 : k < s.Holds.length := by omega
    have e : (s.Holds.take i)[k] = s.Holds[k] := by simp
    unfold ref03_Check_b6
    simp only
    rw [if_pos (by rw [decide_eq_true_eq]; omega), ix_lt hk2, Option.bind_some, w64s' hk2 hl, e]
    by_cases hd : s.Holds[k].ID = x.ID
    · right; rw [if_pos (by simpa using hd)]; simp only [List.any_cons, hd, decide_true, Bool.true_or, if_true]
    · left; rw [if_neg (by simpa using hd)]; exact ⟨(), rfl, by simp only [List.any_cons, hd, decide_false, Bool.false_or], trivial⟩
  · unfold ref03_Check_b6
    simp only
    rw [hlt, if_neg (by simp)]
    unfold ref03_Check_j5
    rw [w64s' hi hl]; rfl
theorem rcheck_eq (s : api_Ship) (hl : Len s.Holds) : ref03_Check s = some (chk s) := by
  unfold ref03_Check chk
  have e : ∀ a b c : Int, ref03_in a b c = hull_within a b c := fun a b c => rfl
  have e2 : ∀ a b : Int, ref03_placed a b = hull_placed a b := fun a b => rfl
  simp only [e, e2]
  by_cases hb : headB s = true
  · rw [if_neg (by simp only [headB] at hb; simp at hb ⊢; simp [hb]), if_pos hb]
    by_cases h8 : 8 < (s.Holds.length : Int)
    · rw [if_pos (by simpa using h8), if_pos h8]
    · rw [if_neg (by simpa using h8), if_neg h8]
      refine lp_list (body := ref03_Check_b4 s) s.Holds hl (fun (_ : List api_Hold) i => i) (holdsE (restE s)) (fun i pre => pre = s.Holds.take i) rfl rfl (fun a i hi hJ => ?_) (fun a hJ => ?_)
      · unfold ref03_Check_b4
        simp only [e, e2]
        rw [if_pos (by simpa using hi), ix_lt hi, Option.bind_some, dup_loop s i _ hi hl]
        simp only [holdsE]
        have ec : (((!hull_within s.Holds[i].ID 1 1099511627776) || !hull_within s.Holds[i].Room 0 65536) || !hull_placed s.Holds[i].Lever s.Holds[i].Height) = !holdB s.Holds[i] := by
          simp [holdB, hull_within, hull_placed]
        rw [ec]
        by_cases hh : holdB s.Holds[i] = true
        · rw [if_neg (by simp [hh]), if_pos hh, ← hJ]
          by_cases hd : (a.any fun x => decide (x.ID = s.Holds[i].ID)) = true
          · right; rw [if_pos hd, if_pos hd]
          · left; rw [if_neg hd, if_neg hd]
            exact ⟨a ++ [s.Holds[i]], rfl, rfl, by rw [hJ, List.take_append_getElem]⟩
        · right; rw [if_pos (by simp [hh]), if_neg hh]
      · unfold ref03_Check_b4
        simp only
        rw [if_neg (by simp), rcheck_j1' s hl]; rfl
  · rw [if_pos (headB_not hb), if_neg hb]
end Go.Mx
