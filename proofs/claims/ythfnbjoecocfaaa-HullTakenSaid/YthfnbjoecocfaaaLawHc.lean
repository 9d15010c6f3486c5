/- Plain laws of ships, third part: the specification's check of a ship is the program's. Conditions: none. -/
import Derived.Test.YthfnbjoecocfaaaLawHb
set_option linter.unusedVariables false
set_option linter.unusedSimpArgs false
namespace Go.Mx

theorem knot_get {c : api_Curve} (hg : GoodC c) : ix c.Knots 0 = some (c.Knots.getD 0 default) ∧ ix c.Knots (w64 ((c.Knots.length : Int) - 1)) = some (c.Knots.getD (c.Knots.length - 1) default) ∧ (0 ≤ (c.Knots.getD 0 default).X ∧ (c.Knots.getD 0 default).X ≤ 2000) ∧ (0 ≤ (c.Knots.getD (c.Knots.length - 1) default).X ∧ (c.Knots.getD (c.Knots.length - 1) default).X ≤ 2000) := by
  have h0 := hg.n0
  have h1 := hg.n1
  have hl : c.Knots.length - 1 < c.Knots.length := by omega
  have e1 : c.Knots.getD 0 default = c.Knots[0] := by simp [List.getD_eq_getElem?_getD, h0]
  have e2 : c.Knots.getD (c.Knots.length - 1) default = c.Knots[c.Knots.length - 1] := by simp [List.getD_eq_getElem?_getD, hl]
  rw [e1, e2]
  refine ⟨?_, ?_, ?_, ?_⟩
  · have := ix_lt (l := c.Knots) (i := 0) h0; simpa using this
  · rw [w64_id (by omega) (by omega), show (c.Knots.length : Int) - 1 = ((c.Knots.length - 1 : Nat) : Int) by omega, ix_lt hl]
  · have := hg.xy 0 h0; omega
  · have := hg.xy _ hl; omega
theorem tabled_eq (s : api_Ship) (c : api_Curve) (hg : GoodC c) (hl : Len s.Holds) (h0 : w64 s.Light = s.Light) : hull_tabled s c = some (if tabB s c = true then 0 else 1) := by
  obtain ⟨k1, k2, k3, k4⟩ := knot_get hg
  have hm : hull_table_masses ⟨c⟩ = some ⟨(c.Knots.getD 0 default).X * 40, (c.Knots.getD (c.Knots.length - 1) default).X * 40⟩ := by
    unfold hull_table_masses
    simp only
    rw [k1, k2, Option.bind_some, Option.bind_some, w64_id (by omega) (by omega), w64_id (by omega) (by omega)]
  have hr : hull_rooms s = some (w64 (s.Light + roomSum s.Holds)) := (hrooms_eq s hl).resolve_right (by simp [h0])
  obtain ⟨b, b1, b2⟩ := index_tabled c.Knots (by have := hg.n1; unfold Len; omega)
  unfold hull_tabled
  rw [hm, hr, b1]
  simp only [Option.bind_some]
  unfold tabB
  rw [← b2]
  generalize (c.Knots.getD 0 default).X * 40 = p
  generalize (c.Knots.getD (c.Knots.length - 1) default).X * 40 = q
  generalize w64 (s.Light + roomSum s.Holds) = r
  by_cases h1 : s.Light < p
  · have e : decide (p ≤ s.Light) = false := by simp; omega
    simp [gb, h1, e]
  · have e : decide (p ≤ s.Light) = true := by simp; omega
    by_cases h2 : q < r
    · have e2 : ¬ r ≤ q := by omega
      simp [gb, h1, e, h2, e2]
    · have e2 : r ≤ q := by omega
      cases b <;> simp [gb, h1, e, h2, e2]
/-! Holds. -/
def holdB (h : api_Hold) : Bool := decide (1 ≤ h.ID) && decide (h.ID ≤ 1099511627776) && (decide (0 ≤ h.Room) && decide (h.Room ≤ 65536)) && ((decide (-20000 ≤ h.Lever) && decide (h.Lever ≤ 20000)) && (decide (0 ≤ h.Height) && decide (h.Height ≤ 5000)))
def holdsE (rest : Int) : List api_Hold → List api_Hold → Int
  | _, [] => rest
  | pre, h :: r => if holdB h = true then (if (pre.any fun x => decide (x.ID = h.ID)) = true then 6 else holdsE rest (pre ++ [h]) r) else 1
theorem contains_ID (l : List api_Hold) (c : api_Hold) (hl : Len l) : slices_ContainsFunc_api_Hold__hull_Check_1 l c = some (l.any fun x => decide (x.ID = c.ID)) := by
  have h : ∃ r, slices_IndexFunc_api_Hold__hull_Check_1 l c = some r ∧ (if 0 ≤ r then (l.any fun x => decide (x.ID = c.ID)) = true else (l.any fun x => decide (x.ID = c.ID)) = false) := by
    unfold slices_IndexFunc_api_Hold__hull_Check_1
    unfold Len at hl
    refine lp_inv' (fun i s => s = (i : Int) ∧ ∀ j (hj : j < l.length), j < i → ¬ l[j].ID = c.ID) _ l.length (by omega) ⟨rfl, fun j _ h => by omega⟩ fun i s hi hI => ?_
    obtain ⟨rfl, hI⟩ := hI
    unfold slices_IndexFunc_api_Hold__hull_Check_1_b2
    by_cases h : i < l.length
    · rw [if_pos (by simpa using h), ix_lt h]
      simp only [Option.bind_some]
      by_cases hr : l[i].ID = c.ID
      · rw [if_pos (by simpa [hull_Check_1] using hr)]
        refine .inr ⟨_, rfl, ?_⟩
        rw [if_pos (by omega), List.any_eq_true]
        exact ⟨_, List.getElem_mem h, by simpa using hr⟩
      · rw [if_neg (by simpa [hull_Check_1] using hr)]
        refine .inl ⟨h, _, rfl, w64s i (by omega), fun j hj hji => ?_⟩
        by_cases hj' : j = i
        · subst hj'; exact hr
        · exact hI j hj (by omega)
    · rw [if_neg (by simpa using h)]
      refine .inr ⟨-1, rfl, ?_⟩
      rw [if_neg (by omega), List.any_eq_false]
      intro x hx
      obtain ⟨j, hj, rfl⟩ := List.getElem_of_mem hx
      simpa using hI j hj (by omega)
  obtain ⟨r, h1, h2⟩ := h
  unfold slices_ContainsFunc_api_Hold__hull_Check_1
  rw [h1, Option.bind_some]
  split at h2
  · rename_i h; rw [h2]; simpa using h
  · rename_i h; rw [h2]; simpa using h

def headB (s : api_Ship) : Bool := (((hull_within s.ID 1 1099511627776 && hull_within s.Light 1 65536) && hull_placed s.Lever s.Height) && hull_within s.Turn 1 1048576) && hull_within s.Least 0 5000
/-- The error of a ship behind that of her curves. -/
def tailE (s : api_Ship) : Int := if risesB s.Mean.Knots = true ∧ tabB s s.Mean = true ∧ tabB s s.Mtac = true then 0 else 1
def curvesE (s : api_Ship) : Int := if cchk s.Mean = 0 then (if cchk s.Mtac = 0 then tailE s else cchk s.Mtac) else cchk s.Mean
def restE (s : api_Ship) : Int := if 65536 < w64 (s.Light + roomSum s.Holds) then 1 else curvesE s
def chk (s : api_Ship) : Int := if headB s = true then (if 8 < (s.Holds.length : Int) then 2 else holdsE (restE s) [] s.Holds) else 1
theorem headB_not {s : api_Ship} (h : ¬ headB s = true) : (((((!hull_within s.ID 1 1099511627776) || !hull_within s.Light 1 65536) || !hull_placed s.Lever s.Height) || !hull_within s.Turn 1 1048576) || !hull_within s.Least 0 5000) = true := by
  have e : (((((!hull_within s.ID 1 1099511627776) || !hull_within s.Light 1 65536) || !hull_placed s.Lever s.Height) || !hull_within s.Turn 1 1048576) || !hull_within s.Least 0 5000) = !headB s := by simp [headB]
  rw [e]; simpa using h
theorem headB_of {s : api_Ship} (h : headB s = true) : (1 ≤ s.ID ∧ s.ID ≤ 1099511627776) ∧ (1 ≤ s.Light ∧ s.Light ≤ 65536) ∧ (-20000 ≤ s.Lever ∧ s.Lever ≤ 20000) ∧ (0 ≤ s.Height ∧ s.Height ≤ 5000) ∧ (1 ≤ s.Turn ∧ s.Turn ≤ 1048576) ∧ (0 ≤ s.Least ∧ s.Least ≤ 5000) := by
  simp only [headB, hull_placed, hull_within, Bool.and_eq_true, decide_eq_true_eq] at h
  omega

theorem or_two (a b : Int) : cmp_Or_api_Errno [a, b] = some (if a = 0 then b else a) := by
  unfold cmp_Or_api_Errno
  refine lp_list (body := cmp_Or_api_Errno_b2 [a, b]) [a, b] (by simp) (fun (_ : Unit) i => i) (fun _ l => match l with | [x, y] => if x = 0 then y else x | [y] => y | _ => 0) (fun _ _ => True) (a := ()) rfl trivial (fun u i hi _ => ?_) (fun u _ => ?_)
  · unfold cmp_Or_api_Errno_b2
    simp only
    rw [if_pos (by simp only [decide_eq_true_eq]; exact Int.ofNat_lt.2 hi), ix_lt hi, Option.bind_some, w64s' hi (by simp)]
    match i, hi with
    | 0, _ =>
      simp only [List.getElem_cons_zero]
      by_cases h : a = 0
      · left; rw [if_neg (by simp [h])]; exact ⟨(), rfl, by simp [h], trivial⟩
      · right; rw [if_pos (by simp [h])]; simp [h]
    | 1, _ =>
      simp only [List.getElem_cons_succ, List.getElem_cons_zero]
      by_cases h : b = 0
      · left; rw [if_neg (by simp [h])]; exact ⟨(), rfl, by simp [h], trivial⟩
      · right; rw [if_pos (by simp [h])]; simp
  · rfl
theorem check_j2 (s : api_Ship) (h1 : cchk s.Mean = 0) (h2 : cchk s.Mtac = 0) (hl : Len s.Holds) (h0 : w64 s.Light = s.Light) : hull_Check_j2 s = some (tailE s) := by
  obtain ⟨n, q1, q2⟩ := Rising_one s.Mean h1
  unfold hull_Check_j2 tailE
  rw [q1, Option.bind_some]
  by_cases hn : n = 1
  · rw [if_neg (by simp [hn]), tabled_eq s s.Mean (cchk_good h1) hl h0, tabled_eq s s.Mtac (cchk_good h2) hl h0]
    simp only [Option.bind_some, or_two]
    rw [q2.1 hn]
    cases tabB s s.Mean <;> cases tabB s s.Mtac <;> simp
  · rw [if_pos (by simp [hn]), if_neg]
    intro h
    exact hn (q2.2 h.1)
theorem check_j1' (s : api_Ship) (hl : Len s.Holds) (h0 : w64 s.Light = s.Light) : hull_Check_j1 s = some (restE s) := by
  unfold hull_Check_j1 restE
  rw [(hrooms_eq s hl).resolve_right (by simp [h0]), Option.bind_some]
  by_cases h : 65536 < w64 (s.Light + roomSum s.Holds)
  · rw [if_pos (by simpa using h), if_pos h]
  · rw [if_neg (by simpa using h), if_neg h]
    refine (lp_list (body := hull_Check_b3 s) [s.Mean, s.Mtac] (by simp) (fun (_ : Unit) i => i) (fun _ l => match l with | [a, b] => if cchk a = 0 then (if cchk b = 0 then tailE s else cchk b) else cchk a | [b] => if cchk b = 0 then tailE s else cchk b | _ => tailE s) (fun i _ => (1 ≤ i → cchk s.Mean = 0) ∧ (2 ≤ i → cchk s.Mtac = 0)) (a := ()) rfl ⟨by omega, by omega⟩ (fun u i hi hJ => ?_) (fun u hJ => ?_)).trans rfl
    · unfold hull_Check_b3
      simp only
      rw [if_pos (by simp only [decide_eq_true_eq]; exact Int.ofNat_lt.2 hi), ix_lt hi, Option.bind_some, w64s' hi (by simp), curveCheck_eq, Option.bind_some]
      match i, hi with
      | 0, _ =>
        simp only [List.getElem_cons_zero]
        by_cases h : cchk s.Mean = 0
        · left; rw [if_neg (by simp [h])]; exact ⟨(), rfl, by simp [h], fun _ => h, by omega⟩
        · right; rw [if_pos (by simp [h])]; simp [h]
      | 1, _ =>
        simp only [List.getElem_cons_succ, List.getElem_cons_zero]
        by_cases h : cchk s.Mtac = 0
        · left; rw [if_neg (by simp [h])]; exact ⟨(), rfl, by simp [h], fun _ => hJ.1 (by omega), fun _ => h⟩
        · right; rw [if_pos (by simp [h])]; simp [h]
    · unfold hull_Check_b3
      simp only
      rw [if_neg (by simp), check_j2 s (hJ.1 (by simp)) (hJ.2 (by simp)) hl h0]; rfl
theorem hcheck_eq (s : api_Ship) (hl : Len s.Holds) : hull_Check s = some (chk s) := by
  unfold hull_Check chk
  by_cases hb : headB s = true
  · have h0 : w64 s.Light = s.Light := by have := headB_of hb; exact w64_id (by omega) (by omega)
    rw [if_neg (by simp only [headB] at hb; simp at hb ⊢; simp [hb]), if_pos hb]
    by_cases h8 : 8 < (s.Holds.length : Int)
    · rw [if_pos (by simpa using h8), if_pos h8]
    · rw [if_neg (by simpa using h8), if_neg h8]
      refine lp_list (body := hull_Check_b4 s) s.Holds hl (fun (_ : List api_Hold) i => i) (holdsE (restE s)) (fun i pre => pre = s.Holds.take i) rfl rfl (fun a i hi hJ => ?_) (fun a hJ => ?_)
      · unfold hull_Check_b4
        simp only
        rw [if_pos (by simpa using hi), ix_lt hi, Option.bind_some, w64s' hi hl]
        simp only [holdsE]
        have ec : (((!hull_within s.Holds[i].ID 1 1099511627776) || !hull_within s.Holds[i].Room 0 65536) || !hull_placed s.Holds[i].Lever s.Holds[i].Height) = !holdB s.Holds[i] := by
          simp [holdB, hull_within, hull_placed]
        rw [ec]
        by_cases hh : holdB s.Holds[i] = true
        · rw [if_neg (by simp [hh]), if_pos hh, sub_pre (by omega), Option.bind_some, contains_ID _ _ (by unfold Len at *; rw [List.length_take]; omega), Option.bind_some, ← hJ]
          by_cases hd : (a.any fun x => decide (x.ID = s.Holds[i].ID)) = true
          · right; rw [if_pos hd, if_pos hd]
          · left; rw [if_neg hd, if_neg hd]
            exact ⟨a ++ [s.Holds[i]], rfl, rfl, by rw [hJ, List.take_append_getElem]⟩
        · right; rw [if_pos (by simp [hh]), if_neg hh]
      · unfold hull_Check_b4
        simp only
        rw [if_neg (by simp), check_j1' s hl h0]; rfl
  · rw [if_pos (headB_not hb), if_neg hb]

/-! The specification. -/
end Go.Mx
