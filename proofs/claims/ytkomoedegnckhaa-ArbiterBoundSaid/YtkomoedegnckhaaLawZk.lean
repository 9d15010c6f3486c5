/- Plain laws, arbiters: lawful letters of one case. Conditions: none. -/
import Derived.Test.YtkomoedegnckhaaLawZg
import Derived.Test.YtkomoedegnckhaaLawZa
set_option linter.unusedVariables false
set_option linter.unusedSimpArgs false
namespace Go.Mx
theorem first_said {l : List api_Letter} {x : api_Letter} (hx : x ∈ l) : ∃ i, ∃ hi : i < l.length, arbiter_said l[i] = arbiter_said x ∧ (l.take i).any (fun y => ref09_Alike y l[i]) = false := by
 cases hf : l.findIdx? fun y => decide (arbiter_said y = arbiter_said x) with
 | none =>
  have := List.findIdx?_eq_none_iff.1 hf x hx
  simp at this
 | some i =>
  obtain ⟨h1, h2, h3⟩ := List.findIdx?_eq_some_iff_getElem.1 hf
  simp only [decide_eq_true_eq] at h2
  refine ⟨i, h1, h2, List.any_eq_false.2 fun y hy => ?_⟩
  obtain ⟨j, hj, rfl⟩ := List.mem_take_iff_getElem.1 hy
  have := h3 j (by omega)
  rw [alike_said, h2]
  simpa using this
def kV (l : List api_Letter) (k : Int) (a : Nat) (r f : Int) : Prop := ∃ x ∈ l, x.Kind = 4 ∧ x.Case = k ∧ x.From = (a : Int) ∧ x.Round = r ∧ x.Finding = f
def kP (l : List api_Letter) (k : Int) (a : Nat) (r w f : Int) : Prop := ∃ x ∈ l, x.Kind = 2 ∧ x.Case = k ∧ x.From = (a : Int) ∧ x.Round = r ∧ x.Voted = w ∧ x.Finding = f
def kR (l : List api_Letter) (k r f : Int) : Prop := ∃ x ∈ l, x.Kind = 3 ∧ x.Case = k ∧ x.Round = r ∧ x.Finding = f
def opK (l : List api_Letter) (a k r : Int) : Bool := !l.any fun x => wrdS a k x && (decide (r < x.Round) || (decide (x.Round = r) && decide (x.Kind = 4)))
theorem law_at {c : api_Court} {l : List api_Letter} (hL : LawTo c l) {i : Nat} (hi : i < l.length) (hn : (l.take i).any (fun y => ref09_Alike y l[i]) = false) : (l[i].Kind = 2 → (l.take i).any (isK 1 l[i].Case l[i].Round) = true ∧ l[i].Voted = (lastS (l.take i) l[i].From l[i].Case).1 ∧ l[i].Finding = (lastS (l.take i) l[i].From l[i].Case).2) ∧
  (l[i].Kind = 3 → ableS c (prmS c (l.take i) l[i].Case l[i].Round) l[i].Finding = true) ∧
  (l[i].Kind = 4 → (∃ y ∈ l.take i, isK 3 l[i].Case l[i].Round y = true ∧ y.Finding = l[i].Finding) ∧ spkS (l.take i) l[i].From l[i].Case ≤ l[i].Round) := by
 have h := hL i hi
 unfold lawS at h
 rw [if_neg (by rw [hn]; simp)] at h
 refine ⟨fun k => ?_, fun k => ?_, fun k => ?_⟩
 ·rw [if_neg (by omega), if_pos k] at h
  simp only [Bool.and_eq_true, decide_eq_true_eq] at h
  exact ⟨h.1.1.1, h.1.2, h.2⟩
 ·rw [if_neg (by omega), if_neg (by omega), if_pos k] at h
  simp only [Bool.and_eq_true] at h
  exact h.2
 ·rw [if_neg (by omega), if_neg (by omega), if_neg (by omega)] at h
  simp only [Bool.and_eq_true, decide_eq_true_eq] at h
  refine ⟨?_, h.1.2⟩
  have h2 := h.1.1
  unfold prpS at h2
  cases hf : (l.take i).find? (isK 3 l[i].Case l[i].Round) with
  | none => rw [hf] at h2; cases h2
  | some y =>
   rw [hf] at h2
   exact ⟨y, List.mem_of_find?_eq_some hf, List.find?_some hf, by simpa using h2⟩
theorem cnt_prm (c : api_Court) (l : List api_Letter) (k r v : Int) : cntI (fun x => decide (x.Voted ≤ v)) (prmS c l k r) = (cnt (fun a : Nat => ((l.find? (isP k r (a : Int))).map fun x => decide (x.Voted ≤ v)).getD false) c.Arbiters.toNat : Nat) := by
 unfold cntI prmS
 rw [List.countP_filterMap, List.countP_eq_length_filter, cnt_filter]
theorem isP_spec {k r a : Int} {x : api_Letter} (h : isP k r a x = true) : x.Kind = 2 ∧ x.Case = k ∧ x.Round = r ∧ x.From = a := by
 unfold isP isK at h
 simpa [and_assoc] using h
theorem pax_of {c : api_Court} {l : List api_Letter} (hc : okC c = true) (hf : ∀ y ∈ l, fmB c y = true) (hL : LawTo c l) (k : Int) : Pax c.Arbiters.toNat (majS c).toNat (kV l k) (kP l k) (kR l k) (fun a r => opK l (a : Int) k r) := by
 obtain ⟨g1, g2⟩ := okC_spec hc
 have hmaj : majS c = c.Arbiters / 2 + 1 := by unfold majS; rw [if_pos hc]
 have hprop : ∀ a r f, kV l k a r f → kR l k r f := by
  rintro a r f ⟨x, hx, q1, q2, q3, q4, q5⟩
  obtain ⟨i, hi, e1, e2⟩ := first_said hx
  obtain ⟨s1, s2, s3, s4, s5, s6⟩ := said_iff.1 e1
  obtain ⟨⟨y, hy, hk, hfi⟩, _⟩ := (law_at hL hi e2).2.2 (s2.trans q1)
  have hk' : y.Kind = 3 ∧ y.Case = l[i].Case ∧ y.Round = l[i].Round := by simpa [isK, and_assoc] using hk
  exact ⟨y, List.mem_of_mem_take hy, hk'.1, by omega, by omega, by omega⟩
 refine ⟨by omega, ?_, ?_, ?_, hprop, ?_, ?_, ?_⟩
 ·rintro a r w f ⟨x, hx, q1, q2, q3, q4, q5, q6⟩ hw
  have hF := (fm_of (hf x hx)).voted q1
  refine ⟨?_, by omega⟩
  obtain ⟨i, hi, e1, e2⟩ := first_said hx
  obtain ⟨s1, s2, s3, s4, s5, s6⟩ := said_iff.1 e1
  obtain ⟨_, h1, h2⟩ := (law_at hL hi e2).1 (s2.trans q1)
  rcases last_mem (l.take i) l[i].From l[i].Case with h | ⟨y, hy, y1, y2, y3, y4, y5, _⟩
  ·rw [h] at h1; simp only at h1; omega
  ·exact ⟨y, List.mem_of_mem_take hy, y1, by omega, by omega, by omega, by omega⟩
 ·rintro a r w f r' g ⟨x, hx, q1, q2, q3, q4, q5, q6⟩ ⟨y, hy, p1, p2, p3, p4, p5⟩ hlt
  obtain ⟨i, hi, e1, e2⟩ := first_said hx
  obtain ⟨s1, s2, s3, s4, s5, s6⟩ := said_iff.1 e1
  obtain ⟨j, hj, f1, f2⟩ := first_said hy
  obtain ⟨t1, t2, t3, t4, t5, t6⟩ := said_iff.1 f1
  rcases Nat.lt_trichotomy j i with c1 | c1 | c1
  ·obtain ⟨_, h1, h2⟩ := (law_at hL hi e2).1 (s2.trans q1)
   have := (last_ge (l := l.take i) (a := l[i].From) (k := l[i].Case)).2 l[j] (List.mem_take_iff_getElem.2 ⟨j, by omega, rfl⟩) (by omega) (by omega) (by omega)
   omega
  ·subst c1; omega
  ·obtain ⟨_, h1⟩ := (law_at hL hj f2).2.2 (t2.trans p1)
   have hR := (fm_of (hf l[j] (List.getElem_mem hj))).round
   have := (spk_lt (l.take j) l[j].From l[j].Case (l[j].Round + 1) (by omega)).1 (by omega) l[i] (List.mem_take_iff_getElem.2 ⟨i, by omega, rfl⟩) (by
    unfold wrdS
    simp only [Bool.and_eq_true, Bool.or_eq_true, decide_eq_true_eq]
    exact ⟨⟨by omega, by omega⟩, .inl (by omega)⟩)
   omega
 ·rintro a r f ⟨x, hx, q1, q2, q3, q4, q5⟩
  have := (fm_of (hf x hx)).round
  omega
 ·rintro r f g ⟨x, hx, q1, q2, q3, q4⟩ ⟨y, hy, p1, p2, p3, p4⟩
  have := prop_uniq hL hx hy (k := k) (r := r) (by simp [isK, q1, q2, q3]) (by simp [isK, p1, p2, p3])
  omega
 ·rintro a r w f r' ⟨x, hx, q1, q2, q3, q4, q5, q6⟩ hlt
  have : l.any (fun x => wrdS (a : Int) k x && (decide (r' < x.Round) || (decide (x.Round = r') && decide (x.Kind = 4)))) = true := List.any_eq_true.2 ⟨x, hx, by
   have c1 : r' < x.Round := by omega
   simp [wrdS, q1, q2, q3, c1]⟩
  show opK l (a : Int) k r' = false
  unfold opK
  rw [this]; rfl
 ·rintro r f ⟨x, hx, q1, q2, q3, q4⟩
  obtain ⟨i, hi, e1, e2⟩ := first_said hx
  obtain ⟨s1, s2, s3, s4, s5, s6⟩ := said_iff.1 e1
  have hA := (law_at hL hi e2).2.1 (s2.trans q1)
  have ec : l[i].Case = k := by omega
  have er : l[i].Round = r := by omega
  have ef : l[i].Finding = f := by omega
  rw [ec, er, ef] at hA
  have hQ : ∀ (v : Int) (a : Nat), (((l.take i).find? (isP k r (a : Int))).map fun x => decide (x.Voted ≤ v)).getD false = true → ∃ w g, kP l k a r w g ∧ 0 ≤ w ∧ w ≤ v := fun v a ha => by
   cases hfd : (l.take i).find? (isP k r (a : Int)) with
   | none => rw [hfd] at ha; cases ha
   | some y =>
    rw [hfd] at ha
    have hy := List.mem_of_mem_take (List.mem_of_find?_eq_some hfd)
    obtain ⟨y1, y2, y3, y4⟩ := isP_spec (List.find?_some hfd)
    exact ⟨_, _, ⟨y, hy, y1, y2, y4, y3, rfl, rfl⟩, ((fm_of (hf y hy)).voted y1).1, by simpa using ha⟩
  unfold ableS at hA
  rw [cnt_prm] at hA
  rcases Bool.or_eq_true_iff.1 hA with h | h
  ·simp only [decide_eq_true_eq] at h
   refine ⟨fun a : Nat => (((l.take i).find? (isP k r (a : Int))).map fun x => decide (x.Voted ≤ 0)).getD false, by omega, .inl fun a ha => ?_⟩
   obtain ⟨w, g, h1, h2, h3⟩ := hQ 0 a ha
   have : w = 0 := by omega
   subst this
   exact ⟨g, h1⟩
  ·obtain ⟨y, hy, h⟩ := List.any_eq_true.1 h
   rw [cnt_prm] at h
   simp only [Bool.and_eq_true, decide_eq_true_eq] at h
   obtain ⟨⟨h1, h2⟩, h3⟩ := h
   refine ⟨fun a : Nat => (((l.take i).find? (isP k r (a : Int))).map fun x => decide (x.Voted ≤ y.Voted)).getD false, by omega, .inr ?_⟩
   unfold prmS at hy
   obtain ⟨b, _, hb⟩ := List.mem_filterMap.1 hy
   have hym := List.mem_of_mem_take (List.mem_of_find?_eq_some hb)
   obtain ⟨y1, y2, y3, y4⟩ := isP_spec (List.find?_some hb)
   refine ⟨b, y.Voted, h1, ⟨y, hym, y1, y2, y4, y3, rfl, h2⟩, fun a ha => ?_⟩
   obtain ⟨w, g, k1, k2, k3⟩ := hQ y.Voted a ha
   exact ⟨w, g, k1, k3⟩
theorem vt_kV {l : List api_Letter} {r : api_Ruling} {a : Nat} (h : vtB l r a = true) : kV l r.Case a r.Round r.Finding := by
 obtain ⟨x, hx, h⟩ := List.any_eq_true.1 h
 simp only [Bool.and_eq_true, decide_eq_true_eq] at h
 obtain ⟨h1, h2⟩ := vf_iff.1 h.1
 exact ⟨x, hx, h1, by rw [← h2]; rfl, h.2, by rw [← h2]; rfl, by rw [← h2]; rfl⟩
end Go.Mx
