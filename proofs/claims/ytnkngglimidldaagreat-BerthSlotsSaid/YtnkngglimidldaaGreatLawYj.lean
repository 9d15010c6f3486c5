/- Plain laws, berths: Touch, Slots, Allow. Conditions: none. -/
import Derived.Test.YtnkngglimidldaaGreatLawYi
set_option linter.unusedVariables false
set_option linter.unusedSimpArgs false
namespace Go.Mx
theorem small_some (h : api_Harbour) (hh : LenH h) : ∃ y, law06_small h = some y := by
 unfold law06_small
 obtain ⟨r, h1, _⟩ := lp_inv' (body := law06_small_b2 h) (s0 := 0) (fun i s => s = (i : Int)) (fun _ => True) h.Tides.length (by have := hh.t; unfold Len at this; omega) rfl fun i s hi hI => by
  subst hI
  unfold law06_small_b2
  by_cases e : i < h.Tides.length
  ·rw [if_pos (by simpa using e), ix_lt e, Option.bind_some, Option.bind_some]
   split
   ·exact .inr ⟨_, rfl, trivial⟩
   ·exact .inl ⟨e, _, rfl, w64s' e hh.t⟩
  ·rw [if_neg (by simpa using e)]
   exact .inr ⟨_, rfl, trivial⟩
 exact ⟨r, h1⟩
theorem berth_uniq {h : api_Harbour} (hg : GoodH h) {a b : api_Berth} (ha : a ∈ h.Berths) (hb : b ∈ h.Berths) (e : a.ID = b.ID) : a = b := by
 obtain ⟨p, hp, rfl⟩ := List.getElem_of_mem ha
 obtain ⟨q, hq, rfl⟩ := List.getElem_of_mem hb
 rcases Nat.lt_trichotomy p q with w | w | w
 ·exact absurd e (List.pairwise_iff_getElem.1 hg.bd p q hp hq w)
 ·subst w; rfl
 ·exact absurd e.symm (List.pairwise_iff_getElem.1 hg.bd q p hq hp w)
theorem CheckH_good {h : api_Harbour} (hh : LenH h) (e : checkHS h = 0) : berth_Check h = some 0 := by rw [CheckH_eq h hh, e]
theorem takenS_len (h : api_Harbour) (c : api_Call) : ∀ (ts : List api_Span) (i : Nat), (takenS h c i ts).length ≤ h.Berths.length * ts.length
 | [], i => by simp [takenS]
 | t :: r, i => by
  have := takenS_len h c r (i + 1)
  have := takeRow_len h c i t h.Berths
  simp only [takenS, List.length_append, List.length_cons, Nat.mul_succ]; omega
theorem taken_len {h : api_Harbour} (hg : GoodH h) (c : api_Call) : (takenS h c 0 h.Tides).length ≤ 72 := by
 have := takenS_len h c h.Tides 0
 have : h.Berths.length * h.Tides.length ≤ 6 * 12 := Nat.mul_le_mul hg.nb hg.nt
 omega
theorem Slots_eq {h : api_Harbour} (hh : LenH h) (e : checkHS h = 0) {c : api_Call} (hc : rightB c = true) : berth_Slots h c = some ((takenS h c 0 h.Tides).map (·.1), 0) := by
 unfold berth_Slots
 rw [CheckH_good hh e, Option.bind_some, if_neg (by simp), rightC_eq, hc, if_neg (by simp), taken_eq (GoodH.of hh e) (GoodC.of hc)]
 rfl
theorem when_mono {h : api_Harbour} (hg : GoodH h) {c d : api_Call} {t : api_Span} {b : api_Berth} (ht : t ∈ h.Tides) (hF : 0 ≤ c.From) (hL : 1 ≤ c.Long) (e1 : d.From = c.From) (e2 : d.To = c.To) (e3 : d.Long = c.Long) (e4 : d.Draught ≤ c.Draught) (q : (whenS h c t b).2 = true) : (whenS h d t b).2 = true := by
 obtain ⟨w1, w2, w3, w4⟩ := when_true hg ht hF hL q
 refine when_can hg ht (by omega) (by omega) (a := (whenS h c t b).1.Lo) (by omega) (by omega) fun m h0 h1 => ?_
 have := w4 m h0 (by omega)
 unfold need at *; omega
def canA (h : api_Harbour) (t : api_Span) (b : api_Berth) (long d : Int) : Bool := (whenS h ⟨0, d, 0, 1048576, long⟩ t b).2
end Go.Mx
