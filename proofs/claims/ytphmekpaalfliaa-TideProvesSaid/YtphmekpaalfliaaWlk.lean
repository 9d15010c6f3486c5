/- Rules for a walk over terms: slots are put in front; guards that are no literals need no parting. Conditions: none. -/
import Derived.Test.YtphmekpaalfliaaCt
set_option linter.unusedVariables false
set_option linter.unusedSimpArgs false
namespace Go.Am
open Go Go.Wk Go.RowKit

/-- A value that is there if so. -/
def gv (x : Bool) (v : V) : V := cond x v undefV
namespace W
section
variable {C : Cfg} {all os : List Oper} {o : Oper} {k : List It} {K : List (Nat × V)} {H : List Blk} {lo n : Nat} {rnd : Option Nat} {Q : Ex → St → Prop} {dst : Option Nat} {d : Nat} {p : Op} {ty : TypeId} {pos : String} {after : Array Edge} {e : Eff} {v : V} {x y : Bool}

theorem front {s s' : St} (hs : s.put (some d) v = s') (hd : Nat.blt d n = true) (h : Gm C k ⟨(d, v) :: K, H, lo, rnd, n⟩ Q) (e1 : s = ⟨K, H, lo, rnd, n⟩) : Gm C k s' Q := by
  subst e1
  subst hs
  have e2 : St.put ⟨K, H, lo, rnd, n⟩ (some d) v = ⟨kput K d v, H, lo, rnd, n⟩ := by unfold St.put; simp only; rw [hd]; rfl
  rw [e2]
  refine .drop ((d, v) :: K) (fun t u h => ?_) h
  simp only [kget] at h
  show kget (kput K d v) t = some u
  rw [kget_put]
  cases hb : Nat.beq d t with
  | true => rw [hb] at h; rw [if_pos (Nat.eq_of_beq_eq_true hb)]; exact h
  | false => rw [hb] at h; rw [if_neg (Nat.ne_of_beq_eq_false hb)]; exact h

/-- An operation without a guard that has a slot. -/
theorem op (he : opEff C K H lo H.length p = some e) (hd : Nat.blt d n = true) (h : Gm C (.ops all os :: k) ⟨(d, e.v) :: K, puts H e.wr, lo, rnd, n⟩ Q) : Gm C (.ops all (⟨some d, p, ty, pos, after, none⟩ :: os) :: k) ⟨K, H, lo, rnd, n⟩ Q :=
  .op rfl he (front rfl hd h rfl)

/-- An operation without a guard and without a slot. -/
theorem op0 (he : opEff C K H lo H.length p = some e) (h : Gm C (.ops all os :: k) ⟨K, puts H e.wr, lo, rnd, n⟩ Q) : Gm C (.ops all (⟨none, p, ty, pos, after, none⟩ :: os) :: k) ⟨K, H, lo, rnd, n⟩ Q :=
  .op rfl he h

/-- A call that is known. -/
theorem call {f : Nat} {args args' : List V} (hc : callee K p = some (.fn f args)) (ha : CloArgs H false args args') (hX : C.X f args' v) (hd : Nat.blt d n = true) (h : Gm C (.ops all os :: k) ⟨(d, v) :: K, H, lo, rnd, n⟩ Q) : Gm C (.ops all (⟨some d, p, ty, pos, after, none⟩ :: os) :: k) ⟨K, H, lo, rnd, n⟩ Q :=
  .ext (fl := false) rfl hc ha hX (fun h => by cases h) (front rfl hd h rfl)

/-- What a guard says: of a slot that holds a bool. -/
theorem wants_b {j : Nat} {b want : Bool} {t : Nat} {o' : Oper} (h1 : Am.get all j = some o') (h2 : o'.dst = some t) (h3 : kget K t = some (.b b)) : wants all K (some (j, want)) = some (b == want) := by
  unfold wants
  simp only [h1, h2, h3]

theorem cond {c : Operand} {c1 c2 : Code} (hc : kev K c = some (.b x)) (ht : x = true → Gm C (.code c1 :: k) ⟨K, H, lo, rnd, n⟩ Q) (hf : x = false → Gm C (.code c2 :: k) ⟨K, H, lo, rnd, n⟩ Q) : Gm C (.code (.cond c c1 c2) :: k) ⟨K, H, lo, rnd, n⟩ Q := by
  cases x with
  | true => exact .condT hc (ht rfl)
  | false => exact .condF hc (hf rfl)

theorem region {id : Nat} {l : List Oper} {s : St} (h : Gm C (.ops l l :: k) s Q) : Gm C (.code (.region id l.toArray false) :: k) s Q := .region (by simpa using h)

/-! ### Numbers -/

theorem wrap64 {n : Int} (h1 : -9223372036854775808 ≤ n) (h2 : n ≤ 9223372036854775807) : IntKind.wrap .i64 n = n := by
  rw [IntKind.wrap_i64]; omega

end
end W
end Go.Am
