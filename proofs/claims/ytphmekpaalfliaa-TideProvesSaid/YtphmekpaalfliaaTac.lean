/- A tactic that walks. Conditions: none. -/
import Derived.Laws.Closers25
import Derived.Test.YtphmekpaalfliaaWlk
set_option linter.unusedVariables false
set_option linter.unusedSimpArgs false
namespace Go.Am
open Go Go.Wk Go.RowKit

namespace W
section
variable {C : Cfg} {all os : List Oper} {o : Oper} {k : List It} {K : List (Nat × V)} {H H' : List Blk} {lo n nid : Nat} {rnd : Option Nat} {Q : Ex → St → Prop} {d : Nat} {p : Op} {ty : TypeId} {pos : String} {after : Array Edge} {v v' : V} {x y : Bool} {wr : List (Nat × Blk)} {rd : List Nat}

theorem opR (he : opEff C K H lo H.length p = some ⟨v, [], rd⟩) (hd : Nat.blt d n = true) (h : Gm C (.ops all os :: k) ⟨(d, v) :: K, H, lo, rnd, n⟩ Q) : Gm C (.ops all (⟨some d, p, ty, pos, after, none⟩ :: os) :: k) ⟨K, H, lo, rnd, n⟩ Q := op he hd h
theorem opW (he : opEff C K H lo H.length p = some ⟨v, wr, rd⟩) (hH : puts H wr = H') (hd : Nat.blt d n = true) (h : Gm C (.ops all os :: k) ⟨(d, v) :: K, H', lo, rnd, n⟩ Q) : Gm C (.ops all (⟨some d, p, ty, pos, after, none⟩ :: os) :: k) ⟨K, H, lo, rnd, n⟩ Q := op he hd (by subst hH; exact h)
theorem op0W (he : opEff C K H lo H.length p = some ⟨v, wr, rd⟩) (hH : puts H wr = H') (h : Gm C (.ops all os :: k) ⟨K, H', lo, rnd, n⟩ Q) : Gm C (.ops all (⟨none, p, ty, pos, after, none⟩ :: os) :: k) ⟨K, H, lo, rnd, n⟩ Q := op0 he (by subst hH; exact h)
theorem addE {t t2 : Nat} {a b : Int} {xo yo : Operand} (hx : kev K xo = some (.i a)) (hy : kev K yo = some (.i b)) (h : -9223372036854775808 ≤ a + b ∧ a + b ≤ 9223372036854775807) : opEff C K H lo nid (.binOp .add t xo yo t2) = some ⟨.i (a + b), [], []⟩ := by
  simp [opEff, effBin, hx, hy, binA, kindEq, intA, pureO, wrap64 h.1 h.2]
theorem subE {t t2 : Nat} {a b : Int} {xo yo : Operand} (hx : kev K xo = some (.i a)) (hy : kev K yo = some (.i b)) (h : -9223372036854775808 ≤ a - b ∧ a - b ≤ 9223372036854775807) : opEff C K H lo nid (.binOp .sub t xo yo t2) = some ⟨.i (a - b), [], []⟩ := by
  simp [opEff, effBin, hx, hy, binA, kindEq, intA, pureO, wrap64 h.1 h.2]
theorem mulE {t t2 : Nat} {a b : Int} {xo yo : Operand} (hx : kev K xo = some (.i a)) (hy : kev K yo = some (.i b)) (h : -9223372036854775808 ≤ a * b ∧ a * b ≤ 9223372036854775807) : opEff C K H lo nid (.binOp .mul t xo yo t2) = some ⟨.i (a * b), [], []⟩ := by
  simp [opEff, effBin, hx, hy, binA, kindEq, intA, pureO, wrap64 h.1 h.2]

theorem quo {t t2 : Nat} {a b : Int} {xo yo : Operand} (hx : kev K xo = some (.i a)) (hy : kev K yo = some (.i b)) (h0 : -9223372036854775808 ≤ a) (h1 : a ≤ 9223372036854775807) (hb : 1 ≤ b) : opEff C K H lo nid (.binOp .quo t xo yo t2) = some ⟨.i (a.tdiv b), [], []⟩ := by
  have hb0 : b ≠ 0 := by omega
  have := wrap_i64_tdiv a b h0 h1 hb
  simp [opEff, effBin, hx, hy, binA, kindEq, intA, hb0, pureO, this]
theorem rem {t t2 : Nat} {a b : Int} {xo yo : Operand} (hx : kev K xo = some (.i a)) (hy : kev K yo = some (.i b)) (hb : b ≠ 0) : opEff C K H lo nid (.binOp .rem t xo yo t2) = some ⟨.i (a.tmod b), [], []⟩ := by
  simp [opEff, effBin, hx, hy, binA, kindEq, intA, hb, pureO]

/-! ### Loops -/

def Sub (K' K : List (Nat × V)) : Prop := ∀ t v, kget K' t = some v → kget K t = some v
theorem sub_nil : Sub [] K := fun t v h => by cases h
theorem sub_cons {K' : List (Nat × V)} {t : Nat} (h : kget K t = some v) (h2 : Sub K' K) : Sub ((t, v) :: K') K := fun t' u h' => by
  simp only [kget] at h'
  cases hb : Nat.beq t t' with
  | true =>
    rw [hb] at h'
    simp only [cond_true, Option.some.injEq] at h'
    rw [← Nat.eq_of_beq_eq_true hb, ← h']; exact h
  | false => rw [hb] at h'; exact h2 t' u h'

def LowH (N : Nat) : List Blk → Prop
  | [] => True
  | B :: r => B ≠ .free ∧ (B.live = true → ∃ n, renB N [] n B = some B) ∧ LowH N r
theorem LowH.get {N : Nat} : ∀ {H : List Blk} {id : Nat} {B : Blk}, LowH N H → Am.get H id = some B → B ≠ .free ∧ (B.live = true → ∃ n, renB N [] n B = some B)
  | [], _, _, _, h => by cases h
  | A :: r, 0, B, h, hg => by simp only [Am.get, Option.some.injEq] at hg; subst hg; exact ⟨h.1, h.2.1⟩
  | A :: r, id + 1, B, h, hg => LowH.get h.2.2 (id := id) hg

/-- A call that is known, over what the call's own blocks hold; it hands back a plain value. -/
theorem callF {f : Nat} {args args' : List V} {m : Nat} (hc : callee K p = some (.fn f args)) (ha : CloArgs H true args args') (hX : C.X f args' v) (hf : flat m v = true) (hd : Nat.blt d n = true) (h : Gm C (.ops all os :: k) ⟨(d, v) :: K, H, lo, rnd, n⟩ Q) : Gm C (.ops all (⟨some d, p, ty, pos, after, none⟩ :: os) :: k) ⟨K, H, lo, rnd, n⟩ Q :=
  .ext (fl := true) rfl hc ha hX (fun _ => ⟨m, hf⟩) (front rfl hd h rfl)

end
end W
end Go.Am
