/- What is left of an own slice from a place on (a queue). Conditions: none. -/
import Derived.Test.YthfnbjoecocfaaaOwn
set_option linter.unusedVariables false
set_option linter.unusedSimpArgs false
namespace Go.Am
open Go Go.Wk Go.RowKit Go.Mx
namespace X
section
variable {C : Cfg} {K : List (Nat × V)} {H : List Blk} {lo nid : Nat}
end
end X
end Go.Am

/-! ### An own slice in a box is frozen -/

namespace Go.Am
open Go Go.Wk Go.RowKit Go.Mx
namespace X
end X
end Go.Am

namespace Go.Am
open Go Go.Wk Go.RowKit Go.Mx
namespace X
end X
end Go.Am

/-! ### Elements are cut out of an own slice in place; what is left is frozen -/

namespace Go.Am
open Go Go.Wk Go.RowKit Go.Mx
namespace X
end X
end Go.Am

/-! ### A slice is appended to the nil slice; the greatest of three -/

namespace Go.Am
open Go Go.Wk Go.RowKit Go.Mx
namespace X
theorem hput_end : ∀ (H : List Blk) (B : Blk), hput H H.length B = H ++ [B]
  | [], B => rfl
  | x :: r, B => by simp only [List.length_cons, hput, hput_end r B, List.cons_append]
theorem appNilS {C : Cfg} {N : Nat} {all os : List Oper} {k : List It} {K : List (Nat × V)} {H H' : List Blk} {lo n : Nat} {rnd : Option Nat} {Q : Ex → St → Prop} {d : Nat} {ty : TypeId} {pos : String} {after : Array Edge} {g : Option (Nat × Bool)} {α : Type} {f : α → V} {xs r : List α} {t e es : Nat} {T Te : TI} {xo yo : Operand} {yv : V} {rd : List Nat} {m : Nat} (hL : H.length = m) (hm : app [] xs = some r) (hs : ∀ a, sizeOK Te (f a) = true) (hw : wants all K g = some true) (hT : C.ty t = some T) (hk : T.kd = .slice e es) (hTe : C.ty e = some Te) (hes : Te.size = es) (hby : Nat.ble Te.bytes 4096 = true) (hx : kev K xo = some .nil) (hy : kev K yo = some yv) (hr : rowsOf H yv = some (xs.map f, rd)) (hd : Nat.blt d n = true) (hH' : H ++ [obl es f r] = H')
    (h : GS C N (.ops all os :: k) ⟨(d, ovl m r) :: K, H', lo, rnd, n⟩ Q) : GS C N (.ops all (⟨some d, .call ⟨.builtin .append, #[xo, yo], #[t, t]⟩, ty, pos, after, g⟩ :: os) :: k) ⟨K, H, lo, rnd, n⟩ Q := by
  subst hH' hL
  cases xs with
  | nil =>
    obtain ⟨_, rfl⟩ := app_of hm
    have he : opEff C K H lo H.length (.call ⟨.builtin .append, #[xo, yo], #[t, t]⟩) = some ⟨.nil, [], rd⟩ := by
      have ht : Nat.beq t t = true := Nat.beq_refl t
      simp [opEff, effBuiltin, kevs, hx, hy, builtinA, biAppend, ht, sliceElem, hT, hk, hTe, appendA, hr, newOK, V.nil]
    exact opR hw he hd (GS.pad h)
  | cons a xs =>
    refine opW hw (appNil hm hs hT hk hTe hes hby hx hy hr) ?_ hd ?_ (H' := H ++ [.rows es (r.map f)])
    · simp only [puts, hput_end]
    · have hne : r ≠ [] := app_ne hm
      have e1 : ovl H.length r = .osl H.length 0 r.length := ovl_ne hne
      have e2 : obl es f r = .rows es (r.map f) := obl_ne hne
      rw [e1, e2] at h
      exact h
end X
/-! What is not looked at of a result is forgotten. -/
end Go.Am
