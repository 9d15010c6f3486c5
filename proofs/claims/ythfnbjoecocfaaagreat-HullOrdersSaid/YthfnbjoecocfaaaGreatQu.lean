/- What is left of an own slice from a place on (a queue). Conditions: none. -/
import Derived.Test.YthfnbjoecocfaaaGreatOwn
set_option linter.unusedVariables false
set_option linter.unusedSimpArgs false
namespace Go.Am
open Go Go.Wk Go.RowKit Go.Mx
/-- What is left of an own slice from a place on. -/
abbrev oqv {α : Type} (id : Nat) (l : List α) (a : Int) : V := .osl id a.toNat (l.drop a.toNat).length
namespace X
section
variable {C : Cfg} {K : List (Nat × V)} {H : List Blk} {lo nid : Nat}
theorem lenQ {α : Type} {l : List α} {a : Int} {xo : Operand} {t id : Nat} {T : TI} {e es : Nat} (hT : C.ty t = some T) (hk : T.kd = .slice e es) (hx : kev K xo = some (oqv id l a)) : opEff C K H lo nid (.call ⟨.builtin .len, #[xo], #[t]⟩) = some ⟨.i ((l.drop a.toNat).length : Nat), [], []⟩ := by
  simp [opEff, effBuiltin, kevs, hx, builtinA, biLen, hT, hk, Am.lenS]
theorem ix_drop {α : Type} {l : List α} {a m : Int} {y : α} (hm : ix (l.drop a.toNat) m = some y) : ix l ((a.toNat : Int) + m) = some y := by
  obtain ⟨h0, h1, h2⟩ := ix_of hm
  unfold ix
  rw [if_pos (by omega)]
  rw [List.getElem?_drop] at h2
  rw [← h2]; congr 1; omega
theorem indexQ {α : Type} {f : α → V} {l : List α} {y : α} {a : Int} {t id : Nat} {xo io : Operand} {T : TI} {e es : Nat} {m : Int} {ik : IntKind} (hm : ix (l.drop a.toNat) m = some y) (hT : C.ty t = some T) (hk : T.kd = .slice e es) (hx : kev K xo = some (oqv id l a)) (hi : kev K io = some (.lit (.int ik m))) (hH : hget H id = .rows es (l.map f)) : opEff C K H lo nid (.indexAddr t xo io) = some ⟨.ptr id ((a.toNat : Int) + m).toNat 0, [], [id]⟩ := by
  obtain ⟨h0, h1, h2⟩ := ix_of hm
  have e5 : ((a.toNat : Int) + m).toNat = a.toNat + m.toNat := by omega
  have h3 : a.toNat + m.toNat < l.length := by rw [List.length_drop] at h1; omega
  have h4 : m < ((l.length - a.toNat : Nat) : Int) := by rw [List.length_drop] at h1; exact h1
  rw [e5]
  simp [opEff, effIndexAddr, hT, hx, hi, indexA, hk, h0, h4, hH]
theorem sliceQ {α : Type} {f : α → V} {l : List α} {a b x : Int} {t id : Nat} {xo lo1 : Operand} {T Te : TI} {e es : Nat} (hm : qsl l a x = some b) (hT : C.ty t = some T) (hk : T.kd = .slice e es) (hTe : C.ty e = some Te) (hes : Te.size = es) (hx : kev K xo = some (oqv id l a)) (hH : hget H id = .rows es (l.map f)) (h1 : boundA K (some lo1) 0 = some x) : opEff C K H lo nid (.slice t xo (some lo1) none none) = some ⟨oqv id l b, [], [id]⟩ := by
  unfold qsl at hm
  split at hm
  · rename_i hc
    cases hm
    obtain ⟨q0, q1⟩ := hc
    simp only [opEff, effSlice, sliceElem, hT, hk, hTe, hx]
    rw [hes]
    unfold effSliceB
    simp only [Am.lenS, h1, boundA_none, Option.isSome_none, Bool.false_and, Bool.false_eq_true, if_false, sliceA, hH]
    rw [if_pos ⟨q0, by rw [List.length_drop]; omega, by rw [List.length_map, List.length_drop]; omega, by simp⟩]
    have e1 : ((a.toNat : Int) + x).toNat = a.toNat + x.toNat := by omega
    have e2 : ((List.drop a.toNat l).length : Int).toNat - x.toNat = (List.drop ((a.toNat : Int) + x).toNat l).length := by
      rw [e1, List.length_drop, List.length_drop]; omega
    rw [e2, ← e1]
  · cases hm
theorem appQ {α : Type} {f : α → V} {l xs r : List α} {a : Int} {t e es id : Nat} {T Te : TI} {xo yo : Operand} {yv : V} {rd : List Nat} (hm : qapp l a xs = some r) (hs : ∀ a, sizeOK Te (f a) = true) (hT : C.ty t = some T) (hk : T.kd = .slice e es) (hTe : C.ty e = some Te) (hes : Te.size = es) (hby : Nat.ble Te.bytes 4096 = true) (hx : kev K xo = some (oqv id l a)) (hH : hget H id = .rows es (l.map f)) (hlo : Nat.ble lo id = true) (hy : kev K yo = some yv) (hr : rowsOf H yv = some (xs.map f, rd)) :
    opEff C K H lo nid (.call ⟨.builtin .append, #[xo, yo], #[t, t]⟩) = some ⟨.osl nid 0 r.length, [(id, .dead), (nid, .rows es (r.map f))], nid :: id :: rd⟩ := by
  unfold qapp at hm
  split at hm
  · rename_i hc
    cases hm
    subst hes
    have hlo' : ¬ id < lo := by have := Nat.le_of_ble_eq_true hlo; omega
    have hby' : Te.bytes ≤ 4096 := Nat.le_of_ble_eq_true hby
    have ht : Nat.beq t t = true := Nat.beq_refl t
    have he : Nat.beq Te.size Te.size = true := Nat.beq_refl _
    simp only [opEff, effBuiltin, kevs, hx, hy, builtinA, biAppend, ht, cond_true, sliceElem, hT, hk, hTe, appendA, hr, newOK_map hs, hlo', if_false, hH, he, appendTo, List.length_map, maxRows]
    rw [if_pos (by rw [List.length_drop]; omega), if_pos ⟨by rw [List.length_drop]; omega, hby'⟩]
    simp [List.map_drop]
  · cases hm
end
end X
end Go.Am

/-! ### An own slice in a box is frozen -/

namespace Go.Am
open Go Go.Wk Go.RowKit Go.Mx
namespace X
end X
end Go.Am

namespace Go.Am
open Go Go.Wk Go.RowKit Go.Mx
namespace X
end X
end Go.Am

/-! ### Elements are cut out of an own slice in place; what is left is frozen -/

namespace Go.Am
open Go Go.Wk Go.RowKit Go.Mx
namespace X
theorem kget_eq {K : List (Nat × V)} {d : Nat} {v1 v2 : V} (h : kget K d = some v1) (e : v1 = v2) : kget K d = some v2 := e ▸ h
end X
end Go.Am

/-! ### A slice is appended to the nil slice; the greatest of three -/

namespace Go.Am
open Go Go.Wk Go.RowKit Go.Mx
namespace X
theorem hput_end : ∀ (H : List Blk) (B : Blk), hput H H.length B = H ++ [B]
  | [], B => rfl
  | x :: r, B => by simp only [List.length_cons, hput, hput_end r B, List.cons_append]
theorem appNilS {C : Cfg} {N : Nat} {all os : List Oper} {k : List It} {K : List (Nat × V)} {H H' : List Blk} {lo n : Nat} {rnd : Option Nat} {Q : Ex → St → Prop} {d : Nat} {ty : TypeId} {pos : String} {after : Array Edge} {g : Option (Nat × Bool)} {α : Type} {f : α → V} {xs r : List α} {t e es : Nat} {T Te : TI} {xo yo : Operand} {yv : V} {rd : List Nat} {m : Nat} (hL : H.length = m) (hm : app [] xs = some r) (hs : ∀ a, sizeOK Te (f a) = true) (hw : wants all K g = some true) (hT : C.ty t = some T) (hk : T.kd = .slice e es) (hTe : C.ty e = some Te) (hes : Te.size = es) (hby : Nat.ble Te.bytes 4096 = true) (hx : kev K xo = some .nil) (hy : kev K yo = some yv) (hr : rowsOf H yv = some (xs.map f, rd)) (hd : Nat.blt d n = true) (hH' : H ++ [obl es f r] = H')
    (h : GS C N (.ops all os :: k) ⟨(d, ovl m r) :: K, H', lo, rnd, n⟩ Q) : GS C N (.ops all (⟨some d, .call ⟨.builtin .append, #[xo, yo], #[t, t]⟩, ty, pos, after, g⟩ :: os) :: k) ⟨K, H, lo, rnd, n⟩ Q := by
  subst hH' hL
  cases xs with
  | nil =>
    obtain ⟨_, rfl⟩ := app_of hm
    have he : opEff C K H lo H.length (.call ⟨.builtin .append, #[xo, yo], #[t, t]⟩) = some ⟨.nil, [], rd⟩ := by
      have ht : Nat.beq t t = true := Nat.beq_refl t
      simp [opEff, effBuiltin, kevs, hx, hy, builtinA, biAppend, ht, sliceElem, hT, hk, hTe, appendA, hr, newOK, V.nil]
    exact opR hw he hd (GS.pad h)
  | cons a xs =>
    refine opW hw (appNil hm hs hT hk hTe hes hby hx hy hr) ?_ hd ?_ (H' := H ++ [.rows es (r.map f)])
    · simp only [puts, hput_end]
    · have hne : r ≠ [] := app_ne hm
      have e1 : ovl H.length r = .osl H.length 0 r.length := ovl_ne hne
      have e2 : obl es f r = .rows es (r.map f) := obl_ne hne
      rw [e1, e2] at h
      exact h
end X
/-! What is not looked at of a result is forgotten. -/
end Go.Am
