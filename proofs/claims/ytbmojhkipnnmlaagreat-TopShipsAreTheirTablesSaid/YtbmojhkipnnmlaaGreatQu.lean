/- What is left of an own slice from a place on (a queue). Conditions: none. -/
import Derived.Test.YtbmojhkipnnmlaaGreatOwn
set_option linter.unusedVariables false
set_option linter.unusedSimpArgs false
namespace Go.Am
open Go Go.Wk Go.RowKit Go.Mx
abbrev oqv {α : Type} (id : Nat) (l : List α) (a : Int) : V := .osl id a.toNat (l.drop a.toNat).length
namespace X
section
variable {C : Cfg} {K : List (Nat × V)} {H : List Blk} {lo nid : Nat}
theorem lenQ {α : Type} {l : List α} {a : Int} {xo : Operand} {t id : Nat} {T : TI} {e es : Nat} (hT : C.ty t = some T) (hk : T.kd = .slice e es) (hx : kev K xo = some (oqv id l a)) : opEff C K H lo nid (.call ⟨.builtin .len, #[xo], #[t]⟩) = some ⟨.i ((l.drop a.toNat).length : Nat), [], []⟩ := by
  simp [opEff, effBuiltin, kevs, hx, builtinA, biLen, hT, hk, Am.lenS]
theorem oqv_put {α : Type} {id : Nat} {l : List α} {a i : Int} {x : α} : oqv id l a = oqv id (Mx.put l i x) a := by simp [Mx.put]
theorem ix_drop {α : Type} {l : List α} {a m : Int} {y : α} (hm : ix (l.drop a.toNat) m = some y) : ix l ((a.toNat : Int) + m) = some y := by
  obtain ⟨h0, h1, h2⟩ := ix_of hm
  unfold ix
  rw [if_pos (by omega)]
  rw [List.getElem?_drop] at h2
  rw [← h2]; congr 1; omega
theorem indexQ {α : Type} {f : α → V} {l : List α} {y : α} {a : Int} {t id : Nat} {xo io : Operand} {T : TI} {e es : Nat} {m : Int} {ik : IntKind} (hm : ix (l.drop a.toNat) m = some y) (hT : C.ty t = some T) (hk : T.kd = .slice e es) (hx : kev K xo = some (oqv id l a)) (hi : kev K io = some (.lit (.int ik m))) (hH : hget H id = .rows es (l.map f)) : opEff C K H lo nid (.indexAddr t xo io) = some ⟨.ptr id ((a.toNat : Int) + m).toNat 0, [], [id]⟩ := by
  obtain ⟨h0, h1, h2⟩ := ix_of hm
  have e5 : ((a.toNat : Int) + m).toNat = a.toNat + m.toNat := by omega
  have h3 : a.toNat + m.toNat < l.length := by rw [List.length_drop] at h1; omega
  have h4 : m < ((l.length - a.toNat : Nat) : Int) := by rw [List.length_drop] at h1; exact h1
  rw [e5]
  simp [opEff, effIndexAddr, hT, hx, hi, indexA, hk, h0, h4, hH]
theorem sliceQ {α : Type} {f : α → V} {l : List α} {a b x : Int} {t id : Nat} {xo lo1 : Operand} {T Te : TI} {e es : Nat} (hm : qsl l a x = some b) (hT : C.ty t = some T) (hk : T.kd = .slice e es) (hTe : C.ty e = some Te) (hes : Te.size = es) (hx : kev K xo = some (oqv id l a)) (hH : hget H id = .rows es (l.map f)) (h1 : boundA K (some lo1) 0 = some x) : opEff C K H lo nid (.slice t xo (some lo1) none none) = some ⟨oqv id l b, [], [id]⟩ := by
  unfold qsl at hm
  split at hm
  · rename_i hc
    cases hm
    obtain ⟨q0, q1⟩ := hc
    simp only [opEff, effSlice, sliceElem, hT, hk, hTe, hx]
    rw [hes]
    unfold effSliceB
    simp only [Am.lenS, h1, boundA_none, Option.isSome_none, Bool.false_and, Bool.false_eq_true, if_false, sliceA, hH]
    rw [if_pos ⟨q0, by rw [List.length_drop]; omega, by rw [List.length_map, List.length_drop]; omega, by simp⟩]
    have e1 : ((a.toNat : Int) + x).toNat = a.toNat + x.toNat := by omega
    have e2 : ((List.drop a.toNat l).length : Int).toNat - x.toNat = (List.drop ((a.toNat : Int) + x).toNat l).length := by
      rw [e1, List.length_drop, List.length_drop]; omega
    rw [e2, ← e1]
  · cases hm
end
end X
end Go.Am
namespace Go.Am
open Go Go.Wk Go.RowKit Go.Mx
namespace X
end X
end Go.Am
namespace Go.Am
open Go Go.Wk Go.RowKit Go.Mx
namespace X
end X
end Go.Am
namespace Go.Am
open Go Go.Wk Go.RowKit Go.Mx
namespace X
theorem freezePre {C : Cfg} {k : List It} {K : List (Nat × V)} {H : List Blk} {lo n id es : Nat} {rnd : Option Nat} {Q : Ex → St → Prop} {α : Type} {f : α → V} {r s : List α} (d : Nat) (hd : kget K d = some (.osl id 0 (List.length r))) (hg : hget H id = .rows es ((r ++ s).map f)) (hlo : Nat.ble lo id = true) (hsh : ∀ x, shut 9 (f x) = true)
    (h : GS C 0 k ⟨(d, .sl (r.map f)) :: K, hput H id .dead, lo, rnd, n⟩ Q) : GS C 0 k ⟨K, H, lo, rnd, n⟩ Q := by
  have ht : ((r ++ s).map f).take r.length = r.map f := by rw [List.map_append, List.take_left' (by simp)]
  have h2 := GS.freeze (C := C) (k := k) (K := K) (d := d) (len := r.length) (rnd := rnd) (n := n) (Q := Q) hg (Nat.le_of_ble_eq_true hlo) (by simp) (by rw [ht]; intro v hv; obtain ⟨x, _, rfl⟩ := List.mem_map.1 hv; exact hsh x) (by rw [ht]; exact h)
  refine GS.drop ((d, .osl id 0 r.length) :: K) (fun t v hv => ?_) h2
  simp only [kget] at hv
  by_cases ed : d = t
  · subst ed
    simp only [Nat.beq_refl, cond_true, Option.some.injEq] at hv
    subst hv
    exact hd
  · rw [beq_ne ed] at hv
    exact hv
end X
end Go.Am
namespace Go.Am
open Go Go.Wk Go.RowKit Go.Mx
namespace X
theorem hput_end : ∀ (H : List Blk) (B : Blk), hput H H.length B = H ++ [B]
  | [], B => rfl
  | x :: r, B => by simp only [List.length_cons, hput, hput_end r B, List.cons_append]
end X
mutual
def maskV : V → V
  | .sl _ => .uns
  | .agg l => .agg (maskL l)
  | .tup l => .tup (maskL l)
  | v => v
def maskL : List V → List V
  | [] => []
  | v :: r => maskV v :: maskL r
end
mutual
theorem mask_sound {m : Mem} {I : Ij} : ∀ (v : V) {u : Value}, Rep m v I u → Rep m (maskV v) I u
  | .sl _, u, h => by unfold Rep at h; obtain ⟨ad, cap, _, rfl, _⟩ := h; unfold maskV Rep; exact ⟨_, _, _, rfl⟩
  | .agg l, u, h => by unfold Rep at h; obtain ⟨us, rfl, h1, h2⟩ := h; unfold maskV Rep; exact ⟨us, rfl, h1, maskL_sound l h2⟩
  | .tup l, u, h => by unfold Rep at h; obtain ⟨us, rfl, h2⟩ := h; unfold maskV Rep; exact ⟨us, rfl, maskL_sound l h2⟩
  | .lit _, u, h => h
  | .ptr _ _ _, u, h => h
  | .fptr _ _ _, u, h => h
  | .osl _ _ _, u, h => h
  | .fn _ _, u, h => h
  | .yld _, u, h => h
  | .map _, u, h => h
  | .fmap _ _, u, h => h
  | .uns, u, h => h
theorem maskL_sound {m : Mem} {I : Ij} : ∀ (l : List V) {us : List Value}, RepL m l I us → RepL m (maskL l) I us
  | [], us, h => h
  | v :: r, us, h => by
    unfold RepL at h
    obtain ⟨u, us', rfl, h1, h2⟩ := h
    unfold maskL RepL
    exact ⟨u, us', rfl, mask_sound v h1, maskL_sound r h2⟩
end
theorem Ct.mask {P : Program} {f : Nat} {args : List V} {v : V} (h : Ct P f args v) : Ct P f args (maskV v) := ⟨fun m w us hm hr => (h.1 m w us hm hr).mono fun e w' ⟨u, m', h1, h2, h3, h4, h5, h6⟩ => ⟨u, m', h1, h2, h3, h4, h5, mask_sound v h6⟩, h.2⟩
end Go.Am
