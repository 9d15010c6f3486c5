/- What is left of an own slice from a place on (a queue). Conditions: none. -/
import Derived.Test.YtnkngglimidldaaGreatOwn
set_option linter.unusedVariables false
set_option linter.unusedSimpArgs false
namespace Go.Am
open Go Go.Wk Go.RowKit Go.Mx
abbrev oqv {α : Type} (id : Nat) (l : List α) (a : Int) : V := .osl id a.toNat (l.drop a.toNat).length
namespace X
section
variable {C : Cfg} {K : List (Nat × V)} {H : List Blk} {lo nid : Nat}
theorem lenQ {α : Type} {l : List α} {a : Int} {xo : Operand} {t id : Nat} {T : TI} {e es : Nat} (hT : C.ty t = some T) (hk : T.kd = .slice e es) (hx : kev K xo = some (oqv id l a)) : zi C K H lo nid (.call ⟨.builtin .len, #[xo], #[t]⟩) = some ⟨.i ((l.drop a.toNat).length : Nat), [], []⟩ := by
  simp [zi, jB, kevs, hx, jW, zA8, hT, hk, Am.lenS]
theorem oqv_put {α : Type} {id : Nat} {l : List α} {a i : Int} {x : α} : oqv id l a = oqv id (Mx.put l i x) a := by simp [Mx.put]
theorem zIM {α : Type} {l : List α} {a m : Int} {y : α} (hm : ix (l.drop a.toNat) m = some y) : ix l ((a.toNat : Int) + m) = some y := by
  obtain ⟨h0, h1, h2⟩ := zDI hm
  unfold ix
  rw [if_pos (by omega)]
  rw [List.getElem?_drop] at h2
  rw [← h2]; congr 1; omega
theorem indexQ {α : Type} {f : α → V} {l : List α} {y : α} {a : Int} {t id : Nat} {xo io : Operand} {T : TI} {e es : Nat} {m : Int} {ik : IntKind} (hm : ix (l.drop a.toNat) m = some y) (hT : C.ty t = some T) (hk : T.kd = .slice e es) (hx : kev K xo = some (oqv id l a)) (hi : kev K io = some (.lit (.int ik m))) (hH : hget H id = .rows es (l.map f)) : zi C K H lo nid (.indexAddr t xo io) = some ⟨.ptr id ((a.toNat : Int) + m).toNat 0, [], [id]⟩ := by
  obtain ⟨h0, h1, h2⟩ := zDI hm
  have e5 : ((a.toNat : Int) + m).toNat = a.toNat + m.toNat := by omega
  have h3 : a.toNat + m.toNat < l.length := by rw [List.length_drop] at h1; omega
  have h4 : m < ((l.length - a.toNat : Nat) : Int) := by rw [List.length_drop] at h1; exact h1
  rw [e5]
  simp [zi, JF, hT, hx, hi, zCj, hk, h0, h4, hH]
theorem sliceQ {α : Type} {f : α → V} {l : List α} {a b x : Int} {t id : Nat} {xo lo1 : Operand} {T Te : TI} {e es : Nat} (hm : qsl l a x = some b) (hT : C.ty t = some T) (hk : T.kd = .slice e es) (hTe : C.ty e = some Te) (hes : Te.size = es) (hx : kev K xo = some (oqv id l a)) (hH : hget H id = .rows es (l.map f)) (h1 : JI K (some lo1) 0 = some x) : zi C K H lo nid (.slice t xo (some lo1) none none) = some ⟨oqv id l b, [], [id]⟩ := by
  unfold qsl at hm
  split at hm
  · rename_i hc
    cases hm
    obtain ⟨q0, q1⟩ := hc
    simp only [zi, QY, ji, hT, hk, hTe, hx]
    rw [hes]
    unfold Q4
    simp only [Am.lenS, h1, zCt, Option.isSome_none, Bool.false_and, Bool.false_eq_true, if_false, zBq, hH]
    rw [if_pos ⟨q0, by rw [List.length_drop]; omega, by rw [List.length_map, List.length_drop]; omega, by simp⟩]
    have e1 : ((a.toNat : Int) + x).toNat = a.toNat + x.toNat := by omega
    have e2 : ((List.drop a.toNat l).length : Int).toNat - x.toNat = (List.drop ((a.toNat : Int) + x).toNat l).length := by
      rw [e1, List.length_drop, List.length_drop]; omega
    rw [e2, ← e1]
  · cases hm
theorem zIO {α : Type} {z : Bool} {f : α → V} {l : List α} {y : α} {a : Int} {t id : Nat} {xo io : Operand} {T : TI} {e es : Nat} {m : Int} {ik : IntKind} (hm : ix (l.drop a.toNat) m = some y) (hT : C.ty t = some T) (hk : T.kd = .slice e es) (hx : kev K xo = some (oqv id l a)) (hi : kev K io = some (.lit (.int ik m))) (hH : hget H id = oblz z es f l) : zi C K H lo nid (.indexAddr t xo io) = some ⟨.ptr id ((a.toNat : Int) + m).toNat 0, [], [id]⟩ :=
  indexQ (f := f) hm hT hk hx hi (hH.trans (zBN (by rintro rfl; simp [ix] at hm)))
theorem sliceQN {α : Type} {z : Bool} {f : α → V} {l : List α} {b x : Int} {t id : Nat} {xo lo1 : Operand} {T Te : TI} {e es : Nat} (hm : qslN l x = some b) (hT : C.ty t = some T) (hk : T.kd = .slice e es) (hTe : C.ty e = some Te) (hes : Te.size = es) (hx : kev K xo = some (ovlz z id l)) (hH : hget H id = oblz z es f l) (h1 : JI K (some lo1) 0 = some x) : zi C K H lo nid (.slice t xo (some lo1) none none) = some ⟨oqv id l b, [], [id]⟩ := by
  unfold qslN at hm
  split at hm
  · rename_i hc
    have hne : l ≠ [] := by rintro rfl; simp at hc
    have e0 : ovlz z id l = oqv id l 0 := by rw [zEq hne]; simp
    refine sliceQ (f := f) (a := 0) ?_ hT hk hTe hes (hx.trans (by rw [e0])) (hH.trans (zBN hne)) h1
    unfold qsl
    rw [if_pos ⟨hc.2.1, by have := hc.2.2; simp; omega⟩]
    rw [← hm]; simp
  · cases hm
end
end X
end Go.Am
namespace Go.Am
open Go Go.Wk Go.RowKit Go.Mx
namespace X
end X
end Go.Am
namespace Go.Am
open Go Go.Wk Go.RowKit Go.Mx
namespace X
end X
end Go.Am
namespace Go.Am
open Go Go.Wk Go.RowKit Go.Mx
namespace X
theorem zLK {C : Cfg} {k : List It} {K : List (Nat × V)} {H : List Blk} {lo n id es : Nat} {rnd : Option Nat} {Q : Ex → St → Prop} {α : Type} {f : α → V} {r s : List α} (d : Nat) (hd : kget K d = some (.osl id 0 (List.length r))) (hg : hget H id = .rows es ((r ++ s).map f)) (hlo : Nat.ble lo id = true) (hsh : ∀ x, shut 9 (f x) = true)
    (h : GS C 0 k ⟨(d, .sl (r.map f)) :: K, hput H id .dead, lo, rnd, n⟩ Q) : GS C 0 k ⟨K, H, lo, rnd, n⟩ Q := by
  have ht : ((r ++ s).map f).take r.length = r.map f := by rw [List.map_append, List.take_left' (by simp)]
  have h2 := GS.freeze (C := C) (k := k) (K := K) (d := d) (len := r.length) (rnd := rnd) (n := n) (Q := Q) hg (Nat.le_of_ble_eq_true hlo) (by simp) (by rw [ht]; intro v hv; obtain ⟨x, _, rfl⟩ := List.mem_map.1 hv; exact hsh x) (by rw [ht]; exact h)
  refine GS.drop ((d, .osl id 0 r.length) :: K) (fun t v hv => ?_) h2
  simp only [kget] at hv
  by_cases ed : d = t
  · subst ed
    simp only [Nat.beq_refl, cond_true, Option.some.injEq] at hv
    subst hv
    exact hd
  · rw [zBY ed] at hv
    exact hv
end X
end Go.Am
namespace Go.Am
open Go Go.Wk Go.RowKit Go.Mx
namespace X
theorem zBj : ∀ (H : List Blk) (B : Blk), hput H H.length B = H ++ [B]
  | [], B => rfl
  | x :: r, B => by simp only [List.length_cons, hput, zBj r B, List.cons_append]
theorem zEA {C : Cfg} {K : List (Nat × V)} {H : List Blk} {lo nid : Nat} {α : Type} {f : α → V} {n m : Int} {y : α} {l : List α} {t e es : Nat} {T Te : TI} {xo yo : Operand} (hm : mkS n m y = some l) (hT : C.ty t = some T) (hk : T.kd = .slice e es) (hTe : C.ty e = some Te) (hes : Te.size = es) (hz : Te.zero = f y) (hby : Nat.ble Te.bytes 4096 = true) (hx : kev K xo = some (.i n)) (hy : kev K yo = some (.i m)) :
    zi C K H lo nid (.makeSlice t xo yo) = some ⟨.osl nid 0 l.length, [(nid, .rows es (l.map f))], [nid]⟩ := by
  unfold mkS at hm
  split at hm
  · rename_i h
    cases hm
    have hby' : Te.bytes ≤ 4096 := Nat.le_of_ble_eq_true hby
    simp only [zi, qI, ji, hT, hk, hTe, hx, hy]
    rw [if_pos ⟨h.1, h.2.1, h.2.2, hby'⟩, hz, hes]
    simp
  · cases hm
end X
mutual
def zHW : V → V
  | .sl _ => .uns
  | .agg l => .agg (zI4 l)
  | .tup l => .tup (zI4 l)
  | v => v
def zI4 : List V → List V
  | [] => []
  | v :: r => zHW v :: zI4 r
end
mutual
theorem zGL {m : Mem} {I : Ij} : ∀ (v : V) {u : Value}, Rep m v I u → Rep m (zHW v) I u
  | .sl _, u, h => by unfold Rep at h; obtain ⟨ad, cap, _, rfl, _⟩ := h; unfold zHW Rep; exact ⟨_, _, _, rfl⟩
  | .agg l, u, h => by unfold Rep at h; obtain ⟨us, rfl, h1, h2⟩ := h; unfold zHW Rep; exact ⟨us, rfl, h1, zCb l h2⟩
  | .tup l, u, h => by unfold Rep at h; obtain ⟨us, rfl, h2⟩ := h; unfold zHW Rep; exact ⟨us, rfl, zCb l h2⟩
  | .lit _, u, h => h
  | .ptr _ _ _, u, h => h
  | .fptr _ _ _, u, h => h
  | .osl _ _ _, u, h => h
  | .fn _ _, u, h => h
  | .yld _, u, h => h
  | .map _, u, h => h
  | .fmap _ _, u, h => h
  | .uns, u, h => h
theorem zCb {m : Mem} {I : Ij} : ∀ (l : List V) {us : List Value}, RepL m l I us → RepL m (zI4 l) I us
  | [], us, h => h
  | v :: r, us, h => by
    unfold RepL at h
    obtain ⟨u, us', rfl, h1, h2⟩ := h
    unfold zI4 RepL
    exact ⟨u, us', rfl, zGL v h1, zCb r h2⟩
end
theorem Ct.mask {P : Program} {f : Nat} {args : List V} {v : V} (h : Ct P f args v) : Ct P f args (zHW v) := ⟨fun m w us hm hr => (h.1 m w us hm hr).mono fun e w' ⟨u, m', h1, h2, h3, h4, h5, h6⟩ => ⟨u, m', h1, h2, h3, h4, h5, zGL v h6⟩, h.2⟩
end Go.Am
