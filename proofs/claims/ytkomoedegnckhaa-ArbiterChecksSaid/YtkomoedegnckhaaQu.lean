/- What is left of an own slice from a place on (a queue). Conditions: none. -/
import Derived.Test.YtkomoedegnckhaaOwn
set_option linter.unusedVariables false
set_option linter.unusedSimpArgs false
namespace Go.Am
open Go Go.Wk Go.RowKit Go.Mx
abbrev oqv {α : Type} (id : Nat) (l : List α) (a : Int) : V := .osl id a.toNat (l.drop a.toNat).length
namespace X
section
variable {C : Cfg} {K : List (Nat × V)} {H : List Blk} {lo nid : Nat}
theorem sliceQ {α : Type} {f : α → V} {l : List α} {a b x : Int} {t id : Nat} {xo lo1 : Operand} {T Te : TI} {e es : Nat} (hm : qsl l a x = some b) (hT : C.ty t = some T) (hk : T.kd = .slice e es) (hTe : C.ty e = some Te) (hes : Te.size = es) (hx : kev K xo = some (oqv id l a)) (hH : hget H id = .rows es (l.map f)) (h1 : boundA K (some lo1) 0 = some x) : opEff C K H lo nid (.slice t xo (some lo1) none none) = some ⟨oqv id l b, [], [id]⟩ := by
  unfold qsl at hm
  split at hm
  · rename_i hc
    cases hm
    obtain ⟨q0, q1⟩ := hc
    simp only [opEff, effSlice, sliceElem, hT, hk, hTe, hx]
    rw [hes]
    unfold effSliceB
    simp only [Am.lenS, h1, boundA_none, Option.isSome_none, Bool.false_and, Bool.false_eq_true, if_false, sliceA, hH]
    rw [if_pos ⟨q0, by rw [List.length_drop]; omega, by rw [List.length_map, List.length_drop]; omega, by simp⟩]
    have e1 : ((a.toNat : Int) + x).toNat = a.toNat + x.toNat := by omega
    have e2 : ((List.drop a.toNat l).length : Int).toNat - x.toNat = (List.drop ((a.toNat : Int) + x).toNat l).length := by
      rw [e1, List.length_drop, List.length_drop]; omega
    rw [e2, ← e1]
  · cases hm
end
end X
end Go.Am
namespace Go.Am
open Go Go.Wk Go.RowKit Go.Mx
namespace X
end X
end Go.Am
namespace Go.Am
open Go Go.Wk Go.RowKit Go.Mx
namespace X
end X
end Go.Am
namespace Go.Am
open Go Go.Wk Go.RowKit Go.Mx
namespace X
theorem cutO_of {α : Type} {l r : List α} {k b : Int} (h : cutO l k b = some r) : 0 ≤ k ∧ k < b ∧ b ≤ l.length ∧ r = l.take k.toNat ++ l.drop b.toNat := by
  unfold cutO at h
  split at h
  · rename_i hc; cases h; exact ⟨hc.1, hc.2.1, hc.2.2, rfl⟩
  · cases h
theorem appCut {α : Type} {f : α → V} {l r r1 : List α} {k b c : Int} {t e es id : Nat} {T Te : TI} {xo yo : Operand} {C : Cfg} {K : List (Nat × V)} {H : List Blk} {lo nid : Nat} (hm : cutO l k b = some r) (h1 : sub l 0 k = some r1) (h2 : qsl l 0 b = some c) (hs : ∀ a, sizeOK Te (f a) = true) (hT : C.ty t = some T) (hk : T.kd = .slice e es) (hTe : C.ty e = some Te) (hes : Te.size = es) (hx : kev K xo = some (ovs false id l r1 0)) (hy : kev K yo = some (oqv id l c)) (hH : hget H id = .rows es (l.map f)) (hlo : Nat.ble lo id = true) :
    opEff C K H lo nid (.call ⟨.builtin .append, #[xo, yo], #[t, t]⟩) = some ⟨.osl id 0 r.length, [(id, .rows es ((r ++ l.drop r.length).map f))], [id, id]⟩ := by
  obtain ⟨q0, q1, q2, rfl⟩ := cutO_of hm
  have hl1 := sub_len h1
  unfold qsl at h2
  split at h2
  · cases h2
    have hx' : kev K xo = some (.osl id 0 k.toNat) := by rw [hx]; simp [ovs, hl1]
    have hy' : kev K yo = some (.osl id b.toNat (l.length - b.toNat)) := by rw [hy]; simp
    have h := appI (C := C) (K := K) (H := H) (lo := lo) (nid := nid) hT hk hTe hes hx' hy' hH (by simp) (fun v hv => by obtain ⟨a, _, rfl⟩ := List.mem_map.1 hv; exact hs a) hlo (by omega) (by omega)
    rw [h]
    have e1 : (l.take k.toNat ++ l.drop b.toNat).length = k.toNat + (l.length - b.toNat) := by rw [List.length_append, List.length_take, List.length_drop]; omega
    rw [e1]
    simp [List.map_take, List.map_drop]
  · cases h2
theorem kget_eq {K : List (Nat × V)} {d : Nat} {v1 v2 : V} (h : kget K d = some v1) (e : v1 = v2) : kget K d = some v2 := e ▸ h
theorem freezePre {C : Cfg} {k : List It} {K : List (Nat × V)} {H : List Blk} {lo n id es : Nat} {rnd : Option Nat} {Q : Ex → St → Prop} {α : Type} {f : α → V} {r s : List α} (d : Nat) (hd : kget K d = some (.osl id 0 (List.length r))) (hg : hget H id = .rows es ((r ++ s).map f)) (hlo : Nat.ble lo id = true) (hsh : ∀ x, shut 9 (f x) = true)
    (h : GS C 0 k ⟨(d, .sl (r.map f)) :: K, hput H id .dead, lo, rnd, n⟩ Q) : GS C 0 k ⟨K, H, lo, rnd, n⟩ Q := by
  have ht : ((r ++ s).map f).take r.length = r.map f := by rw [List.map_append, List.take_left' (by simp)]
  have h2 := GS.freeze (C := C) (k := k) (K := K) (d := d) (len := r.length) (rnd := rnd) (n := n) (Q := Q) hg (Nat.le_of_ble_eq_true hlo) (by simp) (by rw [ht]; intro v hv; obtain ⟨x, _, rfl⟩ := List.mem_map.1 hv; exact hsh x) (by rw [ht]; exact h)
  refine GS.drop ((d, .osl id 0 r.length) :: K) (fun t v hv => ?_) h2
  simp only [kget] at hv
  by_cases ed : d = t
  · subst ed
    simp only [Nat.beq_refl, cond_true, Option.some.injEq] at hv
    subst hv
    exact hd
  · rw [beq_ne ed] at hv
    exact hv
end X
end Go.Am
namespace Go.Am
open Go Go.Wk Go.RowKit Go.Mx
namespace X
theorem hput_end : ∀ (H : List Blk) (B : Blk), hput H H.length B = H ++ [B]
  | [], B => rfl
  | x :: r, B => by simp only [List.length_cons, hput, hput_end r B, List.cons_append]
end X
end Go.Am
