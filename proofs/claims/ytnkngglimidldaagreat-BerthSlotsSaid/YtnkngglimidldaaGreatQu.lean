/- What is left of an own slice from a place on (a queue). Conditions: none. -/
import Derived.Test.YtnkngglimidldaaGreatOwn
set_option linter.unusedVariables false
set_option linter.unusedSimpArgs false
namespace Go.Am
open Go Go.Wk Go.RowKit Go.Mx
namespace X
section
variable {C : Cfg} {K : List (Nat × V)} {H : List Blk} {lo nid : Nat}
end
end X
end Go.Am
namespace Go.Am
open Go Go.Wk Go.RowKit Go.Mx
namespace X
end X
end Go.Am
namespace Go.Am
open Go Go.Wk Go.RowKit Go.Mx
namespace X
end X
end Go.Am
namespace Go.Am
open Go Go.Wk Go.RowKit Go.Mx
namespace X
end X
end Go.Am
namespace Go.Am
open Go Go.Wk Go.RowKit Go.Mx
namespace X
theorem hput_end : ∀ (H : List Blk) (B : Blk), hput H H.length B = H ++ [B]
  | [], B => rfl
  | x :: r, B => by simp only [List.length_cons, hput, hput_end r B, List.cons_append]
theorem makeS {C : Cfg} {K : List (Nat × V)} {H : List Blk} {lo nid : Nat} {α : Type} {f : α → V} {n m : Int} {y : α} {l : List α} {t e es : Nat} {T Te : TI} {xo yo : Operand} (hm : mkS n m y = some l) (hT : C.ty t = some T) (hk : T.kd = .slice e es) (hTe : C.ty e = some Te) (hes : Te.size = es) (hz : Te.zero = f y) (hby : Nat.ble Te.bytes 4096 = true) (hx : kev K xo = some (.i n)) (hy : kev K yo = some (.i m)) :
    opEff C K H lo nid (.makeSlice t xo yo) = some ⟨.osl nid 0 l.length, [(nid, .rows es (l.map f))], [nid]⟩ := by
  unfold mkS at hm
  split at hm
  · rename_i h
    cases hm
    have hby' : Te.bytes ≤ 4096 := Nat.le_of_ble_eq_true hby
    simp only [opEff, effMakeSlice, sliceElem, hT, hk, hTe, hx, hy]
    rw [if_pos ⟨h.1, h.2.1, h.2.2, hby'⟩, hz, hes]
    simp
  · cases hm
end X
mutual
def maskV : V → V
  | .sl _ => .uns
  | .agg l => .agg (maskL l)
  | .tup l => .tup (maskL l)
  | v => v
def maskL : List V → List V
  | [] => []
  | v :: r => maskV v :: maskL r
end
mutual
theorem mask_sound {m : Mem} {I : Ij} : ∀ (v : V) {u : Value}, Rep m v I u → Rep m (maskV v) I u
  | .sl _, u, h => by unfold Rep at h; obtain ⟨ad, cap, _, rfl, _⟩ := h; unfold maskV Rep; exact ⟨_, _, _, rfl⟩
  | .agg l, u, h => by unfold Rep at h; obtain ⟨us, rfl, h1, h2⟩ := h; unfold maskV Rep; exact ⟨us, rfl, h1, maskL_sound l h2⟩
  | .tup l, u, h => by unfold Rep at h; obtain ⟨us, rfl, h2⟩ := h; unfold maskV Rep; exact ⟨us, rfl, maskL_sound l h2⟩
  | .lit _, u, h => h
  | .ptr _ _ _, u, h => h
  | .fptr _ _ _, u, h => h
  | .osl _ _ _, u, h => h
  | .fn _ _, u, h => h
  | .yld _, u, h => h
  | .map _, u, h => h
  | .fmap _ _, u, h => h
  | .uns, u, h => h
theorem maskL_sound {m : Mem} {I : Ij} : ∀ (l : List V) {us : List Value}, RepL m l I us → RepL m (maskL l) I us
  | [], us, h => h
  | v :: r, us, h => by
    unfold RepL at h
    obtain ⟨u, us', rfl, h1, h2⟩ := h
    unfold maskL RepL
    exact ⟨u, us', rfl, mask_sound v h1, maskL_sound r h2⟩
end
theorem Ct.mask {P : Program} {f : Nat} {args : List V} {v : V} (h : Ct P f args v) : Ct P f args (maskV v) := ⟨fun m w us hm hr => (h.1 m w us hm hr).mono fun e w' ⟨u, m', h1, h2, h3, h4, h5, h6⟩ => ⟨u, m', h1, h2, h3, h4, h5, mask_sound v h6⟩, h.2⟩
end Go.Am
