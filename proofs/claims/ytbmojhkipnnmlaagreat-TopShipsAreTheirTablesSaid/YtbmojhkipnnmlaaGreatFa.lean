/- Maps whose values are blocks of the call's own; all that a call owns, frozen; loops over maps. Conditions: none. -/
import Derived.Test.YtbmojhkipnnmlaaGreatMp
set_option linter.unusedVariables false
set_option linter.unusedSimpArgs false
namespace Go.Am
open Go Go.Wk Go.RowKit Go.Mx
structure FK (α β : Type) where
  g : α → V
  mv : Nat → β → V
  bk : β → Blk
  nilv : V
  hg : ∀ N keep a, rn N keep 9 (g a) = some (g a)
  hmk : ∀ N keep i j x, rx N keep i = some j → rn N keep 9 (mv i x) = some (mv j x)
  hbk : ∀ N keep x, rnB N keep 9 (bk x) = some (bk x)
  live : ∀ x, (bk x).live = true
  nofree : ∀ x, bk x ≠ .free
section
variable {α β : Type}
variable {F : FK α β}
end
namespace X
section
variable {α β : Type} {F : FK α β} {C : Cfg} {N : Nat} {k : List It} {K K' : List (Nat × V)} {H1 P P0 P2 : List Blk} {lo n d : Nat} {rnd : Option Nat} {Q : Ex → St → Prop} {A : List (α × β)} {all os : List Oper} {p : Op} {ty : TypeId} {pos : String} {after : Array Edge} {g : Option (Nat × Bool)}
variable {H : List Blk} {nid b m t : Nat} [DecidableEq α] {k0 : α} {x0 : β} {kd : Kd} {Te T : TI} {mo ko vo xo yo : Operand} {pos0 : α → List α → Nat}
end
end X
section
variable {α β γ δ : Type}
end
namespace X
end X
namespace X
section
variable {α β γ δ : Type} {C : Cfg} {N : Nat} {k : List It} {K K' : List (Nat × V)} {H H1 P P0 P2 : List Blk} {lo n d nid b m t : Nat} {rnd : Option Nat} {Q : Ex → St → Prop} {all os : List Oper} {p : Op} {ty : TypeId} {pos : String} {after : Array Edge} {gu : Option (Nat × Bool)} [DecidableEq α] {k0 : α} {kd : Kd} {Te T : TI} {mo ko vo xo yo : Operand}
variable {g : α → V} {hg : ∀ N keep a, rn N keep 9 (g a) = some (g a)} {es : Nat} {f : β → V} {hf : ∀ N keep a, rn N keep 9 (f a) = some (f a)} {f1 : γ → V} {f2 : δ → V} {h1 : ∀ N keep a, rn N keep 9 (f1 a) = some (f1 a)} {h2 : ∀ N keep a, rn N keep 9 (f2 a) = some (f2 a)}
end
section
variable {γ : Type} {C : Cfg} {N : Nat} {k : List It} {K K' : List (Nat × V)} {H : List Blk} {lo n d nid t : Nat} {rnd : Option Nat} {Q : Ex → St → Prop} {T : TI} {xo : Operand}
theorem clearU {α : Type} {z : Bool} {f : α → V} {l r l' : List α} {z0 : α} {t id e es : Nat} {a : Int} {T Te : TI} {xo : Operand} {all os : List Oper} {ty : TypeId} {pos : String} {after : Array Edge} {g : Option (Nat × Bool)} {H' : List Blk} (d : Nat) (hc : clrE l a z0 = some l') (hsub : sub l a (l.length : Int) = some r) (hw : wants all K g = some true) (hT : C.ty t = some T) (hk : T.kd = .slice e es) (hTe : C.ty e = some Te) (hes : Te.size = es) (hz : Te.zero = f z0) (hd : kget K d = some (ovlz z id l)) (hx : kev K xo = some (ovs z id l r a)) (hH : hget H id = oblz z es f l) (hlo : Nat.ble lo id = true) (hH' : hput H id (oblz z es f l') = H')
    (h : GS C N (.ops all os :: k) ⟨(d, ovlz z id l') :: K, H', lo, rnd, n⟩ Q) : GS C N (.ops all (⟨none, .call ⟨.builtin .clear, #[xo], #[t]⟩, ty, pos, after, g⟩ :: os) :: k) ⟨K, H, lo, rnd, n⟩ Q := by
  obtain ⟨c1, c2, c3, c4⟩ := clrE_of hc
  obtain ⟨_, _, _, s4⟩ := sub_of hsub
  have hll := clrE_len hc
  have hne : l ≠ [] := fun e => by rw [e] at c1; cases c1
  have hne' : l' ≠ [] := fun e => by rw [e] at hll; rw [hll] at c1; cases c1
  rcases ovs_cases z id l r a with ⟨_, e⟩ | ⟨e1, _, _, e4⟩
  · exact absurd e hne
  · have hrl : r.length = l.length - a.toNat := by
      rw [s4, List.length_drop, List.length_take]
      omega
    have hx' : kev K xo = some (.osl id a.toNat ((l.map f).length - a.toNat)) := by rw [hx, e1, hrl, List.length_map]
    have he : oblz z es f l' = .rows es ((l.map f).take a.toNat ++ List.replicate ((l.map f).length - a.toNat) Te.zero) := by
      rw [obl_ne hne', c4, hz]
      simp [List.map_append, List.map_take, List.map_replicate]
    refine op0W hw (clrO (R := l.map f) hT hk hTe hes hx' (by rw [hH, e4]) rfl hlo (by rw [List.length_map]; omega)) (H' := H') (by rw [← he]; exact hH') ?_
    refine GS.drop ((d, ovlz z id l') :: K) (fun t' v hv => ?_) h
    simp only [kget] at hv
    by_cases e : d = t'
    · subst e
      simp only [Nat.beq_refl, cond_true, Option.some.injEq] at hv
      subst hv
      show kget K d = _
      rw [hd, ovl_ne hne, ovl_ne hne', hll]
    · rw [beq_ne e] at hv; exact hv
theorem freezeSub {α : Type} {z : Bool} {f : α → V} {l r : List α} {id es : Nat} {b : Int} (d : Nat) (hs : sub l 0 b = some r) (hd : kget K d = some (ovs z id l r 0)) (hg : hget H id = oblz z es f l) (hid : Nat.blt id H.length = true) (hlo : Nat.ble lo id = true) (hsh : ∀ x, shut 9 (f x) = true)
    (h : GS C 0 k ⟨(d, .sl (r.map f)) :: K, hput H id .dead, lo, rnd, n⟩ Q) : GS C 0 k ⟨K, H, lo, rnd, n⟩ Q := by
  obtain ⟨_, h1, h2, h3⟩ := sub_of hs
  rcases ovs_cases z id l r 0 with ⟨rfl, rfl⟩ | ⟨e1, _, _, e4⟩
  · have : r = [] := by simpa using h3
    subst this
    exact freezeAt (z := true) (l := ([] : List α)) d hd hg hid hlo hsh h
  · rw [e1] at hd
    rw [e4] at hg
    have hr : l = r ++ l.drop b.toNat := by rw [h3]; simp
    refine freezePre (f := f) (r := r) (s := l.drop b.toNat) d hd (by rw [← hr]; exact hg) hlo hsh h
end
end X
end Go.Am
