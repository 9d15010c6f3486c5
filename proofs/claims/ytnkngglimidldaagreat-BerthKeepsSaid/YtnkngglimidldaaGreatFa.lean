/- Maps whose values are blocks of the call's own; all that a call owns, frozen; loops over maps. Conditions: none. -/
import Derived.Test.YtnkngglimidldaaGreatMp
set_option linter.unusedVariables false
set_option linter.unusedSimpArgs false
namespace Go.Am
open Go Go.Wk Go.RowKit Go.Mx
theorem GS.freezeW {C : Cfg} {k : List It} {K K' : List (Nat × V)} {H : List Blk} {n : Nat} {Q : Ex → St → Prop} (hK : ∀ t v, kget K' t = some v → ∃ v0, kget K t = some v0 ∧ (FR H 0 v0 v ∨ v0 = v ∧ ∃ x, v = .lit x)) (h : GS C 0 k ⟨K', [], 0, none, n⟩ Q) : GS C 0 k ⟨K, H, 0, none, n⟩ Q := by
  intro hC E I m a w hE hs
  have hH0 : E.H0 = [] := List.eq_nil_of_length_eq_zero (Nat.le_zero.1 hE.len)
  have hnl : ∀ j, ¬ Live ([] : List Blk) j := fun j ⟨B, hB, _⟩ => by simp [Am.get] at hB
  have hsub : (yV I m H 0 w).Le (wmem w) := zDi hs.sim
  have hown : ∀ j f, Live H j → I j = some f → E.w0.heap.size ≤ f.b := fun j f hj hf => by
    rcases hs.fx.own j f (by rw [← hs.lo]; exact Nat.zero_le _) hj hf with h | ⟨i0, f0, _, ⟨B, hB, _⟩, _⟩
    · exact h
    · rw [hH0] at hB; simp [Am.get] at hB
  have hsim : Sim Ij.none (yV I m H 0 w) [] w := by
    refine ⟨hsub, fun id B hB => by simp [Am.get] at hB, fun id _ => rfl, fun id f hl => absurd hl (hnl id), fun i j f g hl => absurd hl (hnl i)⟩
  refine h hC E Ij.none (yV I m H 0 w) a w hE { sim := hsim, slots := fun t v hv => ?_, size := hs.size, n := hs.n, lo := hs.lo, rnd := hs.rnd, fx := ?_, mem := fun k o hk => YZ k o (hs.mem k o hk), fresh := fun k o hk => ?_, lole := hs.lole, dfr := ?_, rok := ?_ }
  · obtain ⟨v0, h1, h2⟩ := hK t v hv
    obtain ⟨u, h3, h4⟩ := hs.slots t v0 h1
    refine ⟨u, h3, ?_⟩
    rcases h2 with ⟨n', h2⟩ | ⟨rfl, x, rfl⟩
    · exact QF hs.sim n' v0 v u h2 h4
    · unfold Rep at h4 ⊢; exact h4
  · refine ⟨hs.fx.st, hs.fx.same, fun id f h => ?_, fun id f _ hl => absurd hl (hnl id), fun id hid => ?_, by rw [hH0]; exact Nat.zero_le _⟩
    · have := hE.dom id f h; omega
    · have := hs.lo; simp only at this; omega
  · rcases zDj hk with hk | ⟨id, f, _, hl, hf, e⟩
    · exact hs.fresh k o hk
    · exact .inr (by rw [← e]; exact hown id f hl hf)
  · obtain ⟨ds, h1, h2, h3, h4⟩ := hs.dfr
    refine ⟨ds, h1, h2, fun D hD => ?_, h4⟩
    obtain ⟨k1, k2, k3, k4⟩ := h3 D hD
    refine ⟨k1, k2, ?_, fun j g hj => absurd hj (hnl j)⟩
    cases hm : yV I m H 0 w D with
    | none => rfl
    | some o =>
      rcases zDj hm with hm | ⟨id, f, _, hl, hf, e⟩
      · rw [k3] at hm; cases hm
      · exact absurd e (k4 id f hl hf)
  · exact hs.rok
structure FK (α β : Type) where
  g : α → V
  mv : Nat → β → V
  bk : β → Blk
  nilv : V
  hg : ∀ N keep a, rn N keep 9 (g a) = some (g a)
  hmk : ∀ N keep i j x, rx N keep i = some j → rn N keep 9 (mv i x) = some (mv j x)
  hbk : ∀ N keep x, rnB N keep 9 (bk x) = some (bk x)
  live : ∀ x, (bk x).live = true
  nofree : ∀ x, bk x ≠ .free
section
variable {α β : Type}
variable {F : FK α β}
end
namespace X
section
variable {α β : Type} {F : FK α β} {C : Cfg} {N : Nat} {k : List It} {K K' : List (Nat × V)} {H1 P P0 P2 : List Blk} {lo n d : Nat} {rnd : Option Nat} {Q : Ex → St → Prop} {A : List (α × β)} {all os : List Oper} {p : Op} {ty : TypeId} {pos : String} {after : Array Edge} {g : Option (Nat × Bool)}
variable {H : List Blk} {nid b m t : Nat} [DecidableEq α] {k0 : α} {x0 : β} {kd : Kd} {Te T : TI} {mo ko vo xo yo : Operand} {pos0 : α → List α → Nat}
end
end X
section
variable {α β γ δ : Type}
end
namespace X
end X
namespace X
section
variable {α β γ δ : Type} {C : Cfg} {N : Nat} {k : List It} {K K' : List (Nat × V)} {H H1 P P0 P2 : List Blk} {lo n d nid b m t : Nat} {rnd : Option Nat} {Q : Ex → St → Prop} {all os : List Oper} {p : Op} {ty : TypeId} {pos : String} {after : Array Edge} {gu : Option (Nat × Bool)} [DecidableEq α] {k0 : α} {kd : Kd} {Te T : TI} {mo ko vo xo yo : Operand}
variable {g : α → V} {hg : ∀ N keep a, rn N keep 9 (g a) = some (g a)} {es : Nat} {f : β → V} {hf : ∀ N keep a, rn N keep 9 (f a) = some (f a)} {f1 : γ → V} {f2 : δ → V} {h1 : ∀ N keep a, rn N keep 9 (f1 a) = some (f1 a)} {h2 : ∀ N keep a, rn N keep 9 (f2 a) = some (f2 a)}
end
section
variable {γ : Type} {C : Cfg} {N : Nat} {k : List It} {K K' : List (Nat × V)} {H : List Blk} {lo n d nid t : Nat} {rnd : Option Nat} {Q : Ex → St → Prop} {T : TI} {xo : Operand}
theorem fw_nil : ∀ t v, kget ([] : List (Nat × V)) t = some v → ∃ v0, kget K t = some v0 ∧ (FR H 0 v0 v ∨ v0 = v ∧ ∃ x, v = .lit x) := fun t v h => by cases h
theorem fw_cons' {t : Nat} {v v0 : V} (hk : kget K t = some v0) (hv : FR H 0 v0 v ∨ v0 = v ∧ ∃ x, v = .lit x) (h : ∀ t v, kget K' t = some v → ∃ v0, kget K t = some v0 ∧ (FR H 0 v0 v ∨ v0 = v ∧ ∃ x, v = .lit x)) : ∀ t' v', kget ((t, v) :: K') t' = some v' → ∃ v0, kget K t' = some v0 ∧ (FR H 0 v0 v' ∨ v0 = v' ∧ ∃ x, v' = .lit x) := fun t' v' h' => by
  simp only [kget] at h'
  by_cases e : t = t'
  · subst e
    simp only [Nat.beq_refl, cond_true, Option.some.injEq] at h'
    subst h'
    exact ⟨v0, hk, hv⟩
  · rw [zBY e] at h'; exact h t' v' h'
theorem fw_cons {t : Nat} {v v0 : V} (hk : kget K t = some v0) (hv : FR H 0 v0 v) (h : ∀ t v, kget K' t = some v → ∃ v0, kget K t = some v0 ∧ (FR H 0 v0 v ∨ v0 = v ∧ ∃ x, v = .lit x)) : ∀ t' v', kget ((t, v) :: K') t' = some v' → ∃ v0, kget K t' = some v0 ∧ (FR H 0 v0 v' ∨ v0 = v' ∧ ∃ x, v' = .lit x) := fw_cons' hk (.inl hv) h
theorem clearU {α : Type} {z : Bool} {f : α → V} {l r l' : List α} {z0 : α} {t id e es : Nat} {a : Int} {T Te : TI} {xo : Operand} {all os : List Oper} {ty : TypeId} {pos : String} {after : Array Edge} {g : Option (Nat × Bool)} {H' : List Blk} (d : Nat) (hc : clrE l a z0 = some l') (hsub : sub l a (l.length : Int) = some r) (hw : wants all K g = some true) (hT : C.ty t = some T) (hk : T.kd = .slice e es) (hTe : C.ty e = some Te) (hes : Te.size = es) (hz : Te.zero = f z0) (hd : kget K d = some (ovlz z id l)) (hx : kev K xo = some (ovs z id l r a)) (hH : hget H id = oblz z es f l) (hlo : Nat.ble lo id = true) (hH' : hput H id (oblz z es f l') = H')
    (h : GS C N (.ops all os :: k) ⟨(d, ovlz z id l') :: K, H', lo, rnd, n⟩ Q) : GS C N (.ops all (⟨none, .call ⟨.builtin .clear, #[xo], #[t]⟩, ty, pos, after, g⟩ :: os) :: k) ⟨K, H, lo, rnd, n⟩ Q := by
  obtain ⟨c1, c2, c3, c4⟩ := zKp hc
  obtain ⟨_, _, _, s4⟩ := zEk hsub
  have hll := zMR hc
  have hne : l ≠ [] := fun e => by rw [e] at c1; cases c1
  have hne' : l' ≠ [] := fun e => by rw [e] at hll; rw [hll] at c1; cases c1
  rcases zC5 z id l r a with ⟨_, e⟩ | ⟨e1, _, _, e4⟩
  · exact absurd e hne
  · have hrl : r.length = l.length - a.toNat := by
      rw [s4, List.length_drop, List.length_take]
      omega
    have hx' : kev K xo = some (.osl id a.toNat ((l.map f).length - a.toNat)) := by rw [hx, e1, hrl, List.length_map]
    have he : oblz z es f l' = .rows es ((l.map f).take a.toNat ++ List.replicate ((l.map f).length - a.toNat) Te.zero) := by
      rw [zBN hne', c4, hz]
      simp [List.map_append, List.map_take, List.map_replicate]
    refine op0W hw (clrO (R := l.map f) hT hk hTe hes hx' (by rw [hH, e4]) rfl hlo (by rw [List.length_map]; omega)) (H' := H') (by rw [← he]; exact hH') ?_
    refine GS.drop ((d, ovlz z id l') :: K) (fun t' v hv => ?_) h
    simp only [kget] at hv
    by_cases e : d = t'
    · subst e
      simp only [Nat.beq_refl, cond_true, Option.some.injEq] at hv
      subst hv
      show kget K d = _
      rw [hd, zEq hne, zEq hne', hll]
    · rw [zBY e] at hv; exact hv
theorem zLJ {α : Type} {z : Bool} {f : α → V} {l r : List α} {id es : Nat} {b : Int} (d : Nat) (hs : sub l 0 b = some r) (hd : kget K d = some (ovs z id l r 0)) (hg : hget H id = oblz z es f l) (hid : Nat.blt id H.length = true) (hlo : Nat.ble lo id = true) (hsh : ∀ x, shut 9 (f x) = true)
    (h : GS C 0 k ⟨(d, .sl (r.map f)) :: K, hput H id .dead, lo, rnd, n⟩ Q) : GS C 0 k ⟨K, H, lo, rnd, n⟩ Q := by
  obtain ⟨_, h1, h2, h3⟩ := zEk hs
  rcases zC5 z id l r 0 with ⟨rfl, rfl⟩ | ⟨e1, _, _, e4⟩
  · have : r = [] := by simpa using h3
    subst this
    exact zCl (z := true) (l := ([] : List α)) d hd hg hid hlo hsh h
  · rw [e1] at hd
    rw [e4] at hg
    have hr : l = r ++ l.drop b.toNat := by rw [h3]; simp
    refine zLK (f := f) (r := r) (s := l.drop b.toNat) d hd (by rw [← hr]; exact hg) hlo hsh h
end
end X
end Go.Am
