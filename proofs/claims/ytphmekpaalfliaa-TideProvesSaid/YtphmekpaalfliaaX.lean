/- Rules for walks that a program prints. Conditions: none. -/
import Derived.Test.YtphmekpaalfliaaGs
import Derived.Test.YtphmekpaalfliaaXl
set_option linter.unusedVariables false
set_option linter.unusedSimpArgs false
namespace Go.Am
open Go Go.Wk Go.RowKit Go.Mx

/-! ### Own slices -/

/-- An own slice, and its block: without elements it is nil (z), or empty. -/
def ovlz {α : Type} (z : Bool) (id : Nat) (l : List α) : V := match z, l with
  | true, [] => .nil
  | _, l => .osl id 0 l.length
def oblz {α : Type} (z : Bool) (es : Nat) (f : α → V) (l : List α) : Blk := match z, l with
  | true, [] => .dead
  | _, l => .rows es (l.map f)
abbrev ovl {α : Type} (id : Nat) (l : List α) : V := ovlz true id l
abbrev obl {α : Type} (es : Nat) (f : α → V) (l : List α) : Blk := oblz true es f l

theorem ovlz_cases {α : Type} (z : Bool) (id es : Nat) (f : α → V) (l : List α) : (z = true ∧ l = []) ∨ (ovlz z id l = .osl id 0 l.length ∧ oblz z es f l = .rows es (l.map f)) := by cases z <;> cases l <;> simp [ovlz, oblz]
theorem ovl_ne {α : Type} {z : Bool} {id : Nat} {l : List α} (h : l ≠ []) : ovlz z id l = .osl id 0 l.length := by cases l with
  | nil => exact absurd rfl h
  | cons => cases z <;> rfl
theorem obl_ne {α : Type} {z : Bool} {es : Nat} {f : α → V} {l : List α} (h : l ≠ []) : oblz z es f l = .rows es (l.map f) := by cases l with
  | nil => exact absurd rfl h
  | cons => cases z <;> rfl
theorem put_ne {α : Type} {l : List α} {i : Int} {x y : α} (h : ix l i = some y) : Mx.put l i x ≠ [] := by
  obtain ⟨h1, h2, h3⟩ := ix_of h
  intro e
  have : (Mx.put l i x).length = 0 := by rw [e]; rfl
  simp [Mx.put] at this
  subst this
  simp at h3

section
variable {N : Nat} {keep : List (Option Nat)} {K K1 : List (Nat × V)} {H H1 : List Blk}

/-! ### Blocks and slots behind a cut -/

def GK (N : Nat) (keep : List (Option Nat)) (K K1 : List (Nat × V)) : Prop := ∀ t v, kget K t = some v → ∃ n v1 v0, rn N keep n v = some v1 ∧ kget K1 t = some v0 ∧ (v0 = v1 ∨ ∃ n', frz [] 0 n' v0 = some v1)
def Rv (N : Nat) (keep : List (Option Nat)) (v v1 : V) : Prop := ∃ n, rn N keep n v = some v1

theorem gk_nil : GK N keep [] K1 := fun t v h => by cases h
theorem gk_cons {K : List (Nat × V)} {t : Nat} {v v1 : V} (hk : kget K1 t = some v1) (h : Rv N keep v v1) (h2 : GK N keep K K1) : GK N keep ((t, v) :: K) K1 := fun t' u h' => by
  simp only [kget] at h'
  cases hb : Nat.beq t t' with
  | true =>
    rw [hb] at h'
    simp only [cond_true, Option.some.injEq] at h'
    subst h'
    rw [← Nat.eq_of_beq_eq_true hb]
    obtain ⟨n, h⟩ := h
    exact ⟨n, v1, v1, h, hk, .inl rfl⟩
  | false => rw [hb] at h'; exact h2 t' u h'
/-- The value is told otherwise. -/
theorem gk_eq {K : List (Nat × V)} {t : Nat} {v v1 v2 : V} (hk : kget K1 t = some v1) (e : v1 = v2) (h : Rv N keep v v2) (h2 : GK N keep K K1) : GK N keep ((t, v) :: K) K1 := gk_cons (hk.trans (congrArg some e)) h h2

theorem rn_ovl {α : Type} {z : Bool} {l : List α} {i j : Nat} (h : rx N keep i = some j) : Rv N keep (ovlz z i l) (ovlz z j l) := ⟨1, by cases z <;> cases l <;> simp [ovlz, rn, h, V.nil]⟩

def GB (N : Nat) (keep : List (Option Nat)) (H1 : List Blk) : Nat → List Blk → Prop
  | _, [] => True
  | i, B :: r => (B ≠ .free ∧ (B.live = true → ∃ j, rx N keep i = some j ∧ RB N keep B (hget H1 j))) ∧ GB N keep H1 (i + 1) r
theorem gb_nil {i : Nat} : GB N keep H1 i [] := trivial
theorem gb_cons {i j : Nat} {B B1 : Blk} {r : List Blk} (hj : rx N keep i = some j) (h1 : hget H1 j = B1) (hf : B ≠ .free) (hr : B.live = true → ∃ n, rnB N keep n B = some B1) (h : GB N keep H1 (i + 1) r) : GB N keep H1 i (B :: r) := ⟨⟨hf, fun hl => by obtain ⟨n, hn⟩ := hr hl; exact ⟨j, hj, .inl ⟨n, by rw [h1]; exact hn⟩⟩⟩, h⟩
theorem gb_pad {i : Nat} {r : List Blk} (h : GB N keep H1 (i + 1) r) : GB N keep H1 i (.dead :: r) := ⟨⟨(by intro h; cases h), (by intro h; cases h)⟩, h⟩
/-- A block of which nothing is known any more. -/
theorem gb_pad' {i : Nat} {B : Blk} {r : List Blk} (e : B = .dead) (h : GB N keep H1 (i + 1) r) : GB N keep H1 i (B :: r) := e ▸ gb_pad h

theorem obl_free {α : Type} {z : Bool} {es : Nat} {f : α → V} {l : List α} : oblz z es f l ≠ .free := by cases z <;> cases l <;> intro h <;> cases h

theorem mapO_self {β α : Type} {g : β → Option β} {f : α → β} (h : ∀ x, g (f x) = some (f x)) : ∀ l : List α, mapO g (l.map f) = some (l.map f)
  | [] => rfl
  | x :: r => by simp [mapO, h x, mapO_self h r]
theorem rnB_map {α : Type} {es : Nat} {f : α → V} {l : List α} (n : Nat) (h : ∀ x, rn N keep n (f x) = some (f x)) : ∃ n, rnB N keep n (.rows es (l.map f)) = some (.rows es (l.map f)) := ⟨n, by simp [rnB, mapO_self h]⟩
theorem rnB_obl {α : Type} {z : Bool} {es : Nat} {f : α → V} {l : List α} (n : Nat) (h : ∀ x, rn N keep n (f x) = some (f x)) : ∃ n, rnB N keep n (oblz z es f l) = some (oblz z es f l) := by
  cases z with
  | false => exact rnB_map n h
  | true => cases l with
    | nil => exact ⟨1, rfl⟩
    | cons => exact rnB_map n h
/-- One row. -/
theorem rnB_one {es : Nat} {v v1 : V} (h : Rv N keep v v1) : ∃ n, rnB N keep n (.rows es [v]) = some (.rows es [v1]) := by
  obtain ⟨n, h⟩ := h
  exact ⟨n, by simp [rnB, mapO, h]⟩

theorem rn_mono : ∀ (n : Nat) (v v1 : V), rn N keep n v = some v1 → rn N keep (n + 1) v = some v1
  | 0, v, v1, h => by cases h
  | n + 1, v, v1, h => by
    have key : ∀ (l l1 : List V), mapO (rn N keep n) l = some l1 → mapO (rn N keep (n + 1)) l = some l1 := by
      intro l
      induction l with
      | nil => intro l1 h; exact h
      | cons x r ih =>
        intro l1 h
        simp only [mapO] at h ⊢
        cases hx : rn N keep n x with
        | none => rw [hx] at h; cases h
        | some y =>
          cases hr : mapO (rn N keep n) r with
          | none => rw [hx, hr] at h; cases h
          | some s => rw [hx, hr] at h; rw [rn_mono n x y hx, ih s hr]; exact h
    cases v <;> simp only [rn] at h ⊢ <;> first | exact h | skip
    all_goals
      rw [Option.map_eq_some_iff] at h ⊢
      obtain ⟨l1, h1, h2⟩ := h
      exact ⟨l1, key _ _ h1, h2⟩
theorem rn_le {n m : Nat} {v v1 : V} (hnm : n ≤ m) (h : rn N keep n v = some v1) : rn N keep m v = some v1 := by
  induction hnm with
  | refl => exact h
  | step _ ih => exact rn_mono _ _ _ ih

inductive RvL (N : Nat) (keep : List (Option Nat)) : List V → List V → Prop where
  | nil : RvL N keep [] []
  | cons {v v1 : V} {l l1 : List V} : Rv N keep v v1 → RvL N keep l l1 → RvL N keep (v :: l) (v1 :: l1)
theorem RvL.mapO {l l1 : List V} (h : RvL N keep l l1) : ∃ n, ∀ m, n ≤ m → Am.mapO (rn N keep m) l = some l1 := by
  induction h with
  | nil => exact ⟨0, fun _ _ => rfl⟩
  | cons h1 _ ih =>
    obtain ⟨a, ha⟩ := h1
    obtain ⟨b, hb⟩ := ih
    exact ⟨max a b, fun m hm => by simp [Am.mapO, rn_le (show a ≤ m by omega) ha, hb m (by omega)]⟩
theorem rn_agg {l l1 : List V} (h : RvL N keep l l1) : Rv N keep (.agg l) (.agg l1) := by obtain ⟨n, h⟩ := h.mapO; exact ⟨n + 1, by simp [rn, h n (Nat.le_refl _)]⟩
/-- What is kept, looked over. -/
def kokL (N len : Nat) : List (Option Nat) → Bool
  | [] => true
  | none :: r => kokL N len r
  | some j :: r => Nat.ble N j && Nat.blt j len && !r.contains (some j) && kokL N len r
theorem kok_spec {N len : Nat} : ∀ {l : List (Option Nat)}, kokL N len l = true → (∀ i j, get l i = some (some j) → N ≤ j ∧ j < len) ∧ ∀ i i' j, get l i = some (some j) → get l i' = some (some j) → i = i'
  | [], _ => ⟨fun i j h => (by cases h), fun i i' j h => (by cases h)⟩
  | none :: r, h => by
    obtain ⟨h1, h2⟩ := kok_spec (l := r) (by simpa [kokL] using h)
    refine ⟨fun i j h => ?_, fun i i' j h h' => ?_⟩
    · cases i with
      | zero => cases h
      | succ i => exact h1 i j h
    · cases i with
      | zero => cases h
      | succ i => cases i' with
        | zero => cases h'
        | succ i' => rw [h2 i i' j h h']
  | some a :: r, h => by
    simp only [kokL, Bool.and_eq_true, Nat.ble_eq, Bool.not_eq_true', List.contains_iff_mem, ← Bool.not_eq_true] at h
    obtain ⟨⟨⟨q1, q2⟩, q3⟩, q4⟩ := h
    have q2' : a < len := by simpa [Nat.blt_eq] using q2
    obtain ⟨h1, h2⟩ := kok_spec q4
    have hm : ∀ i, get r i ≠ some (some a) := fun i hi => q3 (by rw [get_eq] at hi; exact List.mem_of_getElem? hi)
    refine ⟨fun i j h => ?_, fun i i' j h h' => ?_⟩
    · cases i with
      | zero => simp only [Am.get, Option.some.injEq] at h; subst h; exact ⟨q1, q2'⟩
      | succ i => exact h1 i j h
    · cases i with
      | zero => cases i' with
        | zero => rfl
        | succ i' => simp only [Am.get, Option.some.injEq] at h; subst h; exact absurd h' (hm i')
      | succ i => cases i' with
        | zero => simp only [Am.get, Option.some.injEq] at h'; subst h'; exact absurd h (hm i)
        | succ i' => rw [h2 i i' j h h']

theorem GB.spec : ∀ {H : List Blk} {i : Nat}, GB N keep H1 i H → ∀ id B, get H id = some B → B ≠ .free ∧ (B.live = true → ∃ j, rx N keep (i + id) = some j ∧ RB N keep B (hget H1 j))
  | [], _, _, _, _, h => by cases h
  | B :: r, i, h, 0, B', hg => by simp only [Am.get, Option.some.injEq] at hg; subst hg; exact h.1
  | B :: r, i, h, id + 1, B', hg => by have := GB.spec h.2 id B' hg; rwa [show i + 1 + id = i + (id + 1) by omega] at this
end

namespace X
section
variable {C : Cfg} {N : Nat} {all os : List Oper} {o : Oper} {k : List It} {K K' : List (Nat × V)} {H H' : List Blk} {lo n nid : Nat} {rnd : Option Nat} {Q : Ex → St → Prop} {dst : Option Nat} {d : Nat} {p : Op} {ty : TypeId} {pos : String} {after : Array Edge} {e : Eff} {v : V} {x y : Bool} {g : Option (Nat × Bool)} {wr : List (Nat × Blk)} {rd : List Nat}

/-- Renumbered. The blocks below N stay. -/
theorem gc (keep : List (Option Nat)) (h : GS C N k ⟨K', H', lo, rnd, n⟩ Q) (hlo : lo = 0) (hk : kokL N H.length keep = true) (hl : Nat.beq H'.length (N + keep.length) = true) (hK : GK N keep K' K) (hH : GB N keep H 0 H') : GS C N k ⟨K, H, lo, rnd, n⟩ Q := by
  refine GS.gc (keep := keep) ⟨(kok_spec hk).1, (kok_spec hk).2, Nat.eq_of_beq_eq_true hl, hK, fun id B hB hlv => ?_, fun id hid => ?_, fun id hf => (hH.spec id _ hf).1 rfl⟩ h
  · have := (hH.spec id B hB).2 hlv
    simpa using this
  · subst hlo
    exact absurd hid (Nat.not_lt_zero _)

theorem norm {s : St} (K' : List (Nat × V)) (h : GS C N k ⟨K', H', lo, rnd, n⟩ Q) (e : s = ⟨K, H', lo, rnd, n⟩) (hK : W.Sub K' K) : GS C N k s Q := by
  subst e
  exact GS.drop K' hK h

theorem front {s s' : St} (hs : s.put (some d) v = s') (hd : Nat.blt d n = true) (h : GS C N k ⟨(d, v) :: K, H, lo, rnd, n⟩ Q) (e1 : s = ⟨K, H, lo, rnd, n⟩) : GS C N k s' Q := by
  subst e1
  subst hs
  have e2 : St.put ⟨K, H, lo, rnd, n⟩ (some d) v = ⟨kput K d v, H, lo, rnd, n⟩ := by unfold St.put; simp only; rw [hd]; rfl
  rw [e2]
  refine .drop ((d, v) :: K) (fun t u h => ?_) h
  simp only [kget] at h
  show kget (kput K d v) t = some u
  rw [kget_put]
  cases hb : Nat.beq d t with
  | true => rw [hb] at h; rw [if_pos (Nat.eq_of_beq_eq_true hb)]; exact h
  | false => rw [hb] at h; rw [if_neg (Nat.ne_of_beq_eq_false hb)]; exact h

/-! Operations. -/
theorem opR (hw : wants all K g = some true) (he : opEff C K H lo H.length p = some ⟨v, [], rd⟩) (hd : Nat.blt d n = true) (h : GS C N (.ops all os :: k) ⟨(d, v) :: K, H, lo, rnd, n⟩ Q) : GS C N (.ops all (⟨some d, p, ty, pos, after, g⟩ :: os) :: k) ⟨K, H, lo, rnd, n⟩ Q := .op hw he (front rfl hd h rfl)
theorem op0 (hw : wants all K g = some true) (he : opEff C K H lo H.length p = some ⟨v, [], rd⟩) (h : GS C N (.ops all os :: k) ⟨K, H, lo, rnd, n⟩ Q) : GS C N (.ops all (⟨none, p, ty, pos, after, g⟩ :: os) :: k) ⟨K, H, lo, rnd, n⟩ Q := .op hw he h
theorem opW (hw : wants all K g = some true) (he : opEff C K H lo H.length p = some ⟨v, wr, rd⟩) (hH : puts H wr = H') (hd : Nat.blt d n = true) (h : GS C N (.ops all os :: k) ⟨(d, v) :: K, H', lo, rnd, n⟩ Q) : GS C N (.ops all (⟨some d, p, ty, pos, after, g⟩ :: os) :: k) ⟨K, H, lo, rnd, n⟩ Q := .op hw he (front rfl hd (by subst hH; exact h) rfl)
theorem op0W (hw : wants all K g = some true) (he : opEff C K H lo H.length p = some ⟨v, wr, rd⟩) (hH : puts H wr = H') (h : GS C N (.ops all os :: k) ⟨K, H', lo, rnd, n⟩ Q) : GS C N (.ops all (⟨none, p, ty, pos, after, g⟩ :: os) :: k) ⟨K, H, lo, rnd, n⟩ Q := .op hw he (by subst hH; exact h)
theorem off (hw : wants all K g = some false) (hd : Nat.blt d n = true) (h : GS C N (.ops all os :: k) ⟨(d, undefV) :: K, H, lo, rnd, n⟩ Q) : GS C N (.ops all (⟨some d, p, ty, pos, after, g⟩ :: os) :: k) ⟨K, H, lo, rnd, n⟩ Q := .opSkip hw (front rfl hd h rfl)
theorem call {f : Nat} {args args' : List V} (hX : C.X f args' v) (hw : wants all K g = some true) (hc : callee K p = some (.fn f args)) (hd : Nat.blt d n = true) (ha : CloArgs H false args args') (h : GS C N (.ops all os :: k) ⟨(d, v) :: K, H, lo, rnd, n⟩ Q) : GS C N (.ops all (⟨some d, p, ty, pos, after, g⟩ :: os) :: k) ⟨K, H, lo, rnd, n⟩ Q :=
  .ext (fl := false) hw hc ha hX (fun h => by cases h) (front rfl hd h rfl)
theorem callF {f m : Nat} {args args' : List V} (hX : C.X f args' v) (hw : wants all K g = some true) (hc : callee K p = some (.fn f args)) (hd : Nat.blt d n = true) (hf : flat m v = true) (ha : CloArgs H true args args') (h : GS C N (.ops all os :: k) ⟨(d, v) :: K, H, lo, rnd, n⟩ Q) : GS C N (.ops all (⟨some d, p, ty, pos, after, g⟩ :: os) :: k) ⟨K, H, lo, rnd, n⟩ Q :=
  .ext (fl := true) hw hc ha hX (fun _ => ⟨m, hf⟩) (front rfl hd h rfl)

/-! Guards. -/
theorem on_t {j : Nat} {t : Nat} {o' : Oper} (h1 : Am.get all j = some o') (h2 : o'.dst = some t) (h3 : kget K t = some (.b x)) (hx : x = true) : wants all K (some (j, true)) = some true := by rw [W.wants_b h1 h2 h3, hx]; rfl
theorem on_f {j : Nat} {t : Nat} {o' : Oper} (h1 : Am.get all j = some o') (h2 : o'.dst = some t) (h3 : kget K t = some (.b x)) (hx : x = false) : wants all K (some (j, false)) = some true := by rw [W.wants_b h1 h2 h3, hx]; rfl
theorem off_t {j : Nat} {t : Nat} {o' : Oper} (h1 : Am.get all j = some o') (h2 : o'.dst = some t) (h3 : kget K t = some (.b x)) (hx : x = false) : wants all K (some (j, true)) = some false := by rw [W.wants_b h1 h2 h3, hx]; rfl
theorem off_f {j : Nat} {t : Nat} {o' : Oper} (h1 : Am.get all j = some o') (h2 : o'.dst = some t) (h3 : kget K t = some (.b x)) (hx : x = true) : wants all K (some (j, false)) = some false := by rw [W.wants_b h1 h2 h3, hx]; rfl
theorem split (x : Bool) (ht : x = true → GS C N k ⟨K, H, lo, rnd, n⟩ Q) (hf : x = false → GS C N k ⟨K, H, lo, rnd, n⟩ Q) : GS C N k ⟨K, H, lo, rnd, n⟩ Q := by
  cases x with
  | true => exact ht rfl
  | false => exact hf rfl
theorem cond {c : Operand} {c1 c2 : Code} (hc : kev K c = some (.b x)) (ht : x = true → GS C N (.code c1 :: k) ⟨K, H, lo, rnd, n⟩ Q) (hf : x = false → GS C N (.code c2 :: k) ⟨K, H, lo, rnd, n⟩ Q) : GS C N (.code (.cond c c1 c2) :: k) ⟨K, H, lo, rnd, n⟩ Q := by
  cases x with
  | true => exact .condT hc (ht rfl)
  | false => exact .condF hc (hf rfl)
theorem bt {a : Bool} (hx : x = true) : V.b a = V.b (bif x then a else y) := by rw [hx]; rfl
/-! Ways that meet, loops. -/
theorem join {τ : Type} {it : It} {s : St} (J : τ → Prop) (S : τ → St) (hj : ∀ v, J v → GS C N k (S v) Q) (h : (∀ v, J v → GS C N k (S v) Q) → GS C N (it :: k) s Q) : GS C N (it :: k) s Q := h hj
theorem lp {σ ρ : Type} {body : σ → Option (σ ⊕ ρ)} {c : Code} {a : ρ} (S : σ → St) (step : ∀ s b, body s = some b → (∀ s', b = .inl s' → GS C N (.inLoop c :: k) (S s') Q) → (∀ y, b = .inr y → y = a) → GS C N (.code c :: .inLoop c :: k) (S s) Q) : ∀ (m : Nat) (s : σ), Lp body m s = some a → GS C N (.code c :: .inLoop c :: k) (S s) Q
  | 0, s, h => by cases h
  | m + 1, s, h => by
    simp only [Lp] at h
    split at h
    · cases h
    · rename_i s' hb
      exact step s _ hb (fun s2 e => by cases e; exact .inLoop (lp S step m s' h)) (fun y e => by cases e)
    · rename_i r hb
      simp only [Option.some.injEq] at h
      exact step s _ hb (fun s2 e => by cases e) (fun y e => by cases e; exact h)
theorem loop {σ ρ : Type} {body : σ → Option (σ ⊕ ρ)} {c : Code} {a : ρ} {m : Nat} {s0 : σ} {s : St} (S : σ → St) (hM : Lp body m s0 = some a) (step : ∀ s b, body s = some b → (∀ s', b = .inl s' → GS C N (.inLoop c :: k) (S s') Q) → (∀ y, b = .inr y → y = a) → GS C N (.code c :: .inLoop c :: k) (S s) Q) (e : S s0 = s) : GS C N (.code (.loop c) :: k) s Q := e ▸ .loop (lp S step m s0 hM)

/-! Values of operations. -/
theorem wrap_w64 (n : Int) : IntKind.wrap .i64 n = w64 n := IntKind.wrap_i64 n
theorem addE {t t2 : Nat} {a b : Int} {xo yo : Operand} (hx : kev K xo = some (.i a)) (hy : kev K yo = some (.i b)) : opEff C K H lo nid (.binOp .add t xo yo t2) = some ⟨.i (w64 (a + b)), [], []⟩ := by
  simp [opEff, effBin, hx, hy, binA, kindEq, intA, pureO, wrap_w64]
theorem subE {t t2 : Nat} {a b : Int} {xo yo : Operand} (hx : kev K xo = some (.i a)) (hy : kev K yo = some (.i b)) : opEff C K H lo nid (.binOp .sub t xo yo t2) = some ⟨.i (w64 (a - b)), [], []⟩ := by
  simp [opEff, effBin, hx, hy, binA, kindEq, intA, pureO, wrap_w64]
theorem mulE {t t2 : Nat} {a b : Int} {xo yo : Operand} (hx : kev K xo = some (.i a)) (hy : kev K yo = some (.i b)) : opEff C K H lo nid (.binOp .mul t xo yo t2) = some ⟨.i (w64 (a * b)), [], []⟩ := by
  simp [opEff, effBin, hx, hy, binA, kindEq, intA, pureO, wrap_w64]
theorem quoE {t t2 : Nat} {a b r : Int} {xo yo : Operand} (h : quo a b = some r) (hx : kev K xo = some (.i a)) (hy : kev K yo = some (.i b)) : opEff C K H lo nid (.binOp .quo t xo yo t2) = some ⟨.i r, [], []⟩ := by
  obtain ⟨h1, rfl⟩ := quo_of h
  simp [opEff, effBin, hx, hy, binA, kindEq, intA, pureO, wrap_w64, h1]
theorem remE {t t2 : Nat} {a b r : Int} {xo yo : Operand} (h : rem a b = some r) (hx : kev K xo = some (.i a)) (hy : kev K yo = some (.i b)) : opEff C K H lo nid (.binOp .rem t xo yo t2) = some ⟨.i r, [], []⟩ := by
  obtain ⟨h1, rfl⟩ := rem_of h
  simp [opEff, effBin, hx, hy, binA, kindEq, intA, pureO, h1]
theorem minE {a b : Int} {t u : Nat} {xo yo : Operand} (hx : kev K xo = some (.i a)) (hy : kev K yo = some (.i b)) : opEff C K H lo nid (.call ⟨.builtin .min, #[xo, yo], #[t, u]⟩) = some ⟨.i (min a b), [], []⟩ := by
  have : (if b < a then b else a) = min a b := by rw [Int.min_def]; split <;> split <;> omega
  simp [opEff, effBuiltin, kevs, hx, hy, builtinA, biMin, minR, kindEq, pureO, this]
theorem maxE {a b : Int} {t u : Nat} {xo yo : Operand} (hx : kev K xo = some (.i a)) (hy : kev K yo = some (.i b)) : opEff C K H lo nid (.call ⟨.builtin .max, #[xo, yo], #[t, u]⟩) = some ⟨.i (max a b), [], []⟩ := by
  have : (if a < b then b else a) = max a b := by rw [Int.max_def]; split <;> split <;> omega
  simp [opEff, effBuiltin, kevs, hx, hy, builtinA, biMax, maxR, kindEq, pureO, this]

/-! Frozen slices. -/
theorem lenF {α : Type} {f : α → V} {l : List α} {xo : Operand} {t : Nat} {T : TI} {e es : Nat} (hT : C.ty t = some T) (hk : T.kd = .slice e es) (hx : kev K xo = some (.sl (l.map f))) : opEff C K H lo nid (.call ⟨.builtin .len, #[xo], #[t]⟩) = some ⟨.i (l.length : Nat), [], []⟩ := by
  simp [opEff, effBuiltin, kevs, hx, builtinA, biLen, hT, hk, lenS]
theorem indexF {α : Type} {f : α → V} {l : List α} {a : α} {t : Nat} {xo io : Operand} {T : TI} {e es : Nat} {m : Int} {ik : IntKind} (hm : ix l m = some a) (hf : ∀ a, (f a).cells.length = es) (hT : C.ty t = some T) (hk : T.kd = .slice e es) (hx : kev K xo = some (.sl (l.map f))) (hi : kev K io = some (.lit (.int ik m))) : opEff C K H lo nid (.indexAddr t xo io) = some ⟨.fptr (l.map f) m.toNat 0, [], []⟩ := by
  obtain ⟨h0, h1, h2⟩ := ix_of hm
  have hg : Am.get (l.map f) m.toNat = some (f a) := by rw [get_eq, List.getElem?_map, h2]; rfl
  simp [opEff, effIndexAddr, hT, hx, hi, indexA, hk, h0, h1, hg, rowOK, hf]
theorem loadF {α : Type} {f : α → V} {l : List α} {a : α} {t : Nat} {xo : Operand} {T : TI} {m : Int} {off : Nat} (hm : ix l m = some a) (hT : C.ty t = some T) (hx : kev K xo = some (.fptr (l.map f) m.toNat off)) (hp : partA T off (f a).cells = some v) : opEff C K H lo nid (.load t xo) = some ⟨v, [], []⟩ := by
  obtain ⟨h0, h1, h2⟩ := ix_of hm
  have hg : Am.get (l.map f) m.toNat = some (f a) := by rw [get_eq, List.getElem?_map, h2]; rfl
  simp only [opEff, effLoad, hT, hx, loadA, hg, hp, Option.map_some]

theorem boundA_int {op : Operand} {a dflt : Int} {ik : IntKind} (h : kev K op = some (.lit (.int ik a))) : boundA K (some op) dflt = some a := by simp [boundA, h]

theorem sliceFE {α : Type} {f : α → V} {l r : List α} {es : Nat} {a b : Int} {lo1 hi1 : Option Operand} (hm : sub l a b = some r) (hf : ∀ a, (f a).cells.length = es) (h1 : boundA K lo1 0 = some a) (h2 : boundA K hi1 (l.length : Nat) = some b) : effSliceB K H es (.sl (l.map f)) lo1 hi1 none = some ⟨.sl (r.map f), [], []⟩ := by
  obtain ⟨q1, q2, q3, rfl⟩ := sub_of hm
  have hr : rowOK' es (Am.get (l.map f) a.toNat) = true := by
    rw [get_eq, List.getElem?_map]
    cases l[a.toNat]? with
    | none => rfl
    | some x => simp [rowOK', hf]
  have e : sliceA H es (.sl (l.map f)) a b false b = some (.sl (((l.take b.toNat).drop a.toNat).map f), []) := by
    simp [sliceA, q1, q2, q3, hr, List.map_take, List.map_drop]
  unfold effSliceB
  simp only [lenS, List.length_map, h1, h2, Option.isSome_none, Bool.false_and, Bool.false_eq_true, if_false]
  rw [show boundA K none b = some b from rfl]
  simp only [e]
theorem sliceF {α : Type} {f : α → V} {l r : List α} {t : Nat} {T Te : TI} {e es : Nat} {a b : Int} {xo : Operand} {lo1 hi1 : Option Operand} (hm : sub l a b = some r) (hf : ∀ a, (f a).cells.length = es) (hT : C.ty t = some T) (hk : T.kd = .slice e es) (hTe : C.ty e = some Te) (hes : Te.size = es) (hx : kev K xo = some (.sl (l.map f))) (h1 : boundA K lo1 0 = some a) (h2 : boundA K hi1 (l.length : Nat) = some b) : opEff C K H lo nid (.slice t xo lo1 hi1 none) = some ⟨.sl (r.map f), [], []⟩ := by
  simp only [opEff, effSlice, sliceElem, hT, hk, hTe, hx]
  rw [hes]
  exact sliceFE hm hf h1 h2

/-! Own slices. -/
theorem lenO {α : Type} {l : List α} {xo : Operand} {t id : Nat} {T : TI} {e es : Nat} (hT : C.ty t = some T) (hk : T.kd = .slice e es) (hx : kev K xo = some (.osl id 0 l.length)) : opEff C K H lo nid (.call ⟨.builtin .len, #[xo], #[t]⟩) = some ⟨.i (l.length : Nat), [], []⟩ := by
  simp [opEff, effBuiltin, kevs, hx, builtinA, biLen, hT, hk, lenS]
theorem lenN {α : Type} {z : Bool} {l : List α} {xo : Operand} {t id : Nat} {T : TI} {e es : Nat} (hT : C.ty t = some T) (hk : T.kd = .slice e es) (hx : kev K xo = some (ovlz z id l)) : opEff C K H lo nid (.call ⟨.builtin .len, #[xo], #[t]⟩) = some ⟨.i (l.length : Nat), [], []⟩ := by
  cases z with
  | false => exact lenO hT hk hx
  | true => cases l with
    | nil => simp [opEff, effBuiltin, kevs, hx, builtinA, biLen, hT, hk, lenS, ovlz, V.nil]
    | cons => exact lenO hT hk hx
theorem indexO {α : Type} {f : α → V} {l : List α} {a : α} {t id : Nat} {xo io : Operand} {T : TI} {e es : Nat} {m : Int} {ik : IntKind} (hm : ix l m = some a) (hT : C.ty t = some T) (hk : T.kd = .slice e es) (hx : kev K xo = some (.osl id 0 l.length)) (hi : kev K io = some (.lit (.int ik m))) (hH : hget H id = .rows es (l.map f)) : opEff C K H lo nid (.indexAddr t xo io) = some ⟨.ptr id m.toNat 0, [], [id]⟩ := by
  obtain ⟨h0, h1, h2⟩ := ix_of hm
  simp [opEff, effIndexAddr, hT, hx, hi, indexA, hk, h0, h1, hH]
theorem ix_ne {α : Type} {l : List α} {m : Int} {a : α} (hm : ix l m = some a) : l ≠ [] := by
  obtain ⟨h0, h1, h2⟩ := ix_of hm
  rintro rfl
  simp at h2
theorem indexN {α : Type} {z : Bool} {f : α → V} {l : List α} {a : α} {t id : Nat} {xo io : Operand} {T : TI} {e es : Nat} {m : Int} {ik : IntKind} (hm : ix l m = some a) (hT : C.ty t = some T) (hk : T.kd = .slice e es) (hx : kev K xo = some (ovlz z id l)) (hi : kev K io = some (.lit (.int ik m))) (hH : hget H id = oblz z es f l) : opEff C K H lo nid (.indexAddr t xo io) = some ⟨.ptr id m.toNat 0, [], [id]⟩ := by
  rw [ovl_ne (ix_ne hm)] at hx
  rw [obl_ne (ix_ne hm)] at hH
  exact indexO hm hT hk hx hi hH
theorem loadO {α : Type} {f : α → V} {l : List α} {a : α} {t id : Nat} {xo : Operand} {T : TI} {m : Int} {off es : Nat} (hm : ix l m = some a) (hT : C.ty t = some T) (hx : kev K xo = some (.ptr id m.toNat off)) (hH : hget H id = .rows es (l.map f)) (hp : partA T off (f a).cells = some v) : opEff C K H lo nid (.load t xo) = some ⟨v, [], [id]⟩ := by
  obtain ⟨h0, h1, h2⟩ := ix_of hm
  have hg : Am.get (l.map f) m.toNat = some (f a) := by rw [get_eq, List.getElem?_map, h2]; rfl
  simp only [opEff, effLoad, hT, hx, loadA, hH, hg, hp, Option.map_some]
theorem loadN {α : Type} {z : Bool} {f : α → V} {l : List α} {a : α} {t id : Nat} {xo : Operand} {T : TI} {m : Int} {off es : Nat} (hm : ix l m = some a) (hT : C.ty t = some T) (hx : kev K xo = some (.ptr id m.toNat off)) (hH : hget H id = oblz z es f l) (hp : partA T off (f a).cells = some v) : opEff C K H lo nid (.load t xo) = some ⟨v, [], [id]⟩ := by
  rw [obl_ne (ix_ne hm)] at hH
  exact loadO hm hT hx hH hp
theorem storeO {α : Type} {f : α → V} {l : List α} {a b : α} {t id : Nat} {xo yo : Operand} {T : TI} {m : Int} {off es : Nat} (hm : ix l m = some a) (hT : C.ty t = some T) (hx : kev K xo = some (.ptr id m.toNat off)) (hy : kev K yo = some v) (hlo : Nat.ble lo id = true) (hs : sizeOK T v = true) (hH : hget H id = .rows es (l.map f)) (hp : rowSet (f a) off v.cells = some (f b)) : opEff C K H lo nid (.store t xo yo) = some ⟨undefV, [(id, .rows es ((Mx.put l m b).map f))], [id]⟩ := by
  obtain ⟨h0, h1, h2⟩ := ix_of hm
  have hg : Am.get (l.map f) m.toNat = some (f a) := by rw [get_eq, List.getElem?_map, h2]; rfl
  have hlo' : ¬ id < lo := by have := Nat.le_of_ble_eq_true hlo; omega
  simp only [opEff, effStore, hT, hx, hy, storeA, hlo', if_false, hs, if_true, hH, hg, hp, Option.map_some]
  rw [set_eq, Mx.put, List.map_set]
theorem storeN {α : Type} {z : Bool} {f : α → V} {l : List α} {a b : α} {t id : Nat} {xo yo : Operand} {T : TI} {m : Int} {off es : Nat} (hm : ix l m = some a) (hT : C.ty t = some T) (hx : kev K xo = some (.ptr id m.toNat off)) (hy : kev K yo = some v) (hlo : Nat.ble lo id = true) (hs : sizeOK T v = true) (hH : hget H id = oblz z es f l) (hp : rowSet (f a) off v.cells = some (f b)) : opEff C K H lo nid (.store t xo yo) = some ⟨undefV, [(id, oblz z es f (Mx.put l m b))], [id]⟩ := by
  rw [obl_ne (ix_ne hm)] at hH
  rw [obl_ne (put_ne hm)]
  exact storeO hm hT hx hy hlo hs hH hp

end
end X
end Go.Am
