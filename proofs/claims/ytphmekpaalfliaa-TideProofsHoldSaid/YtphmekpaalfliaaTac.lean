/- A tactic that walks. Conditions: none. -/
import Derived.Laws.Closers25
import Derived.Test.YtphmekpaalfliaaWlk
set_option linter.unusedVariables false
set_option linter.unusedSimpArgs false
namespace Go.Am
open Go Go.Wk Go.RowKit

namespace W
section
variable {C : Cfg} {all os : List Oper} {o : Oper} {k : List It} {K : List (Nat × V)} {H H' : List Blk} {lo n nid : Nat} {rnd : Option Nat} {Q : Ex → St → Prop} {d : Nat} {p : Op} {ty : TypeId} {pos : String} {after : Array Edge} {v v' : V} {x y : Bool} {wr : List (Nat × Blk)} {rd : List Nat}

theorem opR (he : opEff C K H lo H.length p = some ⟨v, [], rd⟩) (hd : Nat.blt d n = true) (h : Gm C (.ops all os :: k) ⟨(d, v) :: K, H, lo, rnd, n⟩ Q) : Gm C (.ops all (⟨some d, p, ty, pos, after, none⟩ :: os) :: k) ⟨K, H, lo, rnd, n⟩ Q := op he hd h
theorem opW (he : opEff C K H lo H.length p = some ⟨v, wr, rd⟩) (hH : puts H wr = H') (hd : Nat.blt d n = true) (h : Gm C (.ops all os :: k) ⟨(d, v) :: K, H', lo, rnd, n⟩ Q) : Gm C (.ops all (⟨some d, p, ty, pos, after, none⟩ :: os) :: k) ⟨K, H, lo, rnd, n⟩ Q := op he hd (by subst hH; exact h)
theorem op0W (he : opEff C K H lo H.length p = some ⟨v, wr, rd⟩) (hH : puts H wr = H') (h : Gm C (.ops all os :: k) ⟨K, H', lo, rnd, n⟩ Q) : Gm C (.ops all (⟨none, p, ty, pos, after, none⟩ :: os) :: k) ⟨K, H, lo, rnd, n⟩ Q := op0 he (by subst hH; exact h)
theorem gopR {g : Nat × Bool} (hg : wants all K (some g) = some x) (he : x = true → opEff C K H lo H.length p = some ⟨v, [], rd⟩) (hd : Nat.blt d n = true) (h : Gm C (.ops all os :: k) ⟨(d, gv x v) :: K, H, lo, rnd, n⟩ Q) : Gm C (.ops all (⟨some d, p, ty, pos, after, some g⟩ :: os) :: k) ⟨K, H, lo, rnd, n⟩ Q := gop hg (fun h => ⟨_, he h⟩) hd h

/-- As an operation's effect: with the value told otherwise. -/
theorem eff_eq (he : opEff C K H lo nid p = some ⟨v, wr, rd⟩) (hv : v = v') : opEff C K H lo nid p = some ⟨v', wr, rd⟩ := by rw [← hv]; exact he

theorem addE {t t2 : Nat} {a b : Int} {xo yo : Operand} (hx : kev K xo = some (.i a)) (hy : kev K yo = some (.i b)) (h : -9223372036854775808 ≤ a + b ∧ a + b ≤ 9223372036854775807) : opEff C K H lo nid (.binOp .add t xo yo t2) = some ⟨.i (a + b), [], []⟩ := by
  simp [opEff, effBin, hx, hy, binA, kindEq, intA, pureO, wrap64 h.1 h.2]
theorem subE {t t2 : Nat} {a b : Int} {xo yo : Operand} (hx : kev K xo = some (.i a)) (hy : kev K yo = some (.i b)) (h : -9223372036854775808 ≤ a - b ∧ a - b ≤ 9223372036854775807) : opEff C K H lo nid (.binOp .sub t xo yo t2) = some ⟨.i (a - b), [], []⟩ := by
  simp [opEff, effBin, hx, hy, binA, kindEq, intA, pureO, wrap64 h.1 h.2]
theorem mulE {t t2 : Nat} {a b : Int} {xo yo : Operand} (hx : kev K xo = some (.i a)) (hy : kev K yo = some (.i b)) (h : -9223372036854775808 ≤ a * b ∧ a * b ≤ 9223372036854775807) : opEff C K H lo nid (.binOp .mul t xo yo t2) = some ⟨.i (a * b), [], []⟩ := by
  simp [opEff, effBin, hx, hy, binA, kindEq, intA, pureO, wrap64 h.1 h.2]

theorem wrapE {a : Int} {b : Int} (hw : a = b) (h : -9223372036854775808 ≤ b ∧ b ≤ 9223372036854775807) : V.lit (.int .i64 (IntKind.wrap .i64 a)) = V.i b := by rw [hw, wrap64 h.1 h.2]

theorem get_map {α : Type} {f : α → V} {l : List α} {i : Nat} (d : α) (h : i < l.length) : Am.get (l.map f) i = some (f (l.getD i d)) := by
  rw [get_eq, List.getElem?_map, List.getD_eq_getElem?_getD]
  simp [h]

theorem indexMap {α : Type} {f : α → V} {l : List α} {t : Nat} {xo io : Operand} {T : TI} {e es : Nat} {m : Int} {ik : IntKind} (hT : C.ty t = some T) (hk : T.kd = .slice e es) (hx : kev K xo = some (.sl (l.map f))) (hi : kev K io = some (.lit (.int ik m))) (hf : ∀ a, (f a).cells.length = es) (h0 : 0 ≤ m) (h1 : m < l.length) : opEff C K H lo nid (.indexAddr t xo io) = some ⟨.fptr (l.map f) m.toNat 0, [], []⟩ := by
  have hlt : m.toNat < l.length := by omega
  have hg : Am.get (l.map f) m.toNat = some (f (l[m.toNat])) := by rw [get_eq, List.getElem?_map]; simp [hlt]
  simp [opEff, effIndexAddr, hT, hx, hi, indexA, hk, h0, h1, hg, rowOK, hf]

theorem indexNat {α : Type} {f : α → V} {l : List α} {t : Nat} {xo io : Operand} {T : TI} {e es : Nat} {i : Nat} {ik : IntKind} (hT : C.ty t = some T) (hk : T.kd = .slice e es) (hx : kev K xo = some (.sl (l.map f))) (hi : kev K io = some (.lit (.int ik (i : Nat)))) (hf : ∀ a, (f a).cells.length = es) (h1 : i < l.length) : opEff C K H lo nid (.indexAddr t xo io) = some ⟨.fptr (l.map f) i 0, [], []⟩ := by
  have := indexMap (lo := lo) (nid := nid) (H := H) hT hk hx hi hf (by omega) (by omega)
  simpa using this

theorem loadMap {α : Type} {f : α → V} {l : List α} (d : α) {t : Nat} {xo : Operand} {T : TI} {i off : Nat} (hT : C.ty t = some T) (hx : kev K xo = some (.fptr (l.map f) i off)) (h1 : i < l.length) (hp : partA T off (f (l.getD i d)).cells = some v) : opEff C K H lo nid (.load t xo) = some ⟨v, [], []⟩ := by
  simp only [opEff, effLoad, hT, hx, loadA, get_map d h1, hp, Option.map_some]

theorem lenMap {α : Type} {f : α → V} {l : List α} {xo : Operand} {t : Nat} {T : TI} {e es : Nat} (hT : C.ty t = some T) (hk : T.kd = .slice e es) (hx : kev K xo = some (.sl (l.map f))) : opEff C K H lo nid (.call ⟨.builtin .len, #[xo], #[t]⟩) = some ⟨.i (l.length : Nat), [], []⟩ := by
  simp [opEff, effBuiltin, kevs, hx, builtinA, biLen, hT, hk, lenS]

theorem quo {t t2 : Nat} {a b : Int} {xo yo : Operand} (hx : kev K xo = some (.i a)) (hy : kev K yo = some (.i b)) (h0 : -9223372036854775808 ≤ a) (h1 : a ≤ 9223372036854775807) (hb : 1 ≤ b) : opEff C K H lo nid (.binOp .quo t xo yo t2) = some ⟨.i (a.tdiv b), [], []⟩ := by
  have hb0 : b ≠ 0 := by omega
  have := wrap_i64_tdiv a b h0 h1 hb
  simp [opEff, effBin, hx, hy, binA, kindEq, intA, hb0, pureO, this]
theorem rem {t t2 : Nat} {a b : Int} {xo yo : Operand} (hx : kev K xo = some (.i a)) (hy : kev K yo = some (.i b)) (hb : b ≠ 0) : opEff C K H lo nid (.binOp .rem t xo yo t2) = some ⟨.i (a.tmod b), [], []⟩ := by
  simp [opEff, effBin, hx, hy, binA, kindEq, intA, hb, pureO]

/-! ### Loops -/

def Sub (K' K : List (Nat × V)) : Prop := ∀ t v, kget K' t = some v → kget K t = some v
theorem sub_nil : Sub [] K := fun t v h => by cases h
theorem sub_cons {K' : List (Nat × V)} {t : Nat} (h : kget K t = some v) (h2 : Sub K' K) : Sub ((t, v) :: K') K := fun t' u h' => by
  simp only [kget] at h'
  cases hb : Nat.beq t t' with
  | true =>
    rw [hb] at h'
    simp only [cond_true, Option.some.injEq] at h'
    rw [← Nat.eq_of_beq_eq_true hb, ← h']; exact h
  | false => rw [hb] at h'; exact h2 t' u h'

theorem loopK {α : Type} {c : Code} (Kf : α → List (Nat × V)) (R : α → Prop) (μ : α → Nat) (a : α) (ha : R a) (hK : Sub (Kf a) K) (step : ∀ a, R a → (∀ a' K2, R a' → μ a' < μ a → Sub (Kf a') K2 → Gm C (.inLoop c :: k) ⟨K2, H, lo, rnd, n⟩ Q) → Gm C (.code c :: .inLoop c :: k) ⟨Kf a, H, lo, rnd, n⟩ Q) : Gm C (.code (.loop c) :: k) ⟨K, H, lo, rnd, n⟩ Q := by
  have key : ∀ (m : Nat) (a : α), μ a < m → R a → Gm C (.code c :: .inLoop c :: k) ⟨Kf a, H, lo, rnd, n⟩ Q := by
    intro m
    induction m with
    | zero => intro a h; omega
    | succ m ih => exact fun a h hr => step a hr fun a' K2 hr' hlt hs => .inLoop (.drop (Kf a') hs (ih a' (by omega) hr'))
  exact .loop (.drop (Kf a) hK (key _ a (Nat.lt_succ_self _) ha))

/-- With blocks that turn. -/
theorem loopS {α : Type} {c : Code} (S : α → St) (R : α → Prop) (μ : α → Nat) (a : α) (ha : R a) (hK : Sub (S a).K K) (hS : S a = ⟨(S a).K, H, lo, rnd, n⟩) (step : ∀ a, R a → (∀ a' K2, R a' → μ a' < μ a → Sub (S a').K K2 → Gm C (.inLoop c :: k) { S a' with K := K2 } Q) → Gm C (.code c :: .inLoop c :: k) (S a) Q) : Gm C (.code (.loop c) :: k) ⟨K, H, lo, rnd, n⟩ Q := by
  have key : ∀ (m : Nat) (a : α), μ a < m → R a → Gm C (.code c :: .inLoop c :: k) (S a) Q := by
    intro m
    induction m with
    | zero => intro a h; omega
    | succ m ih => exact fun a h hr => step a hr fun a' K2 hr' hlt hs => .inLoop (.drop (S a').K hs (ih a' (by omega) hr'))
  have := key _ a (Nat.lt_succ_self _) ha
  rw [hS] at this
  exact .loop (.drop (S a).K hK this)

/-- No number at or beyond N is mentioned. -/
def Low (N : Nat) (K : List (Nat × V)) : Prop := ∀ t v, kget K t = some v → ∃ n, ren N [] n v = some v
theorem low_nil {N : Nat} : Low N [] := fun t v h => by cases h
theorem low_cons {N t : Nat} (f : Nat) (h : ren N [] f v = some v) (h2 : Low N K) : Low N ((t, v) :: K) := fun t' u h' => by
  simp only [kget] at h'
  cases hb : Nat.beq t t' with
  | true =>
    rw [hb] at h'
    simp only [cond_true, Option.some.injEq] at h'
    rw [← h']; exact ⟨f, h⟩
  | false => rw [hb] at h'; exact h2 t' u h'
def LowH (N : Nat) : List Blk → Prop
  | [] => True
  | B :: r => B ≠ .free ∧ (B.live = true → ∃ n, renB N [] n B = some B) ∧ LowH N r
theorem LowH.get {N : Nat} : ∀ {H : List Blk} {id : Nat} {B : Blk}, LowH N H → Am.get H id = some B → B ≠ .free ∧ (B.live = true → ∃ n, renB N [] n B = some B)
  | [], _, _, _, h => by cases h
  | A :: r, 0, B, h, hg => by simp only [Am.get, Option.some.injEq] at hg; subst hg; exact ⟨h.1, h.2.1⟩
  | A :: r, id + 1, B, h, hg => LowH.get h.2.2 (id := id) hg

theorem cutOK_take {s1 : St} (hH : LowH H.length H) (ht : s1.H.take H.length = H) {K' : List (Nat × V)} (hl : Low H.length K') (hs : Sub K' s1.K) : CutOK H.length s1 [] K' H where
  new := fun id h => by cases h
  nodup := List.nodup_nil
  len := rfl
  slots := fun t v h => let ⟨n, hn⟩ := hl t v h; ⟨n, v, hn, hs t v h⟩
  blocks := fun id B hB hlv => by
    obtain ⟨n, hn⟩ := (hH.get hB).2 hlv
    have hlt := get_lt hB
    refine ⟨n, id, rid_low hlt, ?_⟩
    have : Am.get s1.H id = some B := by
      have e : (s1.H.take H.length)[id]? = s1.H[id]? := by rw [List.getElem?_take, if_pos hlt]
      rw [ht] at e
      rw [get_eq] at hB ⊢
      rw [← e]; exact hB
    rw [hn]
    unfold hget
    rw [this]
  low := fun id _ hid => by
    have e : (s1.H.take H.length)[id]? = s1.H[id]? := by rw [List.getElem?_take, if_pos hid]
    rw [ht] at e
    rw [get_eq, get_eq, e]
  nofree := fun id h => (hH.get h).1 rfl

open Classical in
/-- A loop whose rounds make blocks that are forgotten. -/
theorem loopC {α : Type} {c : Code} {id : Nat} {k' : List It} (Kf : α → List (Nat × V)) (R X : α → Prop) (μ : α → Nat) (a : α) (ha : R a) (hK : Sub (Kf a) K) (hp : popTo id k = some k') (hlow : ∀ a, Low H.length (Kf a)) (hH : LowH H.length H)
    (body : ∀ a, R a → Gm C [.code c] ⟨Kf a, H, lo, rnd, n⟩ (fun e s1 => match e with
      | .normal => s1.H.take H.length = H ∧ ∃ a', R a' ∧ μ a' < μ a ∧ Sub (Kf a') s1.K
      | .ret => Q .ret s1
      | .exit i => i = id ∧ s1.H.take H.length = H ∧ ∃ a', X a' ∧ Sub (Kf a') s1.K))
    (out : ∀ a, X a → Gm C k' ⟨Kf a, H, lo, rnd, n⟩ Q) : Gm C (.code (.loop c) :: k) ⟨K, H, lo, rnd, n⟩ Q := by
  have key : ∀ (m : Nat) (a : α), μ a < m → R a → Gm C (.code c :: .inLoop c :: k) ⟨Kf a, H, lo, rnd, n⟩ Q := by
    intro m
    induction m with
    | zero => intro a h; omega
    | succ m ih =>
      intro a h hr
      let PN : St → α → Prop := fun s1 a' => R a' ∧ μ a' < μ a ∧ Sub (Kf a') s1.K
      let PX : St → α → Prop := fun s1 a' => X a' ∧ Sub (Kf a') s1.K
      let KK : Ex → St → List (Nat × V) := fun e s1 => match e with
        | .normal => if h : ∃ a', PN s1 a' then Kf h.choose else []
        | .exit _ => if h : ∃ a', PX s1 a' then Kf h.choose else []
        | .ret => []
      refine .cut _ (fun _ _ => []) KK (fun _ _ => H) (body a hr) (fun e s1 hq hne => ?_) (fun s1 hq => hq) (fun s1 hq => ?_) (fun i k2 s1 hp2 hq => ?_) (fun i s1 hp2 hq => ?_)
      · cases e with
        | normal =>
          have hex : ∃ a', PN s1 a' := hq.2
          have hk : KK .normal s1 = Kf hex.choose := dif_pos hex
          rw [hk]
          exact cutOK_take hH hq.1 (hlow _) hex.choose_spec.2.2
        | exit i =>
          have hex : ∃ a', PX s1 a' := hq.2.2
          have hk : KK (.exit i) s1 = Kf hex.choose := dif_pos hex
          rw [hk]
          exact cutOK_take hH hq.2.1 (hlow _) hex.choose_spec.2
        | ret => exact absurd rfl hne
      · have hex : ∃ a', PN s1 a' := hq.2
        have hk : KK .normal s1 = Kf hex.choose := dif_pos hex
        rw [hk]
        exact .inLoop (ih _ (by have := hex.choose_spec.2.1; omega) hex.choose_spec.1)
      · have hex : ∃ a', PX s1 a' := hq.2.2
        have hk : KK (.exit i) s1 = Kf hex.choose := dif_pos hex
        rw [hk]
        have hi : i = id := hq.1
        subst hi
        have : k2 = k' := by simp only [popTo] at hp2; rw [hp] at hp2; exact (Option.some.inj hp2).symm
        subst this
        exact out _ hex.choose_spec.1
      · have hi : i = id := hq.1
        subst hi
        simp only [popTo] at hp2
        rw [hp] at hp2
        cases hp2
  exact .loop (.drop (Kf a) hK (key _ a (Nat.lt_succ_self _) ha))

/-- A call that is known, over what the call's own blocks hold; it hands back a plain value. -/
theorem callF {f : Nat} {args args' : List V} {m : Nat} (hc : callee K p = some (.fn f args)) (ha : CloArgs H true args args') (hX : C.X f args' v) (hf : flat m v = true) (hd : Nat.blt d n = true) (h : Gm C (.ops all os :: k) ⟨(d, v) :: K, H, lo, rnd, n⟩ Q) : Gm C (.ops all (⟨some d, p, ty, pos, after, none⟩ :: os) :: k) ⟨K, H, lo, rnd, n⟩ Q :=
  .ext (fl := true) rfl hc ha hX (fun _ => ⟨m, hf⟩) (front rfl hd h rfl)

theorem drop_cons {α : Type} {l : List α} {i : Nat} (d : α) (h : i < l.length) : l.drop i = l.getD i d :: l.drop (i + 1) := by
  rw [List.getD_eq_getElem?_getD, List.getElem?_eq_getElem h]
  exact List.drop_eq_getElem_cons h

end
end W
end Go.Am
