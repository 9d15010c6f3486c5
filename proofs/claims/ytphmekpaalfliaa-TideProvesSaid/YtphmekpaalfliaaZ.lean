/- Rules for walks that a program prints: loops over iterators. Conditions: none. -/
import Derived.Test.YtphmekpaalfliaaY
set_option linter.unusedVariables false
set_option linter.unusedSimpArgs false
namespace Go.Am
open Go Go.Wk Go.RowKit Go.Mx

/-- The record of a loop, in a state. -/
abbrev lr (r : LoopR) (st : LoopState) (pend : Option Code) : Blk := .loop ⟨r.n, r.K, r.ps, r.assign, r.body, st, pend⟩

section
variable {N N0 : Nat} {keep : List (Option Nat)} {K : List (Nat × V)} {H1 r : List Blk} {i j : Nat}

/-- A value that mentions no number from N on. -/
def LowV (N : Nat) (v : V) : Prop := ∃ n, rn N [] n v = some v
theorem rn_low (h : N0 ≤ N) : ∀ (n : Nat) (v v1 : V), rn N0 [] n v = some v1 → rn N keep n v = some v1
  | 0, v, v1, e => by cases e
  | n + 1, v, v1, e => by
    have ih := mapO_imp (fun v v1 h' => rn_low h n v v1 h')
    have hx : ∀ a b, rx N0 [] a = some b → rx N keep a = some b := by
      intro a b hab
      by_cases h1 : a < N0
      · rw [rx_low h1] at hab
        rw [rx_low (show a < N by omega)]; exact hab
      · have := rx_new hab h1
        cases this
    cases v <;> simp only [rn] at e ⊢ <;> first | exact e | skip
    all_goals
      rw [Option.map_eq_some_iff] at e ⊢
      obtain ⟨a, h1, h2⟩ := e
      exact ⟨a, (by first | exact ih _ _ h1 | exact hx _ _ h1), h2⟩
theorem LowV.rv {v : V} (h : N0 ≤ N) (hv : LowV N0 v) : Rv N keep v v := by obtain ⟨n, hn⟩ := hv; exact ⟨n, rn_low h n v v hn⟩
def LowK (N : Nat) (K : List (Nat × V)) : Prop := ∀ t v, kget K t = some v → LowV N v
theorem lowK_nil : LowK N [] := fun t v h => by cases h
theorem lowK_cons {t : Nat} {v : V} (h : LowV N v) (h2 : LowK N K) : LowK N ((t, v) :: K) := fun t' u h' => by
  simp only [kget] at h'
  cases hb : Nat.beq t t' with
  | true =>
    rw [hb] at h'
    simp only [cond_true, Option.some.injEq] at h'
    subst h'
    exact h
  | false => rw [hb] at h'; exact h2 t' u h'
theorem gb_loop {R : LoopR} {st : LoopState} {pend : Option Code} (hl : LowK N0 R.K) (hN : Nat.ble N0 N = true) (hj : rx N keep i = some j) (h1 : hget H1 j = lr R st pend) (h : GB N keep H1 (i + 1) r) : GB N keep H1 i (lr R st pend :: r) :=
  ⟨⟨(by intro h; cases h), fun _ => ⟨j, hj, .inr ⟨_, rfl, h1, fun t v hv => LowV.rv (Nat.le_of_ble_eq_true hN) (hl t v hv)⟩⟩⟩, h⟩
end

namespace X
section
variable {C : Cfg} {N : Nat} {all os : List Oper} {o : Oper} {k : List It} {K K' : List (Nat × V)} {H H' : List Blk} {lo n nid : Nat} {rnd : Option Nat} {Q : Ex → St → Prop} {dst : Option Nat} {d : Nat} {p : Op} {ty : TypeId} {pos : String} {after : Array Edge} {e : Eff} {v : V} {x y : Bool} {g : Option (Nat × Bool)} {wr : List (Nat × Blk)} {rd : List Nat}

/-- A loop over an iterator begins. -/
theorem range {gv : Operand} {ps : Array Tmp} {assign body : Code} {f : Nat} {caps : List V} {c : Code} {fn : Func} (hg : kev K gv = some (.fn f caps)) (hb : bodyOf C f (caps.length + 1) = some (c, fn)) (hlow : LowK H.length K) (hro : rndOK ⟨K, H, lo, rnd, n⟩ = true)
    (h : ∀ r : LoopR, r.n = n → r.K = K → r.ps = ps.toList → r.assign = assign → r.body = body → LowK H.length r.K → GS C (H.length + 1) [.code c] ⟨kargs 0 (.yld H.length :: caps), H ++ [lr r .ready none], lo, none, fn.ntmps⟩ (fun e s' => ∃ v p, finA C fn e s' = some v ∧ endRange H.length e s' ⟨K, H, lo, rnd, n⟩ k = some p ∧ GS C N p.1 p.2 Q)) : GS C N (.code (.rangeFunc gv ps assign body) :: k) ⟨K, H, lo, rnd, n⟩ Q :=
  GS.range (fun p => GS C N p.1 p.2 Q) hg hb hro (h ⟨n, K, ps.toList, assign, body, .ready, none⟩ rfl rfl rfl rfl rfl hlow) (fun p hp => hp)

/-- The iterator yields. -/
theorem yld {id : Nat} {args : List V} {r : LoopR} {K0 K2 : List (Nat × V)} {n0 : Nat} {ps : List Nat} {assign body : Code} (hn : r.n = n0) (hK0 : r.K = K0) (hps0 : r.ps = ps) (has : r.assign = assign) (hbd : r.body = body) (hw : wants all K g = some true) (hc : callee K p = some (.yld id args)) (hg : hget H id = lr r .ready none) (hK : kputs K0 ps args = some K2) (hps : ps.all (fun p => Nat.blt p n0) = true) (hlo : Nat.ble lo id = true)
    (h : GS C H.length [.code assign] ⟨K2, H, lo, some id, n0⟩ (fun e s1 => ∃ s1', beginA id e s1 = some s1' ∧ GS C s1'.H.length [.code body] s1' (fun e s2 => ∃ s3, endRound id e s2 ⟨K, H, lo, rnd, n⟩ (some d) = some s3 ∧ GS C N (.ops all os :: k) s3 Q))) : GS C N (.ops all (⟨some d, p, ty, pos, after, g⟩ :: os) :: k) ⟨K, H, lo, rnd, n⟩ Q := by
  subst hn hK0 hps0 has hbd
  exact GS.yld (r := ⟨r.n, r.K, r.ps, r.assign, r.body, .ready, none⟩) (fun s1' => GS C s1'.H.length [.code r.body] s1' (fun e s2 => ∃ s3, endRound id e s2 ⟨K, H, lo, rnd, n⟩ (some d) = some s3 ∧ GS C N (.ops all os :: k) s3 Q)) (fun s3 => GS C N (.ops all os :: k) s3 Q) hw hc hg hK hps (Nat.le_of_ble_eq_true hlo) h (fun s1' h => h) (fun s3 h => h)
theorem begin' {s1 : St} {id : Nat} {r : LoopR} {c : Code} {Q : Ex → St → Prop} {n0 : Nat} {K0 : List (Nat × V)} (e : s1 = ⟨K0, H, lo, rnd, n0⟩) (hg : hget H id = lr r .ready none) (h : GS C N [.code c] ⟨K0, hput H id (lr r .busy none), lo, rnd, n0⟩ Q) (hN : N = (hput H id (lr r .busy none)).length) : ∃ s1', beginA id .normal s1 = some s1' ∧ GS C s1'.H.length [.code c] s1' Q := by
  subst e
  refine ⟨⟨K0, hput H id (lr r .busy none), lo, rnd, n0⟩, ?_, ?_⟩
  · simp [beginA, hg]
  · subst hN; exact h

/-! For walks by hand. -/
theorem loopI {c : Code} (S : Nat → St) (m : Nat) (step : ∀ i, i < m → GS C N (.inLoop c :: k) (S (i + 1)) Q → GS C N (.code c :: .inLoop c :: k) (S i) Q) (last : GS C N (.code c :: .inLoop c :: k) (S m) Q) : GS C N (.code (.loop c) :: k) (S 0) Q := by
  have key : ∀ j, j ≤ m → GS C N (.code c :: .inLoop c :: k) (S (m - j)) Q := by
    intro j
    induction j with
    | zero => intro _; exact last
    | succ j ih =>
      intro hj
      refine step (m - (j + 1)) (by omega) (.inLoop ?_)
      rw [show m - (j + 1) + 1 = m - j by omega]
      exact ih (by omega)
  have := key m (Nat.le_refl _)
  rw [Nat.sub_self] at this
  exact .loop this
theorem normH {s : St} (K' : List (Nat × V)) (h : GS C N k ⟨K', H', lo, rnd, n⟩ Q) (e : s = ⟨K, H, lo, rnd, n⟩) (hH : H = H') (hK : W.Sub K' K) : GS C N k s Q := by
  subst e hH
  exact GS.drop K' hK h
theorem puts_end {B : Blk} : puts H [(H.length, B)] = H ++ [B] := hput_end H B
theorem hget_end {B : Blk} : hget (H ++ [B]) H.length = B := by simp [hget, get_eq]
theorem puts_end' {B B' : Blk} : puts (H ++ [B]) [(H.length, B')] = H ++ [B'] := by
  simp only [puts]
  induction H with
  | nil => rfl
  | cons x r ih => simp only [List.cons_append, List.length_cons, hput]; rw [ih]
theorem storeEnd {t es : Nat} {T : TI} {z v r : V} {xo yo : Operand} (hT : C.ty t = some T) (hx : kev K xo = some (.ptr H.length 0 0)) (hy : kev K yo = some v) (hs : sizeOK T v = true) (hp : rowSet z 0 v.cells = some r) : opEff C K (H ++ [.rows es [z]]) 0 nid (.store t xo yo) = some ⟨undefV, [(H.length, .rows es [r])], [H.length]⟩ := by
  simp only [opEff, effStore, hT, hx, hy, storeA, Nat.not_lt_zero, if_false, hs, if_true, hget_end, Am.get, hp, Option.map_some, Am.set]
theorem mapPutNew {t id : Nat} {kd : Kd} {Te : TI} {ks vs : List V} {kv vv : V} {mo ko vo : Operand} (hm : mapTI C t = some (kd, Te)) (hkd : keyOK kd kv = true) (h1 : kev K mo = some (.map id)) (h2 : kev K ko = some kv) (h3 : kev K vo = some vv) (hH : hget H id = .map ks vs) (hf : findA kv ks 0 = some none) : opEff C K H 0 nid (.mapUpdate t mo ko vo) = some ⟨undefV, [(id, .map (ins ks (insAt kv ks) kv) (ins vs (insAt kv ks) vv))], [id]⟩ := by
  simp only [opEff, effMapPut, h1, h2, h3, mapPut, hm, hkd, cond_true, Nat.not_lt_zero, if_false, hH, hf]
theorem ins_end {α : Type} : ∀ (l : List α) (x : α), ins l l.length x = l ++ [x]
  | [], x => rfl
  | y :: r, x => by simp [ins, ins_end r x]
theorem insAt_end : ∀ (l : List Int) (i : Int), (∀ j ∈ l, j < i) → insAt (.i i) (l.map V.i) = l.length
  | [], i, _ => rfl
  | j :: r, i, h => by
    simp only [List.map_cons, insAt, h j List.mem_cons_self, decide_true, cond_true, List.length_cons]
    rw [insAt_end r i fun j hj => h j (List.mem_cons_of_mem _ hj)]
theorem findA_miss : ∀ (l : List Int) (i : Int) (k : Nat), i ∉ l → findA (.i i) (l.map V.i) k = some none
  | [], i, k, _ => rfl
  | j :: r, i, k, h => by
    simp only [List.mem_cons, not_or] at h
    simp only [List.map_cons, findA, keyEq, kindEq, if_true, h.1, decide_false]
    exact findA_miss r i (k + 1) h.2
theorem frzMap {id m : Nat} {ks vs a b : List V} (hH : hget H id = .map ks vs) (h1 : mapO (frz H 0 m) ks = some a) (h2 : mapO (frz H 0 m) vs = some b) : frz H 0 (m + 1) (.map id) = some (.fmap a b) := by
  simp only [frz, Nat.not_lt_zero, if_false, hH, h1, h2]
theorem frzFn {f m : Nat} {l a : List V} (h : mapO (frz H 0 m) l = some a) : frz H 0 (m + 1) (.fn f l) = some (.fn f a) := by
  simp only [frz, h, Option.map_some]
theorem frzPtr {id m es off : Nat} {v v' : V} (hH : hget H id = .rows es [v]) (h : frz H 0 m v = some v') : frz H 0 (m + 1) (.ptr id 0 off) = some (.fptr [v'] 0 off) := by
  simp only [frz, Nat.not_lt_zero, if_false, hH, mapO, h, Option.map_some]
theorem mapO1 {α β : Type} {f : α → Option β} {x : α} {y : β} (h : f x = some y) : mapO f [x] = some [y] := by simp only [mapO, h]
theorem loopR {α : Type} {c : Code} {s0 : St} (S : α → St) (R : α → Prop) (μ : α → Nat) (step : ∀ a, R a → (∀ a', R a' → μ a' < μ a → GS C N (.inLoop c :: k) (S a') Q) → GS C N (.code c :: .inLoop c :: k) (S a) Q) (a : α) (ha : R a) (e : S a = s0 := by rfl) : GS C N (.code (.loop c) :: k) s0 Q := by
  subst e
  have key : ∀ m a, μ a < m → R a → GS C N (.code c :: .inLoop c :: k) (S a) Q := by
    intro m
    induction m with
    | zero => intro a h; omega
    | succ m ih => exact fun a h hr => step a hr fun a' hr' hlt => .inLoop (ih a' (by omega) hr')
  exact .loop (key _ a (Nat.lt_succ_self _) ha)
theorem insAt_app : ∀ (A B : List Int) (i : Int), (∀ j ∈ A, j < i) → (∀ j ∈ B, ¬ j < i) → insAt (.i i) ((A ++ B).map V.i) = A.length
  | [], [], i, _, _ => rfl
  | [], b :: r, i, _, h => by simp [insAt, h b List.mem_cons_self]
  | a :: r, B, i, h, h2 => by
    simp only [List.cons_append, List.map_cons, insAt, h a List.mem_cons_self, decide_true, cond_true, List.length_cons]
    rw [insAt_app r B i (fun j hj => h j (List.mem_cons_of_mem _ hj)) h2]
theorem ins_app {α : Type} : ∀ (A B : List α) (x : α), ins (A ++ B) A.length x = A ++ x :: B
  | [], [], x => rfl
  | [], b :: r, x => rfl
  | a :: r, B, x => by simp [ins, ins_app r B x]
theorem gb_map {keep : List (Option Nat)} {H1 : List Blk} {i j : Nat} {r : List Blk} {l1 l2 : List Int} (hj : rx N keep i = some j) (h1 : hget H1 j = .map (l1.map V.i) (l2.map V.i)) (h : GB N keep H1 (i + 1) r) : GB N keep H1 i (.map (l1.map V.i) (l2.map V.i) :: r) :=
  gb_cons hj h1 (by intro h; cases h) (fun _ => ⟨1, by simp only [rnB]; rw [mapO_self (g := rn N keep 1) (f := V.i) (fun _ => rfl), mapO_self (g := rn N keep 1) (f := V.i) (fun _ => rfl)]⟩) h
theorem gb_iter {keep : List (Option Nat)} {H1 : List Blk} {i j : Nat} {r : List Blk} {ks vs : List V} {left : List Nat} {last : Option Nat} (hj : rx N keep i = some j) (h1 : hget H1 j = .iter ks vs left last) (h : GB N keep H1 (i + 1) r) : GB N keep H1 i (.iter ks vs left last :: r) :=
  gb_cons hj h1 (by intro h; cases h) (fun _ => ⟨1, rfl⟩) h
theorem next {x : Operand} {id : Nat} {ks vs : List V} {left : List Nat} {last : Option Nat} (hw : wants all K g = some true) (hx : kev K x = some (.ptr id 0 0)) (hg : hget H id = .iter ks vs left last) (hlo : Nat.ble lo id = true) (hd : Nat.blt d n = true)
    (h1 : left = [] → GS C N (.ops all os :: k) ⟨(d, .tup [.b false]) :: K, H, lo, rnd, n⟩ Q) (h2 : ∀ j kv vv, j ∈ left → get ks j = some kv → get vs j = some vv → GS C N (.ops all os :: k) ⟨(d, .tup [.b true, kv, vv]) :: K, hput H id (.iter ks vs (left.filter (· ≠ j)) (some j)), lo, rnd, n⟩ Q) : GS C N (.ops all (⟨some d, .next x false, ty, pos, after, g⟩ :: os) :: k) ⟨K, H, lo, rnd, n⟩ Q :=
  GS.next rfl hw hx hg (Nat.le_of_ble_eq_true hlo) (fun h => front rfl hd (h1 h) rfl) (fun j kv vv q1 q2 q3 => front rfl hd (h2 j kv vv q1 q2 q3) rfl)
theorem entry {x : Operand} {id j : Nat} {ks vs : List V} {left : List Nat} {kv vv : V} (hw : wants all K g = some true) (hx : kev K x = some (.ptr id 0 0)) (hg : hget H id = .iter ks vs left (some j)) (hk : get ks j = some kv) (hv : get vs j = some vv) (hd : Nat.blt d n = true)
    (h : GS C N (.ops all os :: k) ⟨(d, .tup [kv, vv]) :: K, H, lo, rnd, n⟩ Q) : GS C N (.ops all (⟨some d, .entry x, ty, pos, after, g⟩ :: os) :: k) ⟨K, H, lo, rnd, n⟩ Q :=
  GS.entry rfl hw hx hg hk hv (front rfl hd h rfl)
end
end X
end Go.Am
