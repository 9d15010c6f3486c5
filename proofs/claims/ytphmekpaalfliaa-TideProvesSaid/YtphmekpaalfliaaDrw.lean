/- Regions that draw their order: what holds in the text's order holds in every other. Conditions: none. -/
import Derived.Test.YtphmekpaalfliaaRng
import Derived.Test.YtphmekpaalfliaaLoc
set_option linter.unusedVariables false
set_option linter.unusedSimpArgs false
namespace Go.Am
open Go Go.Wk Go.RowKit

structure Ent where
  i : Nat
  nid : Nat
  o : Oper
  e : Eff
  d : Option CallD
def Ent.rd (x : Ent) : List Nat := rdOf x.o x.nid x.e
def Ent.wr (x : Ent) : List Nat := wrIds x.e.wr

structure Apart (all : List Oper) (x y : Ent) : Prop where
  wr : ∀ id, id ∈ x.wr → id ∉ y.rd
  ww : ∀ id, id ∈ x.wr → id ∉ y.wr
  rw : ∀ id, id ∈ y.wr → id ∉ x.rd
  dx : ∀ t, x.o.dst = some t → t ∉ opTmps all y.o
  dd : ∀ t, x.o.dst = some t → y.o.dst ≠ some t
  dy : ∀ t, y.o.dst = some t → t ∉ opTmps all x.o

def Ok2 (all : List Oper) (x y : Ent) : Prop := x.i < y.i ∧ (waitsT all all.length y.i x.i = true ∨ Apart all x y)

structure Eqv (s s' : St) : Prop where
  H : s'.H = s.H
  lo : s'.lo = s.lo
  rnd : s'.rnd = s.rnd
  n : s'.n = s.n
  K : ∀ t, kget s'.K t = kget s.K t

theorem Eqv.rfl' (s : St) : Eqv s s := ⟨rfl, rfl, rfl, rfl, fun _ => rfl⟩
theorem Eqv.tr {a b c : St} (h : Eqv a b) (k : Eqv b c) : Eqv a c := ⟨k.H.trans h.H, k.lo.trans h.lo, k.rnd.trans h.rnd, k.n.trans h.n, fun t => (k.K t).trans (h.K t)⟩

inductive Seq (C : Cfg) (all : List Oper) : List Ent → St → St → Prop where
  | nil {s s' : St} : Eqv s s' → Seq C all [] s s'
  | cons {x : Ent} {r : List Ent} {s s' : St} : DStep C all x.o x.nid s x.e x.d → Seq C all r (s.eff x.o.dst x.e) s' → Seq C all (x :: r) s s'

/-! ### States behind an operation -/

theorem eff_lo (s : St) (d : Option Nat) (e : Eff) : (s.eff d e).lo = s.lo := by
  unfold St.eff St.put; cases d with
  | none => rfl
  | some d => simp only; cases Nat.blt d s.n <;> rfl
theorem eff_rnd (s : St) (d : Option Nat) (e : Eff) : (s.eff d e).rnd = s.rnd := by
  unfold St.eff St.put; cases d with
  | none => rfl
  | some d => simp only; cases Nat.blt d s.n <;> rfl
theorem eff_n (s : St) (d : Option Nat) (e : Eff) : (s.eff d e).n = s.n := by
  unfold St.eff St.put; cases d with
  | none => rfl
  | some d => simp only; cases Nat.blt d s.n <;> rfl
theorem eff_H (s : St) (d : Option Nat) (e : Eff) : (s.eff d e).H = puts s.H e.wr := by
  unfold St.eff St.put; cases d with
  | none => rfl
  | some d => simp only; cases Nat.blt d s.n <;> rfl
theorem eff_K (s : St) (d : Option Nat) (e : Eff) (t : Nat) : kget (s.eff d e).K t = if d = some t ∧ t < s.n then some e.v else kget s.K t := by
  unfold St.eff St.put
  cases d with
  | none => simp
  | some d =>
    simp only
    cases hb : Nat.blt d s.n with
    | true =>
      have hd : d < s.n := by simpa using hb
      simp only [cond_true, kget_put, Option.some.injEq]
      by_cases h : d = t
      · subst h; simp [hd]
      · simp [h]
    | false =>
      have hd : ¬ d < s.n := fun h => by
        have : Nat.blt d s.n = true := by simpa using h
        rw [hb] at this; cases this
      simp only [cond_false, Option.some.injEq]
      rw [if_neg]
      rintro ⟨rfl, h⟩
      exact hd h

theorem puts_length : ∀ (wr : List (Nat × Blk)) (H : List Blk), (∀ id, id ∈ wrIds wr → id < H.length) → (puts H wr).length = H.length
  | [], _, _ => rfl
  | (i, B) :: r, H, h => by
    simp only [puts]
    have hi : i < H.length := h i (by simp [wrIds])
    have hl : (hput H i B).length = H.length := by rw [hput_length _ _ _ (Nat.le_of_lt hi)]; omega
    rw [puts_length r _ (fun id hid => by rw [hl]; exact h id (by simp [wrIds, hid]))]
    exact hl

theorem puts_get : ∀ (wr : List (Nat × Blk)) (H : List Blk) (j : Nat), (∀ id, id ∈ wrIds wr → id < H.length) → j ∉ wrIds wr → get (puts H wr) j = get H j
  | [], _, _, _, _ => rfl
  | (i, B) :: r, H, j, h, hj => by
    simp only [puts]
    have hi : i < H.length := h i (by simp [wrIds])
    have hl : (hput H i B).length = H.length := by rw [hput_length _ _ _ (Nat.le_of_lt hi)]; omega
    simp only [wrIds, List.mem_cons, not_or] at hj
    rw [puts_get r _ j (fun id hid => by rw [hl]; exact h id (by simp [wrIds, hid])) hj.2, get_hput _ _ _ _ (Nat.le_of_lt hi), if_neg (fun e => hj.1 e.symm)]

theorem list_ext' {l l' : List Blk} (h : ∀ i, get l i = get l' i) : l = l' := List.ext_getElem? fun i => by have := h i; rwa [get_eq, get_eq] at this

theorem hput_comm {H : List Blk} {i j : Nat} {A B : Blk} (hi : i < H.length) (hj : j < H.length) (hne : i ≠ j) : hput (hput H i A) j B = hput (hput H j B) i A := by
  have h1 : (hput H i A).length = H.length := by rw [hput_length _ _ _ (Nat.le_of_lt hi)]; omega
  have h2 : (hput H j B).length = H.length := by rw [hput_length _ _ _ (Nat.le_of_lt hj)]; omega
  refine list_ext' fun k => ?_
  rw [get_hput _ _ _ _ (by omega), get_hput _ _ _ _ (by omega), get_hput _ _ _ _ (by omega), get_hput _ _ _ _ (by omega)]
  by_cases e1 : j = k
  · subst e1; simp [hne]
  · simp [e1]

theorem puts_hput : ∀ (wr : List (Nat × Blk)) (H : List Blk) (j : Nat) (B : Blk), (∀ id, id ∈ wrIds wr → id < H.length) → j < H.length → j ∉ wrIds wr → puts (hput H j B) wr = hput (puts H wr) j B
  | [], _, _, _, _, _, _ => rfl
  | (i, A) :: r, H, j, B, h, hj, hn => by
    simp only [puts]
    have hi : i < H.length := h i (by simp [wrIds])
    simp only [wrIds, List.mem_cons, not_or] at hn
    have hl : (hput H i A).length = H.length := by rw [hput_length _ _ _ (Nat.le_of_lt hi)]; omega
    rw [hput_comm hj hi hn.1]
    exact puts_hput r _ j B (fun id hid => by rw [hl]; exact h id (by simp [wrIds, hid])) (by omega) hn.2

theorem puts_comm : ∀ (wr wr' : List (Nat × Blk)) (H : List Blk), (∀ id, id ∈ wrIds wr → id < H.length) → (∀ id, id ∈ wrIds wr' → id < H.length) → (∀ id, id ∈ wrIds wr → id ∉ wrIds wr') → puts (puts H wr) wr' = puts (puts H wr') wr
  | [], _, _, _, _, _ => rfl
  | (i, A) :: r, wr', H, h, h', hd => by
    simp only [puts]
    have hi : i < H.length := h i (by simp [wrIds])
    have hl : (hput H i A).length = H.length := by rw [hput_length _ _ _ (Nat.le_of_lt hi)]; omega
    rw [puts_comm r wr' _ (fun id hid => by rw [hl]; exact h id (by simp [wrIds, hid])) (fun id hid => by rw [hl]; exact h' id hid) (fun id hid => hd id (by simp [wrIds, hid]))]
    rw [puts_hput wr' H i A h' hi (hd i (by simp [wrIds]))]

/-! ### Steps rest on what they look at -/

theorem liveIds_mem : ∀ (H : List Blk) (k id : Nat) (B : Blk), get H id = some B → B.live = true → (id + k) ∈ liveIds H k
  | [], _, _, _, h, _ => by cases h
  | A :: r, k, 0, B, h, hl => by
    simp only [get, Option.some.injEq] at h
    subst h
    cases A <;> first | (cases hl; done) | simp [liveIds]
  | A :: r, k, id + 1, B, h, hl => by
    have := liveIds_mem r (k + 1) id B h hl
    rw [show id + 1 + k = id + (k + 1) by omega]
    cases A <;> simp [liveIds, this]

theorem wants_loc {all : List Oper} {o : Oper} {K K' : List (Nat × V)} (h : ∀ t, t ∈ opTmps all o → kget K' t = kget K t) : wants all K' o.guard = wants all K o.guard := by
  unfold wants
  split
  · rfl
  · rename_i j want hg
    cases hj : get all j with
    | none => rfl
    | some o' =>
      simp only
      cases ht : o'.dst with
      | none => rfl
      | some t =>
        simp only
        rw [h t (by simp [opTmps, hg, hj, ht])]

theorem ksame_of {all : List Oper} {o : Oper} {K K' : List (Nat × V)} (h : ∀ t, t ∈ opTmps all o → kget K' t = kget K t) : KSame K K' o.op.operands.toList := fun x hx => by
  cases x with
  | tmp t =>
    show kget K' t = kget K t
    refine h t ?_
    unfold opTmps
    refine List.mem_append_left _ ?_
    rw [List.mem_filterMap]
    exact ⟨_, hx, rfl⟩
  | const c => cases c <;> rfl
  | func f => rfl
  | global g => rfl

theorem DStep.loc {C : Cfg} {all : List Oper} {o : Oper} {nid : Nat} {s s' : St} {e : Eff} {d : Option CallD} (h : DStep C all o nid s e d) (hK : ∀ t, t ∈ opTmps all o → kget s'.K t = kget s.K t) (hH : Same s.H s'.H (rdOf o nid e)) (hlen : s'.H.length = s.H.length) (hlo : s'.lo = s.lo) : DStep C all o nid s' e d := by
  have hw := wants_loc hK
  have hk := ksame_of hK
  have hrd : Same s.H s'.H e.rd := fun id hid => hH id (by unfold rdOf; cases allocs o.op <;> simp [hid])
  cases h with
  | skip h1 => exact .skip (by rw [hw]; exact h1)
  | op h1 h2 h3 h4 =>
    refine .op (by rw [hw]; exact h1) (by rw [hlo]; exact opEff_loc hk hrd h2) (fun ha => ?_) (fun id hid => by rw [hlen]; exact h4 id hid)
    have h5 := h3 ha
    have h6 := hH nid (by unfold rdOf; rw [ha]; simp)
    have h7 : hget s.H nid = .free := by unfold hget; rw [h5]
    rw [h7] at h6
    unfold hget at h6
    cases hg : get s'.H nid with
    | none => rw [hg] at h6; cases h6
    | some B => rw [hg] at h6; simp only at h6; rw [h6]
  | ext h1 h2 h3 h4 => exact .ext (by rw [hw]; exact h1) (by rw [callee_loc hk]; exact h2) h3 h4
  | extF h1 h2 h4 h5 h6 h7 =>
    refine .extF (by rw [hw]; exact h1) (by rw [callee_loc hk]; exact h2) ⟨h4.1.trans hlen.symm, fun id B hB hl => ?_⟩ h5 h6 h7
    have g5 := hrd id (by simpa using liveIds_mem _ 0 id B hB hl)
    have g6 := h4.2 id B hB hl
    have g7 : hget s.H id = B := by unfold hget; rw [g6]
    exact hget_of (g5.trans g7) hl
  | clo h1 h2 h3 h4 => exact .clo (by rw [hw]; exact h1) (by rw [callee_loc hk]; exact h2) h3 h4
  | sub h1 h2 h3 h4 =>
    refine .sub (by rw [hw]; exact h1) (by rw [callee_loc hk]; exact h2) h3 ⟨h4.1.trans hlen.symm, fun id B hB hl => ?_, h4.2.2⟩
    have h5 := hrd id (by simpa using liveIds_mem _ 0 id B hB hl)
    have h6 := h4.2.1 id B hB hl
    have h7 : hget s.H id = B := by unfold hget; rw [h6]
    exact hget_of (h5.trans h7) hl

theorem DStep.wrlt {C : Cfg} {all : List Oper} {o : Oper} {nid : Nat} {s : St} {e : Eff} {d : Option CallD} (h : DStep C all o nid s e d) : ∀ id, id ∈ wrIds e.wr → id < s.H.length := by
  cases h with
  | op h1 h2 h3 h4 => exact h4
  | _ => intro id hid; cases hid

theorem eff_len {C : Cfg} {all : List Oper} {o : Oper} {nid : Nat} {s : St} {e : Eff} {d : Option CallD} {t : Option Nat} (h : DStep C all o nid s e d) : (s.eff t e).H.length = s.H.length := by
  rw [eff_H, puts_length _ _ h.wrlt]

theorem hget_puts {H : List Blk} {wr : List (Nat × Blk)} {j : Nat} (h : ∀ id, id ∈ wrIds wr → id < H.length) (hj : j ∉ wrIds wr) : hget (puts H wr) j = hget H j := by
  unfold hget; rw [puts_get _ _ _ h hj]

theorem swap {C : Cfg} {all : List Oper} {x y : Ent} {s : St} (hx : DStep C all x.o x.nid s x.e x.d) (hy : DStep C all y.o y.nid (s.eff x.o.dst x.e) y.e y.d) (ha : Apart all x y) :
    DStep C all y.o y.nid s y.e y.d ∧ DStep C all x.o x.nid (s.eff y.o.dst y.e) x.e x.d ∧ Eqv ((s.eff x.o.dst x.e).eff y.o.dst y.e) ((s.eff y.o.dst y.e).eff x.o.dst x.e) := by
  have hxl := hx.wrlt
  have hlx : (s.eff x.o.dst x.e).H.length = s.H.length := eff_len hx
  have hyl : ∀ id, id ∈ wrIds y.e.wr → id < s.H.length := fun id hid => by have := hy.wrlt id hid; rwa [hlx] at this
  have hy' : DStep C all y.o y.nid s y.e y.d := hy.loc (fun t ht => by
      rw [eff_K, if_neg]
      rintro ⟨h, _⟩
      exact ha.dx t h ht) (fun id hid => by
      rw [eff_H, hget_puts hxl]
      intro h
      exact ha.wr id h hid) hlx.symm (eff_lo _ _ _).symm
  refine ⟨hy', hx.loc (fun t ht => ?_) (fun id hid => ?_) (eff_len hy') (eff_lo _ _ _), ?_⟩
  · rw [eff_K, if_neg]
    rintro ⟨h, _⟩
    exact ha.dy t h ht
  · rw [eff_H, hget_puts hyl]
    intro h
    exact ha.rw id h hid
  · refine ⟨?_, by simp only [eff_lo], by simp only [eff_rnd], by simp only [eff_n], fun t => ?_⟩
    · rw [eff_H, eff_H, eff_H, eff_H]
      exact puts_comm _ _ _ hyl hxl fun id h h' => ha.ww id h' h
    · rw [eff_K, eff_K, eff_K, eff_K, eff_n, eff_n]
      by_cases h1 : x.o.dst = some t ∧ t < s.n
      · rw [if_pos h1, if_neg (fun h => ha.dd t h1.1 h.1), if_pos h1]
      · rw [if_neg h1, if_neg h1]

theorem Seq.eqv {C : Cfg} {all : List Oper} : ∀ {R : List Ent} {s s' t : St}, Seq C all R s s' → Eqv s t → Seq C all R t s'
  | [], s, s', t, .nil h, he => .nil ((⟨he.H.symm, he.lo.symm, he.rnd.symm, he.n.symm, fun k => (he.K k).symm⟩ : Eqv t s).tr h)
  | x :: r, s, s', t, .cons h1 h2, he => by
    refine .cons (h1.loc (fun k _ => he.K k) (fun id _ => by rw [he.H]) (by rw [he.H]) he.lo) (h2.eqv ⟨?_, ?_, ?_, ?_, fun k => ?_⟩)
    · rw [eff_H, eff_H, he.H]
    · rw [eff_lo, eff_lo, he.lo]
    · rw [eff_rnd, eff_rnd, he.rnd]
    · rw [eff_n, eff_n, he.n]
    · rw [eff_K, eff_K, he.K, he.n]

theorem pull {C : Cfg} {all : List Oper} {y : Ent} {post : List Ent} {s' : St} : ∀ {pre : List Ent} {s : St}, Seq C all (pre ++ y :: post) s s' → (∀ x, x ∈ pre → Apart all x y) → DStep C all y.o y.nid s y.e y.d ∧ Seq C all (pre ++ post) (s.eff y.o.dst y.e) s'
  | [], s, .cons h1 h2, _ => ⟨h1, h2⟩
  | x :: pre, s, .cons h1 h2, hp => by
    obtain ⟨h3, h4⟩ := pull h2 fun z hz => hp z (List.mem_cons_of_mem _ hz)
    obtain ⟨h5, h6, h7⟩ := swap h1 h3 (hp x List.mem_cons_self)
    exact ⟨h5, .cons h6 (h4.eqv h7)⟩

end Go.Am
