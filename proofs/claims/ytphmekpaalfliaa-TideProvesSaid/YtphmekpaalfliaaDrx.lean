/- Regions that draw their order: the model's. Conditions: none. -/
import Derived.Test.YtphmekpaalfliaaDrw
set_option linter.unusedVariables false
set_option linter.unusedSimpArgs false
namespace Go.Am
open Go Go.Wk Go.RowKit

section
variable {C : Cfg} {E : Env} {s : St} {I : Ij} {m : Mem} {a : Act} {w : World} {all : List Oper} {o : Oper} {ρ : Option Nat} {P : Program} {Q : Exit → Act → World → Prop} {K : Act → World → Prop}

theorem opn_skip {i : Nat} (hi : all[i]? = some o) (hw : Region.wanted o (yielded all.toArray a.tmps) = false) (h : K (a.put o.dst undef) w) : wpOpIn (Wd ρ) 0 P all.toArray Q i K a w := by
  unfold wpOpIn
  simp only [List.getElem?_toArray, hi, hw]
  exact ⟨fun _ _ => trivial, h⟩

theorem opn_val {i : Nat} (hi : all[i]? = some o) (hw : Region.wanted o (yielded all.toArray a.tmps) = true) (hn : Opnd o.op = true) {w' : World} {r : Next} {u : Value} (hr : (execOp a.eval o).run P w = .ok r w') (hu : r = .value u ∨ (r = .skip ∧ u = undef)) (h : K (a.put o.dst u) w') : wpOpIn (Wd ρ) 0 P all.toArray Q i K a w := by
  unfold wpOpIn
  simp only [List.getElem?_toArray, hi, hw, if_true]
  refine uponWd hn ?_
  rw [hr]
  rcases hu with rfl | ⟨rfl, rfl⟩
  · exact h
  · exact h

theorem opn_call {i : Nat} (hi : all[i]? = some o) (hw : Region.wanted o (yielded all.toArray a.tmps) = true) (hn : Opnd o.op = true) {f : FuncId} {args : Array Value} (hr : (execOp a.eval o).run P w = .ok (.enter f args) w) (h : Calls P f args w (fun e w' => ∃ u, e = .returned u ∧ K (a.put o.dst u) w')) : wpOpIn (Wd ρ) 0 P all.toArray Q i K a w := by
  unfold wpOpIn
  simp only [List.getElem?_toArray, hi, hw, if_true]
  refine uponWd hn ?_
  rw [hr]
  refine ⟨(fun h => by cases h), callsWd.2 (h.mono ?_)⟩
  rintro e w' ⟨u, rfl, h⟩
  exact h

theorem CloArgs.nil' {H : List Blk} : ∀ {l l' : List V}, CloArgs [] false l l' → CloArgs H false l l'
  | _, _, .nil => .nil
  | _, _, .cons h r => .cons (by
      cases h with
      | shut h => exact .shut h
      | nil h => exact .nil h) (CloArgs.nil' r)

theorem SubD.sub {H' H : List Blk} (h : SubD H' H) : SubH H' H := ⟨h.1, h.2.1, fun id hf => absurd hf (h.2.2 id)⟩

theorem QA_mono {E : Env} {Q Q' : Ex → St → Prop} (h : ∀ e s, Q e s → Q' e s) : ∀ (e : Exit) (a : Act) (w : World), QA E Q e a w → QA E Q' e a w
  | .normal, _, _, ⟨s, I, m, hq, hs⟩ => ⟨s, I, m, h _ _ hq, hs⟩
  | .ret, _, _, ⟨s, I, m, hq, hs⟩ => ⟨s, I, m, h _ _ hq, hs⟩
  | .exit _, _, _, ⟨s, I, m, hq, hs⟩ => ⟨s, I, m, h _ _ hq, hs⟩
  | .goto _, _, _, h => h.elim
  | .panic _, _, _, h => h.elim
  | .outgrown, _, _, h => h.elim

theorem SA_mono1 {ρ : Option Nat} {E : Env} {c : Code} {Q Q' : Ex → St → Prop} (h : ∀ e s, Q e s → Q' e s) (hs : SA P ρ (QA E Q) [.code c] .normal a w) : SA P ρ (QA E Q') [.code c] .normal a w :=
  Code.wpIn_mono (QA_mono h) hs

def CallOK (C : Cfg) (e : Eff) (d : CallD) : Prop := ∀ (E : Env) (I : Ij) (m : Mem) (a : Act) (w : World), SS E (St.call d.fn d.args d.H d.H.length) I m a w → SA C.P E.ρ (QA E (fun x s1 => ∃ v, finA C d.fn x s1 = some v ∧ FrzTo s1 v e.v)) [.code d.c] .normal a w

theorem frz_sub {H' H : List Blk} (h : ∀ id B, get H' id = some B → B.live = true → get H id = some B) : ∀ (n : Nat) (v v1 : V), frz H' 0 n v = some v1 → frz H 0 n v = some v1
  | 0, v, v1, e => by cases e
  | n + 1, v, v1, e => by
    have ih : ∀ (l r : List V), mapO (frz H' 0 n) l = some r → mapO (frz H 0 n) l = some r := by
      intro l
      induction l with
      | nil => intro r e; exact e
      | cons x l ihl =>
        intro r e
        simp only [mapO] at e ⊢
        cases hx : frz H' 0 n x with
        | none => rw [hx] at e; cases e
        | some y =>
          cases hr : mapO (frz H' 0 n) l with
          | none => rw [hx, hr] at e; cases e
          | some q => rw [hx, hr] at e; rw [frz_sub h n x y hx, ihl q hr]; exact e
    have hg : ∀ id B, hget H' id = B → B.live = true → hget H id = B := fun id B hB hl => by
      have := h id B (hget_of hB hl) hl
      unfold hget; rw [this]
    cases v with
    | lit w =>
      cases w <;> first | exact e | (rename_i a l c; cases a <;> cases l <;> cases c <;> exact e)
    | agg l => simp only [frz, Option.map_eq_some_iff] at e ⊢; obtain ⟨a, h1, h2⟩ := e; exact ⟨a, ih _ _ h1, h2⟩
    | tup l => simp only [frz, Option.map_eq_some_iff] at e ⊢; obtain ⟨a, h1, h2⟩ := e; exact ⟨a, ih _ _ h1, h2⟩
    | fn f l => simp only [frz, Option.map_eq_some_iff] at e ⊢; obtain ⟨a, h1, h2⟩ := e; exact ⟨a, ih _ _ h1, h2⟩
    | ptr id i off =>
      simp only [frz, Nat.not_lt_zero, if_false] at e ⊢
      split at e
      · rename_i hb
        rw [hg _ _ hb rfl]
        simp only [Option.map_eq_some_iff] at e ⊢
        obtain ⟨a, h1, h2⟩ := e; exact ⟨a, ih _ _ h1, h2⟩
      · cases e
    | osl id off len =>
      simp only [frz, Nat.not_lt_zero, if_false] at e ⊢
      split at e
      · rename_i hb
        rw [hg _ _ hb rfl]
        simp only
        split at e
        · rename_i ht
          simp only [Option.map_eq_some_iff] at e ⊢
          obtain ⟨a, h1, h2⟩ := e; exact ⟨a, ih _ _ h1, h2⟩
        · cases e
      · cases e
    | map id =>
      simp only [frz, Nat.not_lt_zero, if_false] at e ⊢
      split at e
      · rename_i hb
        rw [hg _ _ hb rfl]
        simp only
        split at e
        · rename_i q1 q2
          rw [ih _ _ q1, ih _ _ q2]; exact e
        · cases e
      · cases e
    | _ => exact e
theorem CloArgs.sub {H' H : List Blk} (h : ∀ id B, get H' id = some B → B.live = true → get H id = some B) : ∀ {l l' : List V}, CloArgs H' true l l' → CloArgs H true l l'
  | _, _, .nil => .nil
  | _, _, .cons (.shut q) r => .cons (.shut q) (CloArgs.sub h r)
  | _, _, .cons (.nil q) r => .cons (.nil q) (CloArgs.sub h r)
  | _, _, .cons (.frz q) r => .cons (.frz (frz_sub h _ _ _ q)) (CloArgs.sub h r)

theorem dstep_sound (hC : C.OK) (hss : SS E s I m a w) {i nid : Nat} {e : Eff} {d : Option CallD} (hi : all[i]? = some o) (hd : DStep C all o nid s e d) (hlo : s.lo ≤ nid) (hc : ∀ x, d = some x → CallOK C e x) (h : ∀ I' m' a' w', SS E (s.eff o.dst e) I' m' a' w' → K a' w') : wpOpIn (Wd ρ) 0 C.P all.toArray Q i K a w := by
  cases hd with
  | skip h1 => exact opn_skip hi (wants_sound hss.slots h1) (h I m _ w (hss.put Rep.undef))
  | op h1 h2 h3 h4 =>
    obtain ⟨r, w', I', u, g1, g2, g3, g4, g5⟩ := op_sound hC hss.sim hss.slots (fun ha => ⟨.inr (h3 ha), hlo⟩) h2
    exact opn_val hi (wants_sound hss.slots h1) (opEff_opnd h2) g1 g2 (h I' m _ w' ((hss.step g3 g5 (fun _ _ h => h) (fun _ _ h => .inl h)).put g4))
  | ext h1 h2 h3 h4 =>
    obtain ⟨g1, us, g2, g3⟩ := callee_fn hss.slots h2
    refine opn_call hi (wants_sound hss.slots h1) g1 ((g3 w).trans ((hC.X _ _ _ h4).2 _ w)) ((ext_step hC hss (h3.nil' (H := s.H)) g2 h4 (fun h => by cases h)).mono ?_)
    rintro e w' ⟨u, rfl, m', hv, hs'⟩
    exact ⟨u, rfl, h I m' _ w' (hs'.put hv)⟩
  | extF h1 h2 h4 h5 h6 h7 =>
    obtain ⟨g1, us, g2, g3⟩ := callee_fn hss.slots h2
    refine opn_call hi (wants_sound hss.slots h1) g1 ((g3 w).trans ((hC.X _ _ _ h6).2 _ w)) ((ext_step hC hss (h5.sub h4.2) g2 h6 (fun _ => h7)).mono ?_)
    rintro e w' ⟨u, rfl, m', hv, hs'⟩
    exact ⟨u, rfl, h I m' _ w' (hs'.put hv)⟩
  | @clo f args args' v0 c fn h1 h2 h3 h4 =>
    obtain ⟨g1, us, g2, g3⟩ := callee_fn hss.slots h2
    have hc' := hc _ rfl
    refine opn_call hi (wants_sound hss.slots h1) g1 ((g3 w).trans ((bodyOf_spec hC h3).2.2.2 _ w)) ((clo_step (T := fun v' => v' = v0) hC hss h3 rfl (h4.nil' (H := s.H)) g2 ?_).mono ?_)
    · intro E I m a w hs
      exact SA_mono1 (fun e s1 ⟨v, q1, q2⟩ => ⟨v, _, q1, q2, (fun h => by cases h), rfl⟩) (hc' E I m a w hs)
    · rintro e' w' ⟨u, rfl, v', m', rfl, hv, hs'⟩
      exact ⟨u, rfl, h I m' _ w' (hs'.put hv)⟩
  | @sub f args v0 c fn H' h1 h2 h3 h4 =>
    obtain ⟨g1, us, g2, g3⟩ := callee_fn hss.slots h2
    have hc' := hc _ rfl
    refine opn_call hi (wants_sound hss.slots h1) g1 ((g3 w).trans ((bodyOf_spec hC h3).2.2.2 _ w)) ((sub_step (T := fun v' => v' = v0) hC hss h3 rfl h4.sub g2 ?_).mono ?_)
    · intro E I m a w hs
      exact SA_mono1 (fun e s1 ⟨v, q1, q2⟩ => ⟨v, _, q1, q2, rfl⟩) (hc' E I m a w hs)
    · rintro e' w' ⟨u, rfl, v', m', rfl, hv, hs'⟩
      exact ⟨u, rfl, h I m' _ w' (hs'.put hv)⟩

/-! ### Which are ready -/

def Binds (o : Oper) (j : Nat) : Prop := ∃ e, e ∈ o.after.toList ∧ Region.binds .any e = true ∧ e.on = j

theorem waits_listed {L : Nat → Prop} (hcl : ∀ (j : Nat), L j → ∀ (o : Oper), all[j]? = some o → ∀ k, Binds o k → L k) : ∀ (f j i : Nat), waitsT all f j i = true → (∀ (o : Oper), all[j]? = some o → ∀ k, Binds o k → L k) → L i
  | 0, _, _, h, _ => by cases h
  | f + 1, j, i, h, hj => by
    unfold waitsT at h
    split at h
    · rename_i oj ho
      rw [get_eq] at ho
      rw [List.any_eq_true] at h
      obtain ⟨e, he, h⟩ := h
      simp only [Bool.and_eq_true, Bool.or_eq_true] at h
      obtain ⟨h1, h2⟩ := h
      have hL : L e.on := hj oj ho e.on ⟨e, he, h1, rfl⟩
      rcases h2 with h2 | ⟨_, h2⟩
      · have := Nat.eq_of_beq_eq_true h2
        rw [← this]; exact hL
      · exact waits_listed hcl f e.on i h2 (hcl e.on hL)
    · cases h

theorem mem_ready {listed : Array Bool} {i : Nat} : i ∈ Region.ready .any all.toArray listed ↔ i < all.length ∧ listed.getD i true = false ∧ ∃ o, all[i]? = some o ∧ ∀ k, Binds o k → listed.getD k false = true := by
  unfold Region.ready
  simp only [List.mem_filter, List.mem_range, List.size_toArray, Bool.and_eq_true, Bool.not_eq_true', List.getElem?_toArray]
  constructor
  · rintro ⟨h1, h2, h3⟩
    refine ⟨h1, h2, all[i], by simp [h1], fun k ⟨e, he, hb, hk⟩ => ?_⟩
    have hi : all[i]? = some all[i] := by simp [h1]
    rw [hi] at h3
    simp only [Option.map_some, Option.getD_some] at h3
    rw [← Array.all_toList, List.all_eq_true] at h3
    have := h3 e he
    rw [hb] at this
    simp only [Bool.not_true, Bool.false_or] at this
    rw [← hk]; exact this
  · rintro ⟨h1, h2, o, ho, h3⟩
    refine ⟨h1, h2, ?_⟩
    rw [ho]
    simp only [Option.map_some, Option.getD_some]
    rw [← Array.all_toList, List.all_eq_true]
    intro e he
    cases hb : Region.binds .any e with
    | false => simp
    | true => simp [h3 e.on ⟨e, he, hb, rfl⟩]

structure Rest (all : List Oper) (R : List Ent) (listed : Array Bool) : Prop where
  size : listed.size = all.length
  left : ∀ i, i < all.length → (listed[i]? = some false ↔ ∃ x, x ∈ R ∧ x.i = i)
  op : ∀ x, x ∈ R → all[x.i]? = some x.o
  closed : ∀ (j : Nat), listed[j]? = some true → ∀ (o : Oper), all[j]? = some o → ∀ k, Binds o k → listed[k]? = some true
  low : ∀ x, x ∈ R → ∀ k, Binds x.o k → k < x.i
  pair : R.Pairwise (Ok2 all)

theorem getD_true {listed : Array Bool} {k : Nat} : listed.getD k false = true ↔ listed[k]? = some true := by
  rw [Array.getD_eq_getD_getElem?]
  cases listed[k]? with
  | none => simp
  | some b => simp
theorem getD_false {listed : Array Bool} {k : Nat} : listed.getD k true = false ↔ listed[k]? = some false := by
  rw [Array.getD_eq_getD_getElem?]
  cases listed[k]? with
  | none => simp
  | some b => simp

theorem any_sound (hC : C.OK) {sn : St} {k : List It} {Q : Exit → Act → World → Prop} (hk : ∀ (I : Ij) (m : Mem) (a : Act) (w : World), SS E sn I m a w → SA C.P E.ρ Q k .normal a w) : ∀ (n : Nat) (R : List Ent) (listed : Array Bool) (s : St) (I : Ij) (m : Mem) (a : Act) (w : World), R.length = n → Seq C all R s sn → Rest all R listed → (∀ x, x ∈ R → s.lo ≤ x.nid ∧ ∀ d, x.d = some d → CallOK C x.e d) → SS E s I m a w → wpAnyIn (Wd E.ρ) 0 C.P .any all.toArray (SA C.P E.ρ Q k) n listed a w
  | 0, [], listed, s, I, m, a, w, _, .nil he, hl, _, hss => by
    have hnr : Region.ready .any all.toArray listed = [] := by
      rw [List.eq_nil_iff_forall_not_mem]
      intro i hi
      obtain ⟨h1, h2, _⟩ := mem_ready.1 hi
      obtain ⟨x, hx, _⟩ := (hl.left i h1).1 (getD_false.1 h2)
      cases hx
    refine ⟨hnr, hk I m a w { hss with slots := fun t v hv => hss.slots t v (by rw [← he.K]; exact hv), sim := by rw [he.H]; exact hss.sim, n := he.n.trans hss.n, lo := he.lo.trans hss.lo, rnd := he.rnd.trans hss.rnd, fx := by rw [he.H]; exact hss.fx, dfr := by rw [he.H]; exact hss.dfr }⟩
  | 0, _ :: _, _, _, _, _, _, _, h, _, _, _, _ => by cases h
  | n + 1, [], _, _, _, _, _, _, h, _, _, _, _ => by cases h
  | n + 1, x0 :: R0, listed, s, I, m, a, w, hn, hseq, hl, hx, hss => by
    have h0 : x0.i ∈ Region.ready .any all.toArray listed := by
      have hlt : x0.i < all.length := (List.getElem?_eq_some_iff.1 (hl.op x0 List.mem_cons_self)).1
      refine mem_ready.2 ⟨hlt, getD_false.2 ((hl.left _ hlt).2 ⟨x0, List.mem_cons_self, rfl⟩), x0.o, hl.op x0 List.mem_cons_self, fun k hb => getD_true.2 ?_⟩
      have hkl := hl.low x0 List.mem_cons_self k hb
      have hkL : k < all.length := by omega
      cases hlk : listed[k]? with
      | none => rw [Array.getElem?_eq_none_iff, hl.size] at hlk; omega
      | some b =>
        cases b with
        | true => rfl
        | false =>
          obtain ⟨y, hy, hyi⟩ := (hl.left k hkL).1 hlk
          rcases List.mem_cons.1 hy with rfl | hy
          · omega
          · have := (List.rel_of_pairwise_cons hl.pair hy).1
            omega
    refine ⟨fun h => (by rw [h] at h0; cases h0), fun i hi => ?_⟩
    obtain ⟨h1, h2, o, h3, h4⟩ := mem_ready.1 hi
    obtain ⟨y, hy, hyi⟩ := (hl.left i h1).1 (getD_false.1 h2)
    have hyo : y.o = o := by have := hl.op y hy; rw [hyi, h3] at this; exact (Option.some.inj this).symm
    obtain ⟨pre, post, hR⟩ := List.append_of_mem hy
    rw [hR] at hseq hn hl hx
    have hpw := List.pairwise_append.1 hl.pair
    have hap : ∀ x, x ∈ pre → Apart all x y := fun x hxp => by
      rcases (hpw.2.2 x hxp y List.mem_cons_self).2 with hwt | h
      · have := waits_listed (all := all) (L := fun j => listed[j]? = some true) hl.closed _ _ _ hwt (fun o' ho' k hb => by
          have : o' = o := by rw [hyi, h3] at ho'; exact (Option.some.inj ho').symm
          rw [this] at hb
          exact getD_true.1 (h4 k hb))
        have hxlt : x.i < all.length := (List.getElem?_eq_some_iff.1 (hl.op x (by simp [hxp]))).1
        have h5 := (hl.left x.i hxlt).2 ⟨x, by simp [hxp], rfl⟩
        rw [this] at h5; cases h5
      · exact h
    obtain ⟨g1, g2⟩ := pull hseq hap
    have hyy := hx y (by simp)
    have hio : all[i]? = some y.o := by rw [hyo]; exact h3
    refine dstep_sound (o := y.o) hC hss hio g1 hyy.1 hyy.2 fun I' m' a' w' hs' => ?_
    have hinc : ∀ z, z ∈ pre ++ post → z ∈ pre ++ y :: post := fun z hz => by
      rcases List.mem_append.1 hz with h | h <;> simp [h]
    have hpair' : (pre ++ post).Pairwise (Ok2 all) := by
      rw [List.pairwise_append]
      exact ⟨hpw.1, (List.pairwise_cons.1 hpw.2.1).2, fun u hu v hv => hpw.2.2 u hu v (List.mem_cons_of_mem _ hv)⟩
    have hne : ∀ z, z ∈ pre ++ post → z.i ≠ i := fun z hz => by
      rcases List.mem_append.1 hz with h | h
      · have := (hpw.2.2 z h y List.mem_cons_self).1; omega
      · have := (List.rel_of_pairwise_cons hpw.2.1 h).1; omega
    have hlen : (pre ++ post).length = n := by
      simp only [List.length_append, List.length_cons] at hn ⊢; omega
    have hisz : i < listed.size := by rw [hl.size]; exact h1
    refine any_sound hC hk n (pre ++ post) _ _ I' m' a' w' hlen g2 ⟨by simpa using hl.size, fun j hj => ?_, fun z hz => hl.op z (hinc z hz), fun j hj o' ho' k hb => ?_, fun z hz => hl.low z (hinc z hz), hpair'⟩ (fun z hz => ⟨by rw [eff_lo]; exact (hx z (hinc z hz)).1, (hx z (hinc z hz)).2⟩) hs'
    · by_cases hji : j = i
      · subst hji
        simp only [hisz, Array.getElem?_setIfInBounds_self_of_lt, Option.some.injEq, Bool.true_eq_false, false_iff]
        rintro ⟨z, hz, hzi⟩
        exact hne z hz hzi
      · rw [Array.getElem?_setIfInBounds_ne (fun e => hji e.symm), hl.left j hj]
        constructor
        · rintro ⟨z, hz, hzj⟩
          refine ⟨z, ?_, hzj⟩
          rcases List.mem_append.1 hz with h | h
          · exact List.mem_append_left _ h
          · rcases List.mem_cons.1 h with rfl | h
            · exact absurd (hzj.symm.trans hyi) hji
            · exact List.mem_append_right _ h
        · rintro ⟨z, hz, hzj⟩
          exact ⟨z, hinc z hz, hzj⟩
    · have key : listed[k]? = some true := by
        by_cases hji : j = i
        · subst hji
          have : o' = o := by rw [h3] at ho'; exact (Option.some.inj ho').symm
          rw [this] at hb
          exact getD_true.1 (h4 k hb)
        · rw [Array.getElem?_setIfInBounds_ne (fun e => hji e.symm)] at hj
          exact hl.closed j hj o' ho' k hb
      by_cases hki : i = k
      · subst hki
        simp [hisz]
      · rw [Array.getElem?_setIfInBounds_ne hki]; exact key

/-! ### From the text's order -/

theorem memN_iff {i : Nat} : ∀ {l : List Nat}, memN i l = true ↔ i ∈ l
  | [] => by simp [memN]
  | x :: r => by
    simp only [memN, Bool.or_eq_true, memN_iff (l := r), List.mem_cons]
    constructor
    · rintro (h | h)
      · exact .inl (Nat.eq_of_beq_eq_true h).symm
      · exact .inr h
    · rintro (h | h)
      · exact .inl (by rw [h]; simp)
      · exact .inr h
theorem meet_false : ∀ {l l' : List Nat}, meet l l' = false → ∀ x, x ∈ l → x ∉ l'
  | [], _, _, _, h, _ => by cases h
  | y :: r, l', h, x, hx, hx' => by
    simp only [meet, Bool.or_eq_false_iff] at h
    rcases List.mem_cons.1 hx with rfl | hx
    · rw [memN_iff.2 hx'] at h; cases h.1
    · exact meet_false h.2 x hx hx'

theorem logOK_spec {j : Nat} {rd wr : List Nat} : ∀ {log : List (Nat × List Nat × List Nat)}, logOK all j rd wr log = true → ∀ p, p ∈ log → waitsT all all.length j p.1 = true ∨ ((∀ x, x ∈ p.2.2 → x ∉ rd) ∧ (∀ x, x ∈ p.2.2 → x ∉ wr) ∧ ∀ x, x ∈ wr → x ∉ p.2.1)
  | [], _, p, hp => by cases hp
  | (i, rd', wr') :: r, h, p, hp => by
    simp only [logOK, Bool.and_eq_true, Bool.or_eq_true] at h
    rcases List.mem_cons.1 hp with rfl | hp
    · rcases h.1 with h1 | h1
      · right
        simp only [Bool.not_eq_true', Bool.or_eq_false_iff] at h1
        exact ⟨meet_false h1.1.1, meet_false h1.1.2, meet_false h1.2⟩
      · exact .inl h1
    · exact logOK_spec h.2 p hp

theorem pairOK_spec {j : Nat} {oj : Oper} : ∀ {l : List Oper} {i : Nat}, pairOK all j oj l i = true → ∀ k oi, l[k]? = some oi → i + k < j → waitsT all all.length j (i + k) = true ∨ ((∀ t, oi.dst = some t → t ∉ opTmps all oj) ∧ (∀ t, oi.dst = some t → oj.dst ≠ some t) ∧ ∀ t, oj.dst = some t → t ∉ opTmps all oi)
  | [], _, _, k, oi, hk, _ => by simp at hk
  | x :: r, i, h, k, oi, hk, hj => by
    simp only [pairOK, Bool.and_eq_true, Bool.or_eq_true] at h
    cases k with
    | succ k =>
      have := pairOK_spec h.2 k oi (by simpa using hk) (by omega)
      rwa [show i + 1 + k = i + (k + 1) by omega] at this
    | zero =>
      simp only [List.getElem?_cons_zero, Option.some.injEq] at hk
      subst hk
      rcases h.1 with h1 | h1
      · have := Nat.le_of_ble_eq_true h1; omega
      · rcases h1 with h1 | h1
        · right
          simp only [Bool.not_eq_true', Bool.or_eq_false_iff] at h1
          refine ⟨fun t ht => meet_false h1.1.1 t (by simp [ht]), fun t ht ht' => meet_false h1.1.2 t (by simp [ht]) (by simp [ht']), fun t ht => meet_false h1.2 t (by simp [ht])⟩
        · exact .inl h1

theorem regOKf_spec : ∀ {l : List Oper} {j : Nat}, regOKf all l j = true → ∀ k oj, l[k]? = some oj → (∀ i, Binds oj i → i < j + k) ∧ pairOK all (j + k) oj all 0 = true
  | [], _, _, k, oj, hk => by simp at hk
  | x :: r, j, h, k, oj, hk => by
    simp only [regOKf, Bool.and_eq_true] at h
    cases k with
    | succ k =>
      have := regOKf_spec h.2 k oj (by simpa using hk)
      rwa [show j + 1 + k = j + (k + 1) by omega] at this
    | zero =>
      simp only [List.getElem?_cons_zero, Option.some.injEq] at hk
      subst hk
      refine ⟨fun i ⟨e, he, hb, hi⟩ => ?_, h.1.2⟩
      have := List.all_eq_true.1 h.1.1 e he
      rw [hb] at this
      simp only [Bool.not_true, Bool.false_or] at this
      rw [Nat.blt_eq] at this
      omega

theorem drun_seq (hreg : regOKf all all 0 = true) {os : List Oper} {i nid : Nat} {s s' : St} {log : List (Nat × List Nat × List Nat)} {es : List (Eff × Option CallD)} (h : DRun C all os i nid s log es s') : ∀ (p : List Oper), all = p ++ os → p.length = i → ∀ lo, lo ≤ nid →
    ∃ R : List Ent, Seq C all R s s' ∧ (∀ x, x ∈ R → i ≤ x.i ∧ all[x.i]? = some x.o ∧ lo ≤ x.nid ∧ ∃ j : Nat, es[j]? = some (x.e, x.d)) ∧ (∀ k, i ≤ k → k < all.length → ∃ x, x ∈ R ∧ x.i = k) ∧ R.Pairwise (Ok2 all) ∧
      (∀ x, x ∈ R → ∀ q, q ∈ log → waitsT all all.length x.i q.1 = true ∨ ((∀ id, id ∈ q.2.2 → id ∉ x.rd) ∧ (∀ id, id ∈ q.2.2 → id ∉ x.wr) ∧ ∀ id, id ∈ x.wr → id ∉ q.2.1)) := by
  induction h with
  | nil =>
    intro p hp hi lo _
    refine ⟨[], .nil (Eqv.rfl' _), (fun x hx => by cases hx), fun k h1 h2 => ?_, List.Pairwise.nil, fun x hx => by cases hx⟩
    rw [hp] at h2
    simp at h2
    omega
  | @cons o os i nid s s' log e d es hd hlog hrest IH =>
    intro p hp hi lo hlo
    obtain ⟨R, h1, h2, h3, h4, h5⟩ := IH (p ++ [o]) (by rw [hp]; simp) (by simp [hi]) lo (by cases allocs o.op <;> simp <;> omega)
    have hoi : all[i]? = some o := by rw [hp, List.getElem?_append_right (by omega), hi]; simp
    let x0 : Ent := ⟨i, nid, o, e, d⟩
    refine ⟨x0 :: R, .cons hd h1, fun x hx => ?_, fun k hk1 hk2 => ?_, List.pairwise_cons.2 ⟨fun x hx => ?_, h4⟩, fun x hx q hq => ?_⟩
    · rcases List.mem_cons.1 hx with rfl | hx
      · exact ⟨Nat.le_refl _, hoi, hlo, 0, rfl⟩
      · obtain ⟨g1, g2, g3, j, g4⟩ := h2 x hx
        exact ⟨by omega, g2, g3, j + 1, by simpa using g4⟩
    · rcases Nat.eq_or_lt_of_le hk1 with rfl | hlt
      · exact ⟨x0, List.mem_cons_self, rfl⟩
      · obtain ⟨x, hx, hxk⟩ := h3 k hlt hk2
        exact ⟨x, List.mem_cons_of_mem _ hx, hxk⟩
    · obtain ⟨g1, g2, g3, _⟩ := h2 x hx
      refine ⟨show i < x.i by omega, ?_⟩
      have h6 := h5 x hx (i, rdOf o nid e, wrIds e.wr) List.mem_cons_self
      have h7 := (regOKf_spec hreg x.i x.o g2).2
      rw [Nat.zero_add] at h7
      have h8 := pairOK_spec h7 i o hoi (by omega)
      rw [Nat.zero_add] at h8
      rcases h6 with h6 | ⟨h6, h6', h6''⟩
      · exact .inl h6
      · rcases h8 with h8 | ⟨h8, h8', h8''⟩
        · exact .inl h8
        · exact .inr ⟨h6, h6', h6'', h8, h8', h8''⟩
    · rcases List.mem_cons.1 hx with rfl | hx
      · exact logOK_spec hlog q hq
      · exact h5 x hx q (List.mem_cons_of_mem _ hq)

theorem get_addFree : ∀ (n k : Nat), get (addFree n) k = if k < n then some .free else none
  | 0, _ => by simp [addFree, Am.get]
  | n + 1, 0 => by simp [addFree, Am.get]
  | n + 1, k + 1 => by simp only [addFree, Am.get, get_addFree n k]; simp

theorem get_more (H : List Blk) (n k : Nat) : get (H ++ addFree n) k = if k < H.length then get H k else if k < H.length + n then some .free else none := by
  rw [get_eq, List.getElem?_append]
  by_cases h : k < H.length
  · rw [if_pos h, if_pos h, get_eq]
  · rw [if_neg h, if_neg h, ← get_eq, get_addFree]
    by_cases h2 : k < H.length + n
    · rw [if_pos h2, if_pos (by omega)]
    · rw [if_neg h2, if_neg (by omega)]

theorem live_more {H : List Blk} {n k : Nat} {B : Blk} (h : get (H ++ addFree n) k = some B) (hl : B.live = true) : get H k = some B := by
  rw [get_more] at h
  split at h
  · exact h
  · split at h
    · cases h; cases hl
    · cases h

theorem SS.room (h : SS E s I m a w) (n : Nat) : SS E { s with H := s.H ++ addFree n } I m a { w with drawn := w.drawn + 1 } := by
  have hlo : s.lo ≤ s.H.length := by rw [h.lo]; exact Nat.le_trans h.lole h.fx.len
  have hL : ∀ id, Live (s.H ++ addFree n) id → Live s.H id := fun id ⟨B, hB, hl⟩ => ⟨B, live_more hB hl, hl⟩
  refine h.step (w' := { w with drawn := w.drawn + 1 }) ⟨h.sim.sub, fun id B hB hl => ?_, fun id hid => ?_, fun id f hl hf => h.sim.off id f (hL id hl) hf, fun i j f g hi hj => h.sim.inj i j f g (hL i hi) (hL j hj)⟩ ⟨⟨rfl, rfl, rfl, Nat.le_refl _⟩, fun _ _ _ => rfl, Ij.Le.rfl' _, fun id f h1 h2 h3 => .inr ⟨id, f, h1, hL id h2, h3, rfl⟩, fun id hid => ?_, by simp⟩ (fun _ _ h => h) (fun _ _ h => .inl h)
  · obtain ⟨f, h1, h2⟩ := h.sim.blk id B (live_more hB hl) hl
    exact ⟨f, h1, h2.mono (fun _ _ h => h) (Ij.Le.rfl' _) rfl⟩
  · refine h.sim.free id ?_
    rw [get_more] at hid
    by_cases hk : id < s.H.length
    · rw [if_pos hk] at hid; exact hid
    · exact .inl (get_none.2 (by omega))
  · rw [get_more, if_pos (by omega)]

theorem draw_step (hC : C.OK) (hss : SS E s I m a w) {id : Nat} {ops : Array Oper} {k : List It} {sn : St} {Q : Ex → St → Prop} {es : List (Eff × Option CallD)} (hreg : regOK ops.toList = true) (hrun : DRun C ops.toList ops.toList 0 s.H.length { s with H := s.H ++ addFree (allocN ops.toList) } [] es sn)
    (IH1 : ∀ (i : Nat) (e : Eff) (d : CallD), es[i]? = some (e, some d) → ∀ (E : Env) (I : Ij) (m : Mem) (a : Act) (w : World), SS E (St.call d.fn d.args d.H d.H.length) I m a w → SA C.P E.ρ (QA E (fun x s1 => ∃ v, finA C d.fn x s1 = some v ∧ FrzTo s1 v e.v)) [.code d.c] .normal a w)
    (IH2 : ∀ (I : Ij) (m : Mem) (a : Act) (w : World), SS E sn I m a w → SA C.P E.ρ (QA E Q) k .normal a w) : SA C.P E.ρ (QA E Q) (.code (.region id ops true) :: k) .normal a w := by
  unfold regOK at hreg
  rw [Bool.and_eq_true] at hreg
  have hlo : s.lo ≤ s.H.length := by rw [hss.lo]; exact Nat.le_trans hss.lole hss.fx.len
  obtain ⟨R, h1, h2, h3, h4, _⟩ := drun_seq hreg.2 hrun [] rfl rfl s.lo hlo
  refine wpIn_region_any hC.mixed ?_
  have hlen : R.length = ops.size := by
    have hmap : (R.map (·.i)).Pairwise (· < ·) := by
      rw [List.pairwise_map]
      exact h4.imp fun h => h.1
    have hperm : (R.map (·.i)).Perm (List.range ops.toList.length) := by
      refine (List.perm_ext_iff_of_nodup (hmap.imp fun h => Nat.ne_of_lt h) List.nodup_range).2 fun x => ?_
      rw [List.mem_map, List.mem_range]
      constructor
      · rintro ⟨y, hy, rfl⟩
        exact (List.getElem?_eq_some_iff.1 (h2 y hy).2.1).1
      · intro hx
        obtain ⟨y, hy, h⟩ := h3 x (Nat.zero_le _) hx
        exact ⟨y, hy, h⟩
    have := hperm.length_eq
    simpa using this
  have := any_sound (all := ops.toList) (E := E) hC (fun I m a w h => IH2 I m a w h) ops.size R (Array.replicate ops.size false) _ I m a _ hlen h1 ⟨by simp, fun i hi => ?_, fun x hx => (h2 x hx).2.1, fun j hj => ?_, fun x hx i hb => ?_, h4⟩ (fun x hx => ⟨(h2 x hx).2.2.1, fun d hd => ?_⟩) (hss.room (allocN ops.toList))
  · simpa only [Array.toArray_toList] using this
  · have hi' : i < ops.size := by simpa using hi
    simp only [Array.getElem?_replicate, hi', if_true, true_iff]
    exact h3 i (Nat.zero_le _) hi
  · rw [Array.getElem?_replicate] at hj
    split at hj <;> cases hj
  · have := (regOKf_spec hreg.2 x.i x.o (h2 x hx).2.1).1 i hb
    omega
  · obtain ⟨j, hj⟩ := (h2 x hx).2.2.2
    rw [hd] at hj
    exact IH1 j x.e d hj

end
end Go.Am
