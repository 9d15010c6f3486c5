/- copy, clear, maps: as in the model. Conditions: none. -/
import Derived.Test.YtphmekpaalfliaaOpJ
set_option linter.unusedVariables false
set_option linter.unusedSimpArgs false
namespace Go.Am
open Go Go.Wk Go.RowKit

section
variable {C : Cfg} {I : Ij} {m : Mem} {H : List Blk} {w w' : World} {K : List (Nat × V)} {a : Act} {lo nid : Nat} {dst : Option Tmp} {ty : TypeId} {pos : String} {after : Array Edge} {g : Option (Nat × Bool)} {e : Eff}

theorem RowsFlat.take {es : Nat} {l : List V} {fs : List Value} (h : RowsFlat m I es l fs) (n : Nat) : RowsFlat m I es (l.take n) (fs.take ((l.take n).length * es)) := by
  have hle : (l.take n).length * es ≤ fs.length := by rw [h.1]; exact Nat.mul_le_mul_right _ (by simp; omega)
  refine ⟨by rw [List.length_take]; omega, fun i v hv => ?_⟩
  have hi := (List.getElem?_eq_some_iff.1 hv).1
  rw [List.getElem?_take] at hv
  split at hv
  · obtain ⟨u, q1, q2, q3⟩ := h.2 i v hv
    refine ⟨u, q1, q2, fun j x hj => ⟨(q3 j x hj).1, ?_⟩⟩
    have hjl : j < es := by rw [← q2]; exact (Array.getElem?_eq_some_iff.1 hj).1
    have : (i + 1) * es ≤ (l.take n).length * es := Nat.mul_le_mul_right _ hi
    rw [Nat.add_mul] at this
    rw [List.getElem?_take, if_pos (by omega)]
    exact (q3 j x hj).2
  · cases hv

/-- Rows are written over rows of a block of its own. -/
theorem Sim.over (hs : Sim I m H w) {P : Program} {id off len es : Nat} {l l' news : List V} {fs : List Value} {ad : Option Addr} {f : Inf} (hb' : Am.get H id = some (.rows es l)) (hlo : lo ≤ id) (hf : I id = some f) (g1 : off + len ≤ f.cap) (g2 : off < f.cap → ad = some ⟨f.b, f.o + off * f.es, none⟩) (hne : news ≠ [])
    (hnl : news.length ≤ len) (hset : setAt l off news = some l') (hflat : RowsFlat m I es news fs) :
    ∃ a' w', ad = some a' ∧ (storeCells a' fs 0).run P w = .ok () w' ∧ Sim I m (hput H id (.rows es l')) w' ∧ Fx I H lo w I (hput H id (.rows es l')) w' := by
  obtain ⟨f', hf', hes, c, ty', hw, hc1, hc2, hc3, hc4, hc5⟩ := hs.blk id _ hb' rfl
  rw [hf] at hf'
  cases hf'
  obtain ⟨a1, a2, a3⟩ := setAt_eq _ _ _ _ hset
  have hpos : 0 < news.length := List.length_pos_iff.2 hne
  have had := g2 (by omega)
  have hcsz : f.o + off * es + fs.length ≤ c.size := by
    rw [hflat.1]
    have : (off + news.length) * es ≤ f.cap * es := Nat.mul_le_mul_right _ (by omega)
    rw [Nat.add_mul] at this
    omega
  obtain ⟨w', q1, q2, q3, q4⟩ := run_storeOwn (P := P) (w := w) (o := f.o + off * es) (vs := fs) hw hcsz (hflat.one hc4)
  have hri : RowsIn m I (putC c (f.o + off * es) fs) f.o es l' := by
    refine RowsIn.put hc5 hflat hcsz fun i v hv => ?_
    rw [a3] at hv
    split at hv
    · rename_i hcc; rw [if_pos hcc]; exact hv
    · rename_i hcc; rw [if_neg hcc]; exact hv
  have hB : BlkOK I m w' f (.rows es l') := ⟨hes, _, ty', q4, by rw [(putC_spec fs c _ hcsz).1]; exact hc1, by rw [a1]; exact hc2, hc3, hc4, hri⟩
  obtain ⟨s1, s2⟩ := hs.upd (lo := lo) ⟨_, hb', rfl⟩ hlo hf q2 q3 hB (by intro h; cases h)
  exact ⟨_, w', had, by rw [hes]; exact q1, s1, s2⟩

theorem copy_sound {P : Program} (hs : Sim I m H w) {t el : Nat} {ats : Array TypeId} (hat : ats[0]? = some t) {T : TI} (hu : P.underlying t = some (.slice el)) (hT : TIOK P el T) {x y : V} {ux uy : Value} (hx : Rep m x I ux) (hy : Rep m y I uy)
    (h : copyA T H lo x y = some e) : BiOut P (do pure (.value (← Builtin.copy_ ats ty #[ux, uy]))) I m H lo w e.v (puts H e.wr) := by
  unfold copyA at h
  split at h
  · cases h
  · rename_i src rd hrows
    cases hno : newOK T src with
    | false => rw [hno] at h; cases h
    | true =>
      rw [hno] at h
      simp only [cond_true] at h
      obtain ⟨ad, cap, fs, rfl, hflat, hsrc⟩ := rowsOf_sound hs hT hy hrows hno
      split at h
      · rename_i id off len
        split at h
        · cases h
        rename_i hlt
        split at h
        · rename_i es l hb
          cases hes' : Nat.beq es T.size with
          | false => rw [hes'] at h; cases h
          | true =>
            rw [hes'] at h
            simp only [cond_true] at h
            have := Nat.eq_of_beq_eq_true hes'
            subst this
            have hb' := hget_rows hb
            split at h
            · rename_i l' hset
              simp only [Option.some.injEq] at h
              subst h
              unfold Rep at hx
              obtain ⟨f, ad1, hf, rfl, g1, g2, g3⟩ := hx
              have hmin : Nat.min src.length len = (src.take len).length := by simp [Nat.min_comm]
              have hfl := (hflat.take len).1
              have hfc : (Builtin.firstCells T.size (src.take len).length (.slice ad src.length cap)).run P w = .ok (fs.take ((src.take len).length * T.size)).toArray w := by
                by_cases h0 : src.take len = []
                · rw [h0]
                  simp only [List.length_nil, Nat.zero_mul, List.take_zero]
                  cases ad <;> simp [Builtin.firstCells, loadCells, loadCellsFrom]
                · obtain ⟨b2, o2, rfl, hc⟩ := hsrc (by intro e; rw [e] at h0; simp at h0)
                  exact run_firstCells_some w T.size _ ⟨b2, o2, none⟩ src.length cap _ hfl (fun j v hj => by
                    rw [Addr.add_n]
                    rw [List.getElem?_take] at hj
                    split at hj
                    · exact hc j v hj
                    · cases hj)
              by_cases h0 : src.take len = []
              · rw [h0] at hset hfc hmin ⊢
                simp only [setAt, Option.some.injEq] at hset
                subst hset
                have hes := (hs.es hb' hf).1
                obtain ⟨f', hf', hB⟩ := hs.blk id _ hb' rfl
                rw [hf] at hf'
                cases hf'
                obtain ⟨s1, s2⟩ := hs.upd (lo := lo) ⟨_, hb', rfl⟩ (by omega) hf (Stays.rfl' w) (fun _ _ => rfl) hB (by intro h; cases h)
                refine ⟨.int .i64 0, w, I, ?_, s1, Rep.int, s2⟩
                simp only [List.length_nil, Nat.zero_mul, List.take_zero] at hfc hmin
                have hmin' : Nat.min src.length len = 0 := hmin
                cases ad1 <;> simp [Builtin.copy_, hat, run_underlying hu, Builtin.lenOf, hT.size, hmin', hfc, storeCells, goInt]
              · obtain ⟨a', w', rfl, q1, s1, s2⟩ := hs.over (lo := lo) (P := P) hb' (by omega) hf g1 g2 h0 (by simp; omega) hset (hflat.take len)
                refine ⟨.int .i64 ((src.take len).length : Nat), w', I, ?_, s1, Rep.int, s2⟩
                generalize (src.take len).length = N at hmin hfc q1 ⊢
                simp [Builtin.copy_, hat, run_underlying hu, Builtin.lenOf, hT.size, hmin, hfc, q1, goInt]
            · cases h
        · cases h
      · cases h

theorem clear_sound {P : Program} (hs : Sim I m H w) {t el : Nat} {ats : Array TypeId} (hat : ats[0]? = some t) {T : TI} (hu : P.underlying t = some (.slice el)) (hT : TIOK P el T) {x : V} {ux : Value} (hx : Rep m x I ux)
    (h : clearA T H lo x = some e) : BiOut P (do pure (.value (← Builtin.clear_ ats ty #[ux]))) I m H lo w e.v (puts H e.wr) := by
  unfold clearA at h
  split at h
  · rename_i id off len
    split at h
    · cases h
    rename_i hlt
    split at h
    · rename_i es l hb
      cases hes' : Nat.beq es T.size with
      | false => rw [hes'] at h; cases h
      | true =>
        rw [hes'] at h
        simp only [cond_true] at h
        have := Nat.eq_of_beq_eq_true hes'
        subst this
        have hb' := hget_rows hb
        split at h
        · rename_i l' hset
          simp only [Option.some.injEq] at h
          subst h
          unfold Rep at hx
          obtain ⟨f, ad1, hf, rfl, g1, g2, g3⟩ := hx
          have hflat := RowsFlat.zero (m := m) (I := I) hT len
          by_cases h0 : len = 0
          · subst h0
            simp only [List.replicate_zero, setAt, Option.some.injEq] at hset
            subst hset
            obtain ⟨f', hf', hB⟩ := hs.blk id _ hb' rfl
            rw [hf] at hf'
            cases hf'
            obtain ⟨s1, s2⟩ := hs.upd (lo := lo) ⟨_, hb', rfl⟩ (by omega) hf (Stays.rfl' w) (fun _ _ => rfl) hB (by intro h; cases h)
            refine ⟨.tuple #[], w, I, ?_, s1, Rep.undef, s2⟩
            cases ad1 <;> simp [Builtin.clear_, hat, run_underlying hu]
          · obtain ⟨a', w', rfl, q1, s1, s2⟩ := hs.over (lo := lo) (P := P) hb' (by omega) hf g1 g2 (by simp [h0]) (by simp) hset hflat
            refine ⟨.tuple #[], w', I, ?_, s1, Rep.undef, s2⟩
            have hz := zeros_arr hT (len * T.size)
            have hzc : (Builtin.zeroCells T.zeroC.cells len).toList = (List.range (len * T.size)).map fun k => (T.zs[k % T.size]?).getD default := by
              unfold Builtin.zeroCells
              rw [TI.zero_cells hT]
              have hq : (Array.range (len * T.zs.toArray.size)).map (fun i => T.zs.toArray[i % T.zs.toArray.size]!) = ((List.range (len * T.size)).map fun k => (T.zs[k % T.size]?).getD default).toArray := by
                rw [← hz]
                simp [hT.zlen]
              rw [hq]
            cases len with
            | zero => exact absurd rfl h0
            | succ len => simp [Builtin.clear_, hat, run_underlying hu, hT.zero, hzc, q1]
        · cases h
    · cases h
  · cases h

/-! ### Maps -/

theorem mapTI_spec (hC : C.OK) {t : Nat} {kd : Kd} {Te : TI} (h : mapTI C t = some (kd, Te)) : ∃ kt el Tk, C.P.underlying t = some (.map kt el) ∧ Tk.kd = kd ∧ TIOK C.P kt Tk ∧ TIOK C.P el Te := by
  unfold mapTI at h
  split at h
  · rename_i T hT
    split at h
    · rename_i kt el hk
      have hkd := (hC.ty _ _ hT).kd
      rw [hk] at hkd
      split at h
      · rename_i Tk Te' hTk hTe
        simp only [Option.some.injEq, Prod.mk.injEq] at h
        obtain ⟨rfl, rfl⟩ := h
        exact ⟨kt, el, Tk, hkd, rfl, hC.ty _ _ hTk, hC.ty _ _ hTe⟩
      · cases h
    · cases h
  · cases h

theorem keyOK_spec {kd : Kd} {k : V} (h : keyOK kd k = true) : ∃ ik n, kd = .int ik ∧ k = .lit (.int ik n) := by
  unfold keyOK at h
  split at h
  · rename_i ik k' n
    rw [kindEq_iff] at h
    subst h
    exact ⟨_, n, rfl, rfl⟩
  · cases h

/-- Where a number is among the keys. -/
theorem findA_spec {ik : IntKind} {n : Int} : ∀ {ks : List V} {us : List Value} {i : Nat} {r : Option Nat}, RepL m ks I us → findA (.lit (.int ik n)) ks i = some r →
    match r with
    | some j => i ≤ j ∧ us[j - i]? = some (.int ik n)
    | none => (∀ x ∈ us, ∃ n', x = .int ik n' ∧ n' ≠ n)
  | [], us, i, r, hr, h => by
    simp only [findA, Option.some.injEq] at h
    subst h
    unfold RepL at hr
    subst hr
    intro x hx; cases hx
  | k :: ks, us, i, r, hr, h => by
    unfold RepL at hr
    obtain ⟨u, us', rfl, h1, h2⟩ := hr
    simp only [findA] at h
    cases hk : keyEq (.lit (.int ik n)) k with
    | none => rw [hk] at h; cases h
    | some b =>
      rw [hk] at h
      unfold keyEq at hk
      split at hk
      · rename_i q1 q2 q3 q4 e1
        cases e1
        split at hk
        · rename_i he
          rw [kindEq_iff] at he
          subst he
          simp only [Option.some.injEq] at hk
          have hu := h1.lit
          subst hu
          cases b with
          | true =>
            simp only [Option.some.injEq] at h
            subst h
            have := of_decide_eq_true hk
            subst this
            exact ⟨Nat.le_refl _, by simp⟩
          | false =>
            have hne := of_decide_eq_false hk
            have ih := findA_spec h2 h
            cases r with
            | some j =>
              obtain ⟨h3, h4⟩ := ih
              refine ⟨by omega, ?_⟩
              rw [show j - i = (j - (i + 1)) + 1 by omega]
              simpa using h4
            | none =>
              intro x hx
              rcases List.mem_cons.1 hx with rfl | hx
              · exact ⟨_, rfl, fun e => hne e.symm⟩
              · exact ih x hx
        · cases hk
      · rename_i e1; cases e1
      · cases hk

theorem run_findKey {P : Program} {kt : Nat} {ik : IntKind} (hu : P.underlying kt = some (.int ik)) {n : Int} {es : List MapEntry} {r : Option (Nat × Value)} (h : findE ik n es 0 = some r) : (Instr.findKey kt (.int ik n) es).run P w = .ok r w := by
  unfold findE at h
  simp [Instr.findKey, run_underlying hu, h]

/-- The entry with a key, wherever it is. -/
theorem findE_perm {ik : IntKind} {n : Int} {es es' : List MapEntry} {j : Nat} {v : Value} {en : MapEntry} (hp : es.Perm es') (hnd : (es'.map (·.key)).Nodup) (hun : Uni (es'.map (·.key))) (hj : es'[j]? = some en) (hk : en.key = .int ik n) :
    ∃ i, findE ik n es 0 = some (some (i, en.val)) ∧ es[i]? = some en := by
  obtain ⟨k0, hun⟩ := hun
  have hk0 : k0 = ik := by
    obtain ⟨n', h⟩ := hun en.key (List.mem_map.2 ⟨en, List.mem_of_getElem? hj, rfl⟩)
    rw [hk] at h
    cases h; rfl
  subst hk0
  have hmem : en ∈ es := hp.mem_iff.2 (List.mem_of_getElem? hj)
  obtain ⟨i, hi⟩ := List.mem_iff_getElem?.1 hmem
  have hnd' : (es.map (·.key)).Nodup := (hp.map _).nodup_iff.2 hnd
  refine ⟨i, ?_, hi⟩
  have := findE_some (ik := k0) (n := n) (v := en.val) (b := en.born) (es := es) (j := i) (i := 0) (fun k e hki he => ?_) (by rw [hi, ← hk])
  · simpa using this
  · have hek : e.key ∈ es'.map (·.key) := List.mem_map.2 ⟨e, hp.mem_iff.1 (List.mem_of_getElem? he), rfl⟩
    obtain ⟨n', h⟩ := hun _ hek
    refine ⟨n', h, ?_⟩
    rintro rfl
    have h1 : (es.map (·.key))[k]? = some (.int k0 n') := by simp [he, h]
    have h2 : (es.map (·.key))[i]? = some (.int k0 n') := by simp [hi, hk]
    have := (List.getElem?_inj (List.getElem?_eq_some_iff.1 h1).1 hnd').1 (h1.trans h2.symm)
    omega

theorem findE_perm_none {ik : IntKind} {n : Int} {es es' : List MapEntry} (hp : es.Perm es') (h : ∀ x ∈ es'.map (·.key), ∃ n', x = .int ik n' ∧ n' ≠ n) : findE ik n es 0 = some none :=
  findE_none fun e he => h _ (List.mem_map.2 ⟨e, hp.mem_iff.1 he, rfl⟩)

/-- What a look-up finds. -/
theorem lookIn_sound {ik : IntKind} {n : Int} {ks vs : List V} {es : List MapEntry} {Te : TI} {P : Program} {el kt t : Nat} {ok : Bool} {rd : List Nat} {x : Value} {cl0 : Nat} (hu : P.underlying t = some (.map kt el)) (hk : P.underlying kt = some (.int ik)) (hT : TIOK P el Te)
    (hM : MapIn m I ks vs es cl0) (h : lookIn Te ok (.lit (.int ik n)) ks vs rd = some e) (hx : (x = .map none ∧ es = []) ∨ ∃ b cl, x = .map (some b) ∧ w.heap[b]? = some (.map es.toArray cl)) :
    ∃ u, (Instr.lookup t x (.int ik n) ok).run P w = .ok u w ∧ Rep m e.v I u ∧ e.wr = [] := by
  obtain ⟨es', h1, h2, h3, h4, h5, _⟩ := hM
  have run : ∀ {r : Option (Nat × Value)}, findE ik n es 0 = some r → (Instr.lookup t x (.int ik n) ok).run P w = (match r with | some (_, v) => .ok (if ok then .tuple #[v, .bool true] else v) w | none => .ok (if ok then .tuple #[Te.zeroC, .bool false] else Te.zeroC) w) := by
    intro r hr
    have hfk := run_findKey (w := w) hk hr
    rcases hx with ⟨rfl, rfl⟩ | ⟨b, cl, rfl, hw⟩
    · cases r with
      | none => simp [Instr.lookup, run_underlying hu, checkKey_int hk, hfk, hT.zero]
      | some p => obtain ⟨i, v⟩ := p; simp [Instr.lookup, run_underlying hu, checkKey_int hk, hfk]
    · have hg := getObj_map (P := P) hw
      cases r with
      | none => simp [Instr.lookup, run_underlying hu, hg, checkKey_int hk, hfk, hT.zero]
      | some p => obtain ⟨i, v⟩ := p; simp [Instr.lookup, run_underlying hu, hg, checkKey_int hk, hfk]
  unfold lookIn at h
  split at h
  · rename_i i hi
    have hsp := findA_spec h3 hi
    simp only [Nat.sub_zero] at hsp
    split at h
    · rename_i v hv
      simp only [Option.some.injEq] at h
      subst h
      rw [get_eq] at hv
      obtain ⟨uv, hv1, hv2⟩ := h4.get hv
      have hen : ∃ en, es'[i]? = some en ∧ en.key = .int ik n ∧ en.val = uv := by
        have := hsp.2
        rw [List.getElem?_map, Option.map_eq_some_iff] at this
        obtain ⟨en, q1, q2⟩ := this
        rw [List.getElem?_map, q1] at hv1
        exact ⟨en, q1, q2, by simpa using hv1⟩
      obtain ⟨en, q1, q2, q3⟩ := hen
      obtain ⟨j, q4, q5⟩ := findE_perm (v := en.val) h1 h2 h5 q1 q2
      refine ⟨_, run q4, ?_, rfl⟩
      rw [q3]
      cases ok with
      | true =>
        simp only [cond_true, if_true]
        unfold Rep
        refine ⟨[uv, .bool true], rfl, ?_⟩
        unfold RepL
        refine ⟨uv, [.bool true], rfl, hv2, ?_⟩
        unfold RepL
        exact ⟨.bool true, [], rfl, Rep.bool, by unfold RepL; rfl⟩
      | false => simpa using hv2
    · cases h
  · rename_i hi
    have hsp := findA_spec h3 hi
    simp only [Option.some.injEq] at h
    subst h
    refine ⟨_, run (findE_perm_none h1 hsp), ?_, rfl⟩
    cases ok with
    | true =>
      simp only [cond_true, if_true]
      unfold Rep
      refine ⟨[Te.zeroC, .bool false], rfl, ?_⟩
      unfold RepL
      refine ⟨Te.zeroC, [.bool false], rfl, TI.zero_rep hT, ?_⟩
      unfold RepL
      exact ⟨.bool false, [], rfl, Rep.bool, by unfold RepL; rfl⟩
    | false => simpa using TI.zero_rep hT
  · cases h

theorem op_lookup (hC : C.OK) (hs : Sim I m H w) (hk : Slots m I K a.tmps) {t : Nat} {x k : Operand} {ok : Bool} (h : effLookup C K H t x k ok = some e) : OpOut C.P ⟨dst, .lookup t x k ok, ty, pos, after, g⟩ a I m H lo w e.v (puts H e.wr) := by
  unfold effLookup at h
  split at h
  · rename_i xv kv hx hkv
    have hxr := kev_rep hk hx
    have hkr := kev_rep hk hkv
    unfold lookA at h
    split at h
    · rename_i kd Te hTe
      obtain ⟨kt, el, Tk, hu, hkd, hTk, hT⟩ := mapTI_spec hC hTe
      cases hko : keyOK kd kv with
      | false => rw [hko] at h; cases h
      | true =>
        rw [hko] at h
        simp only [cond_true] at h
        obtain ⟨ik, n, rfl, rfl⟩ := keyOK_spec hko
        have hkt := hTk.kd
        rw [hkd] at hkt
        have hkr' := hkr.lit
        have fin : ∀ {ks vs : List V} {es : List MapEntry} {rd : List Nat} {cl0 : Nat}, MapIn m I ks vs es cl0 → lookIn Te ok (.lit (.int ik n)) ks vs rd = some e → ((a.eval x = .map none ∧ es = []) ∨ ∃ b cl, a.eval x = .map (some b) ∧ w.heap[b]? = some (.map es.toArray cl)) → OpOut C.P ⟨dst, .lookup t x k ok, ty, pos, after, g⟩ a I m H lo w e.v (puts H e.wr) := by
          intro ks vs es rd cl0 hM hl hx'
          obtain ⟨u, h1, h2, h3⟩ := lookIn_sound hu hkt hT hM hl hx'
          rw [h3]
          exact OpOut.pure hs (u := u) (by simp [execOp, hkr', h1]) h2
        split at h
        · exact fin (es := []) (cl0 := 0) ⟨[], List.Perm.nil, List.nodup_nil, by unfold RepL; rfl, by unfold RepL; rfl, ⟨.i64, fun x h => by cases h⟩, (fun e he => by cases he), List.nodup_nil⟩ h (.inl ⟨hxr.lit, rfl⟩)
        · unfold Rep at hxr
          obtain ⟨b, es, es', c, h1, h2, h3, h4, h5, h6, h7⟩ := hxr
          exact fin (es := es) ⟨es', h3, h4, RepL.mono (fun _ _ h => h) _ (Ij.none_le I) h5, RepL.mono (fun _ _ h => h) _ (Ij.none_le I) h6, h7⟩ h (.inr ⟨b, c, h1, hs.sub _ _ h2⟩)
        · rename_i id
          split at h
          · rename_i ks vs hb
            obtain ⟨f, h1, es, cl, h2, h3⟩ := hs.blk id _ (hget_of hb rfl) rfl
            unfold Rep at hxr
            obtain ⟨f', h4, h5⟩ := hxr
            rw [h1] at h4
            cases h4
            exact fin h3 h (.inr ⟨_, cl, h5, h2⟩)
          · cases h
        · cases h
    · cases h
  · cases h

theorem ins_perm {α : Type} : ∀ (l : List α) (n : Nat) (x : α), (ins l n x).Perm (x :: l)
  | l, 0, x => by cases l <;> exact List.Perm.refl _
  | [], n + 1, x => List.Perm.refl _
  | y :: r, n + 1, x => ((ins_perm r n x).cons y).trans (List.Perm.swap x y r)

theorem ins_map {α β : Type} (f : α → β) : ∀ (l : List α) (n : Nat) (x : α), (ins l n x).map f = ins (l.map f) n (f x)
  | l, 0, x => by cases l <;> rfl
  | [], n + 1, x => rfl
  | y :: r, n + 1, x => by simp [ins, ins_map f r n x]

theorem RepL.ins {l : List V} : ∀ {us : List Value} {n : Nat} {v : V} {u : Value}, RepL m l I us → Rep m v I u → RepL m (Am.ins l n v) I (Am.ins us n u) := by
  induction l with
  | nil =>
    intro us n v u h hv
    unfold RepL at h
    subst h
    cases n <;> (unfold RepL Am.ins; exact ⟨u, [], rfl, hv, by unfold RepL; rfl⟩)
  | cons y r ih =>
    intro us n v u h hv
    cases n with
    | zero =>
      have h0 := h
      unfold RepL at h
      obtain ⟨uy, us', rfl, hy, hr⟩ := h
      unfold Am.ins
      show RepL m (v :: y :: r) I (u :: uy :: us')
      unfold RepL
      exact ⟨u, _, rfl, hv, h0⟩
    | succ n =>
      unfold RepL at h
      obtain ⟨uy, us', rfl, hy, hr⟩ := h
      unfold Am.ins
      unfold RepL
      exact ⟨uy, _, rfl, hy, ih hr hv⟩

theorem RepL.set' {l : List V} {us : List Value} {n : Nat} {v : V} {u : Value} (h : RepL m l I us) (hv : Rep m v I u) : RepL m (l.set n v) I (us.set n u) := by
  have hl := h.len
  refine RepL.mk (by simp [hl]) fun i x ux hx hux => ?_
  by_cases he : n = i
  · subst he
    rw [List.getElem?_set] at hx hux
    simp only [if_true] at hx hux
    split at hx
    · rename_i h1
      simp only [Option.some.injEq] at hx
      rw [if_pos (by rw [hl]; exact h1), Option.some.injEq] at hux
      subst hx; subst hux; exact hv
    · cases hx
  · rw [List.getElem?_set_ne he] at hx hux
    obtain ⟨u', h1, h2⟩ := h.get hx
    rw [hux] at h1; cases h1; exact h2

open Classical in
/-- The entry with a key gets another value. -/
noncomputable def putVal (k v : Value) (e : MapEntry) : MapEntry := if e.key = k then { e with key := k, val := v } else e

theorem putVal_key (k v : Value) (e : MapEntry) : (putVal k v e).key = e.key := by
  unfold putVal
  split
  · rename_i h; exact h.symm
  · rfl

theorem set_eq_map {es : List MapEntry} {i : Nat} {en : MapEntry} {k v : Value} (hnd : (es.map (·.key)).Nodup) (hi : es[i]? = some en) (hk : en.key = k) : es.set i { en with key := k, val := v } = es.map (putVal k v) := by
  apply List.ext_getElem?
  intro j
  rw [List.getElem?_map]
  by_cases he : i = j
  · subst he
    rw [List.getElem?_set_self (List.getElem?_eq_some_iff.1 hi).1, hi]
    simp [putVal, hk]
  · rw [List.getElem?_set_ne he]
    cases hj : es[j]? with
    | none => rfl
    | some e =>
      simp only [Option.map_some, Option.some.injEq]
      unfold putVal
      rw [if_neg]
      intro hek
      have h1 : (es.map (·.key))[i]? = some k := by simp [hi, hk]
      have h2 : (es.map (·.key))[j]? = some k := by simp [hj, hek]
      exact he ((List.getElem?_inj (List.getElem?_eq_some_iff.1 h1).1 hnd).1 (h1.trans h2.symm))

theorem map_key_putVal (k v : Value) (es : List MapEntry) : (es.map (putVal k v)).map (·.key) = es.map (·.key) := by
  simp [putVal_key]

theorem born_putVal {k v : Value} {es : List MapEntry} {c : Nat} (h : Born es c) : Born (es.map (putVal k v)) c := by
  have hb : ∀ e : MapEntry, (putVal k v e).born = e.born := fun e => by unfold putVal; split <;> rfl
  refine ⟨fun e he => ?_, ?_⟩
  · obtain ⟨e0, h1, rfl⟩ := List.mem_map.1 he
    rw [hb]; exact h.1 e0 h1
  · rw [List.map_map]
    have : ((fun e : MapEntry => e.born) ∘ putVal k v) = (fun e => e.born) := funext hb
    rw [this]; exact h.2
theorem born_push {k v : Value} {es : List MapEntry} {c : Nat} (h : Born es c) : Born (es ++ [MapEntry.mk k v c]) (c + 1) := by
  refine ⟨fun e he => ?_, ?_⟩
  · rcases List.mem_append.1 he with he | he
    · exact Nat.lt_succ_of_lt (h.1 e he)
    · simp only [List.mem_singleton] at he; subst he; exact Nat.lt_succ_self c
  · rw [List.map_append, List.nodup_append]
    refine ⟨h.2, by simp, fun a ha b hb => ?_⟩
    obtain ⟨e, he, rfl⟩ := List.mem_map.1 ha
    simp only [List.map_cons, List.map_nil, List.mem_singleton] at hb
    subst hb
    have := h.1 e he
    omega

theorem sameBits_int {n : Nat} {k : IntKind} {i : Int} : Instr.sameBits (n + 1) (.int k i) (.int k i) = true := by simp [Instr.sameBits]

theorem mapPut_sound (hC : C.OK) (hs : Sim I m H w) {t : Nat} {x k v : V} {ux uk uv : Value} (hx : Rep m x I ux) (hk : Rep m k I uk) (hv : Rep m v I uv) (h : mapPut C H lo t x k v = some e) :
    ∃ w', (Instr.mapUpdate t ux uk uv).run C.P w = .ok () w' ∧ Sim I m (puts H e.wr) w' ∧ Fx I H lo w I (puts H e.wr) w' ∧ e.v = undefV := by
  unfold mapPut at h
  split at h
  · rename_i kd Te hTe
    obtain ⟨kt, el, Tk, hu, hkd, hTk, hT⟩ := mapTI_spec hC hTe
    cases hko : keyOK kd k with
    | false => rw [hko] at h; cases h
    | true =>
      rw [hko] at h
      simp only [cond_true] at h
      obtain ⟨ik, n, rfl, rfl⟩ := keyOK_spec hko
      have hkt := hTk.kd
      rw [hkd] at hkt
      have := hk.lit
      subst this
      split at h
      · rename_i id
        split at h
        · cases h
        rename_i hlt
        split at h
        · rename_i ks vs hb
          have hb' := hget_of hb rfl
          obtain ⟨f, h1, es, cl, h2, hM⟩ := hs.blk id _ hb' rfl
          unfold Rep at hx
          obtain ⟨f', h4, rfl⟩ := hx
          rw [h1] at h4
          cases h4
          obtain ⟨es', m1, m2, m3, m4, m5, mb⟩ := hM
          have hg := getObj_map (P := C.P) h2
          have hlt' : f.b < w.heap.size := (Array.getElem?_eq_some_iff.1 h2).1
          have fin : ∀ {ks' vs' : List V} {es2 : List MapEntry} {cl2 : Nat}, MapIn m I ks' vs' es2 cl2 → (Instr.mapUpdate t (.map (some f.b)) (.int ik n) uv).run C.P w = .ok () { w with heap := w.heap.setIfInBounds f.b (.map es2.toArray cl2) } →
              ∃ w', (Instr.mapUpdate t (.map (some f.b)) (.int ik n) uv).run C.P w = .ok () w' ∧ Sim I m (hput H id (.map ks' vs')) w' ∧ Fx I H lo w I (hput H id (.map ks' vs')) w' := by
            intro ks' vs' es2 cl2 hM' hr
            have hB : BlkOK I m { w with heap := w.heap.setIfInBounds f.b (.map es2.toArray cl2) } f (.map ks' vs') := ⟨es2, cl2, by simp [hlt'], hM'⟩
            obtain ⟨s1, s2⟩ := hs.upd (lo := lo) ⟨_, hb', rfl⟩ (by omega) h1 (w' := { w with heap := w.heap.setIfInBounds f.b (.map es2.toArray cl2) }) ⟨rfl, rfl, rfl, by simp⟩ (fun k hk => by
              show (w.heap.setIfInBounds f.b _)[k]? = _
              rw [Array.getElem?_setIfInBounds_ne (fun e => hk e.symm)]) hB (by intro h; cases h)
            exact ⟨_, hr, s1, s2⟩
          split at h
          · rename_i i hi
            have hsp := findA_spec m3 hi
            simp only [Nat.sub_zero, Option.some.injEq] at hsp h
            subst h
            have hen : ∃ en, es'[i]? = some en ∧ en.key = .int ik n := by
              have := hsp.2
              rw [List.getElem?_map, Option.map_eq_some_iff] at this
              exact this
            obtain ⟨en, q1, q2⟩ := hen
            obtain ⟨j, q4, q5⟩ := findE_perm (v := en.val) m1 m2 m5 q1 q2
            have hfk := run_findKey (w := w) hkt q4
            have hnd' : (es.map (·.key)).Nodup := (m1.map _).nodup_iff.2 m2
            have hset : es.toArray.modify j (fun e => { e with key := .int ik n, val := uv }) = (es.map (putVal (.int ik n) uv)).toArray := by
              rw [← set_eq_map hnd' q5 q2]
              have hj := (List.getElem?_eq_some_iff.1 q5).1
              apply Array.ext_getElem?
              intro i'
              rw [Array.getElem?_modify]
              by_cases he : j = i'
              · subst he
                have hej : es[j] = en := (List.getElem?_eq_some_iff.1 q5).2
                simp [q5, hj, hej]
              · simp [he, List.getElem?_set_ne he]
            have hset' : es.modify j (fun e => { e with key := .int ik n, val := uv }) = es.map (putVal (.int ik n) uv) := by
              have := hset
              simpa using this
            obtain ⟨w', r1, r2, r3⟩ := fin (ks' := ks) (vs' := set vs i v) (es2 := es.map (putVal (.int ik n) uv)) (cl2 := cl) ⟨es'.map (putVal (.int ik n) uv), m1.map _, by rw [map_key_putVal]; exact m2, by rw [map_key_putVal]; exact m3, by
                rw [← set_eq_map m2 q1 q2, List.map_set, set_eq]
                exact m4.set' hv, by rw [map_key_putVal]; exact m5, born_putVal mb⟩ (by
                have hq5 : es.toArray[j]? = some en := by simpa using q5
                simp [Instr.mapUpdate, run_underlying hu, hg, checkKey_int hkt, hfk, q5, q2, Instr.keyThatStays, sameBits_int, hset', run_setObj_map h2])
            exact ⟨w', r1, r2, r3, rfl⟩
          · rename_i hi
            have hsp := findA_spec m3 hi
            simp only [Option.some.injEq] at hsp h
            subst h
            have q4 := findE_perm_none m1 hsp
            have hfk := run_findKey (w := w) hkt q4
            have hpush : es.toArray.push (MapEntry.mk (.int ik n) uv cl) = (es ++ [MapEntry.mk (.int ik n) uv cl]).toArray := by simp
            obtain ⟨w', r1, r2, r3⟩ := fin (ks' := ins ks (insAt (.lit (.int ik n)) ks) (.lit (.int ik n))) (vs' := ins vs (insAt (.lit (.int ik n)) ks) v) (es2 := es ++ [MapEntry.mk (.int ik n) uv cl]) (cl2 := cl + 1)
              ⟨ins es' (insAt (.lit (.int ik n)) ks) (MapEntry.mk (.int ik n) uv cl), (m1.append_right _).trans ((List.perm_append_singleton _ _).trans (ins_perm _ _ _).symm), by
                rw [ins_map]
                refine (ins_perm _ _ _).nodup_iff.2 (List.nodup_cons.2 ⟨fun hm => ?_, m2⟩)
                obtain ⟨n', h5, h6⟩ := hsp _ hm
                cases h5
                exact h6 rfl, by rw [ins_map]; exact m3.ins Rep.int, by rw [ins_map]; exact m4.ins hv, ⟨ik, fun x hx => by
                rw [ins_map] at hx
                rcases List.mem_cons.1 ((ins_perm _ _ _).mem_iff.1 hx) with rfl | hx
                · exact ⟨n, rfl⟩
                · obtain ⟨n', h5, _⟩ := hsp x hx; exact ⟨n', h5⟩⟩, born_push mb⟩ (by
                simp [Instr.mapUpdate, run_underlying hu, hg, checkKey_int hkt, hfk, hpush, run_setObj_map h2])
            exact ⟨w', r1, r2, r3, rfl⟩
          · cases h
        · cases h
      · cases h
  · cases h

theorem op_mapPut (hC : C.OK) (hs : Sim I m H w) (hk : Slots m I K a.tmps) {t : Nat} {x k v : Operand} {op : Op} (hop : op = .mapUpdate t x k v ∨ op = .insert t x k v) (h : effMapPut C K H lo t x k v = some e) : OpOut C.P ⟨dst, op, ty, pos, after, g⟩ a I m H lo w e.v (puts H e.wr) := by
  unfold effMapPut at h
  split at h
  · rename_i xv kv vv hx hkv hv
    obtain ⟨w', h1, h2, h3, h4⟩ := mapPut_sound hC hs (kev_rep hk hx) (kev_rep hk hkv) (kev_rep hk hv) h
    refine ⟨.skip, w', I, Go.undef, ?_, .inr ⟨rfl, rfl⟩, h2, by rw [h4]; exact Rep.undef, h3⟩
    rcases hop with rfl | rfl <;> simp [execOp, h1]
  · cases h

end
end Go.Am
