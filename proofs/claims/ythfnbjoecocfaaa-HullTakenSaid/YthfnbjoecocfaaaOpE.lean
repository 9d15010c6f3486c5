/- Places in slices, parts of slices, lengths, least and greatest numbers: as in the model. Conditions: none. -/
import Derived.Test.YthfnbjoecocfaaaOpA
set_option linter.unusedVariables false
set_option linter.unusedSimpArgs false
namespace Go.Am
open Go Go.Wk

section
variable {C : Cfg} {I : Ij} {m : Mem} {H : List Blk} {w : World} {K : List (Nat × V)} {a : Act} {lo nid : Nat} {dst : Option Tmp} {ty : TypeId} {pos : String} {after : Array Edge} {g : Option (Nat × Bool)} {e : Eff}

theorem Sim.es (hs : Sim I m H w) {id es : Nat} {l : List V} {f : Inf} (h : Am.get H id = some (.rows es l)) (hf : I id = some f) : f.es = es ∧ l.length ≤ f.cap ∧ 0 < es := by
  obtain ⟨f', h1, h2, c, ty, h3, h4, h5, h6, h7, h8⟩ := hs.blk id _ h rfl
  rw [hf] at h1
  cases h1
  exact ⟨h2, h5, h7⟩

theorem op_indexAddr (hC : C.OK) (hs : Sim I m H w) (hk : Slots m I K a.tmps) {t : Nat} {x i : Operand} (h : effIndexAddr C K H t x i = some e) : OpOut C.P ⟨dst, .indexAddr t x i, ty, pos, after, g⟩ a I m H lo w e.v (puts H e.wr) := by
  unfold effIndexAddr at h
  split at h
  · rename_i T v ik n hT hx hi
    split at h
    · rename_i p hp
      simp only [Option.some.injEq] at h
      subst h
      have hkd := (hC.ty _ _ hT).kd
      have hxr := kev_rep hk hx
      have hir := (kev_rep hk hi).lit
      unfold indexA at hp
      split at hp
      · rename_i el es l hk'
        rw [hk'] at hkd
        split at hp
        · rename_i hn
          obtain ⟨hn0, hn1, hro⟩ := hn
          simp only [Option.some.injEq] at hp
          subst hp
          have hlt : n.toNat < l.length := by omega
          have hro' : l[n.toNat].cells.length = es := by
            rw [get_eq, List.getElem?_eq_getElem hlt] at hro
            exact Nat.eq_of_beq_eq_true hro
          unfold Rep at hxr
          obtain ⟨ad, cap, es', h1, h2, h3⟩ := hxr
          obtain ⟨b, o, rfl, h4⟩ := h3 (by intro e; subst e; simp at hlt)
          obtain ⟨ur, h5, h6⟩ := h4.get (List.getElem?_eq_getElem hlt)
          have hes : es' = es := by rw [← h6.1, h5.size, hro']
          subst hes
          refine OpOut.pure hs (u := .pointer (some ⟨b, o + n.toNat * es' + 0, none⟩)) ?_ ?_
          · simp [execOp, h1, hir, Instr.indexAt, asIntOf, run_underlying hkd.1, hn0, hn1, hkd.2, Addr.add_n]
          · unfold Rep
            exact ⟨b, o, es', rfl, h4⟩
        · cases hp
      · rename_i el es id off len hk'
        rw [hk'] at hkd
        split at hp
        · rename_i es' l hb
          split at hp
          · rename_i hn
            obtain ⟨hn0, hn1, hro⟩ := hn
            simp only [Option.some.injEq] at hp
            subst hp
            have := Nat.eq_of_beq_eq_true hro
            subst this
            unfold Rep at hxr
            obtain ⟨f, ad, h1, h2, h3, h4, h5⟩ := hxr
            have hse := (hs.es (hget_rows hb) h1).1
            have had := h4 (by omega)
            subst had
            refine OpOut.pure hs (u := .pointer (some ⟨f.b, f.o + off * f.es + n.toNat * f.es, none⟩)) ?_ ?_
            · simp [execOp, h2, hir, Instr.indexAt, asIntOf, run_underlying hkd.1, hn0, hn1, hkd.2, Addr.add_n, hse]
            · unfold Rep
              exact ⟨f, h1, by rw [Nat.add_mul]; simp [Nat.add_assoc]⟩
          · cases hp
        · cases hp
      · rename_i k el es id i' off hk'
        rw [hk'] at hkd
        split at hp
        · rename_i hn
          simp only [Option.some.injEq] at hp
          subst hp
          unfold Rep at hxr
          obtain ⟨f, h1, h2⟩ := hxr
          refine OpOut.pure hs (u := .pointer (some ⟨f.b, f.o + i' * f.es + off + n.toNat * es, none⟩)) ?_ ?_
          · simp [execOp, h2, hir, Instr.indexAt, asIntOf, run_underlying hkd.1, hn.1, hn.2, hkd.2.1, Addr.add_n, Instr.sureAddr]
          · unfold Rep
            exact ⟨f, h1, by simp [Nat.add_assoc]⟩
        · cases hp
      · rename_i k el es l i' off hk'
        rw [hk'] at hkd
        split at hp
        · rename_i hn
          simp only [Option.some.injEq] at hp
          subst hp
          unfold Rep at hxr
          obtain ⟨b, o, es', h1, h2⟩ := hxr
          refine OpOut.pure hs (u := .pointer (some ⟨b, o + i' * es' + off + n.toNat * es, none⟩)) ?_ ?_
          · simp [execOp, h1, hir, Instr.indexAt, asIntOf, run_underlying hkd.1, hn.1, hn.2, hkd.2.1, Addr.add_n, Instr.sureAddr]
          · unfold Rep
            exact ⟨b, o, es', by simp [Nat.add_assoc], h2⟩
        · cases hp
      · cases hp
    · cases h
  · cases h

theorem boundA_eq (hk : Slots m I K a.tmps) {l : Option Operand} {d lo' : Int} (h : boundA K l d = some lo') : (l = none ∧ lo' = d) ∨ ∃ x k, l = some x ∧ a.eval x = .int k lo' := by
  unfold boundA at h
  split at h
  · exact .inl ⟨rfl, (Option.some.inj h).symm⟩
  · rename_i x
    split at h
    · rename_i k n hx
      simp only [Option.some.injEq] at h
      subst h
      exact .inr ⟨x, k, rfl, (kev_rep hk hx).lit⟩
    · cases h

theorem run_sliceBound {P : Program} {k : IntKind} {x y : Nat} {code : BoundsCode} (h : x ≤ y) : (Instr.sliceBound (.int k (x : Int)) y code).run P w = .ok x w := by
  have : (x : Int) ≤ (y : Int) := by omega
  simp [Instr.sliceBound, asIntOf, this, h]

theorem run_sliceAt {P : Program} {t el es : Nat} (hu : P.underlying t = some (.slice el)) (hsz : ∀ w, (Go.sizeOf el).run P w = .ok es w) {ad : Option Addr} {len cap x y z : Nat} {l h mx : Option Value}
    (hl : (l = none ∧ x = 0) ∨ ∃ k, l = some (.int k (x : Int))) (hh : (h = none ∧ y = len) ∨ ∃ k, h = some (.int k (y : Int))) (hm : (mx = none ∧ z = cap) ∨ ∃ k, mx = some (.int k (z : Int))) (hmh : mx ≠ none → h ≠ none)
    (h1 : x ≤ y) (h2 : y ≤ z) (h3 : z ≤ cap) : (Instr.sliceAt t (.slice ad len cap) l h mx).run P w = .ok (.slice (if z = x then ad else ad.map (·.add (x * es))) (y - x) (z - x)) w := by
  have key : ∀ (lv hv mv : Sem Nat), lv.run P w = .ok x w → hv.run P w = .ok y w → mv.run P w = .ok z w → True := fun _ _ _ _ _ _ => trivial
  have hb : (Instr.sliceBounds true len cap l h mx).run P w = .ok (x, y, z) w := by
    unfold Instr.sliceBounds
    rcases hm with ⟨rfl, rfl⟩ | ⟨k3, rfl⟩
    · rcases hh with ⟨rfl, rfl⟩ | ⟨k2, rfl⟩
      · rcases hl with ⟨rfl, rfl⟩ | ⟨k1, rfl⟩
        · simp
        · simp [run_sliceBound h1]
      · rcases hl with ⟨rfl, rfl⟩ | ⟨k1, rfl⟩
        · simp [run_sliceBound h2]
        · simp [run_sliceBound h2, run_sliceBound h1]
    · rcases hh with ⟨rfl, rfl⟩ | ⟨k2, rfl⟩
      · exact absurd rfl (hmh (by simp))
      · rcases hl with ⟨rfl, rfl⟩ | ⟨k1, rfl⟩
        · simp [run_sliceBound h3, run_sliceBound h2]
        · simp [run_sliceBound h3, run_sliceBound h2, run_sliceBound h1]
  simp [Instr.sliceAt, Instr.slice, run_underlying hu, hb, hsz]

theorem op_slice (hC : C.OK) (hs : Sim I m H w) (hk : Slots m I K a.tmps) {t : Nat} {x : Operand} {l h mx : Option Operand} (hh : effSlice C K H t x l h mx = some e) : OpOut C.P ⟨dst, .slice t x l h mx, ty, pos, after, g⟩ a I m H lo w e.v (puts H e.wr) := by
  unfold effSlice at hh
  split at hh
  · rename_i Te v hTe hx
    obtain ⟨T, el, es, hT, hkd, hTe'⟩ : ∃ T el es, C.ty t = some T ∧ T.kd = .slice el es ∧ C.ty el = some Te := by
      unfold sliceElem at hTe
      split at hTe
      · rename_i T hT
        split at hTe
        · rename_i el es hk'; exact ⟨T, el, es, hT, hk', hTe⟩
        · cases hTe
      · cases hTe
    have hu := (hC.ty _ _ hT).kd
    rw [hkd] at hu
    have hsz := (hC.ty _ _ hTe').size
    have hxr := kev_rep hk hx
    unfold effSliceB at hh
    split at hh
    · cases hh
    rename_i hmh
    split at hh
    · rename_i n hn
      split at hh
      · rename_i lo' hi' hlo hhi
        split at hh
        · rename_i m' hm'
          split at hh
          · rename_i p hp
            simp only [Option.some.injEq] at hh
            subst hh
            have elo := boundA_eq hk hlo
            have ehi := boundA_eq hk hhi
            have em := boundA_eq hk hm'
            have hmh' : mx.map a.eval ≠ none → h.map a.eval ≠ none := by
              intro h1 h2
              cases mx <;> cases h <;> simp_all
            have opt : ∀ {q : Option Operand} {d v : Int} {N : Nat}, v = (N : Int) → ((q = none ∧ v = d) ∨ ∃ x k, q = some x ∧ a.eval x = .int k v) → (q.map a.eval = none ∧ v = d) ∨ ∃ k, q.map a.eval = some (.int k (N : Int)) := by
              rintro q d v N rfl (⟨rfl, h2⟩ | ⟨x, k, rfl, h3⟩)
              · exact .inl ⟨rfl, h2⟩
              · exact .inr ⟨k, by simp [h3]⟩
            unfold sliceA at hp
            split at hp
            · rename_i rows
              split at hp
              · rename_i hc
                obtain ⟨h0, h1, h2, h3, hro⟩ := hc
                simp only [Option.some.injEq] at hp
                subst hp
                simp only [lenS, Option.some.injEq] at hn
                subst hn
                obtain ⟨X, rfl⟩ := Int.eq_ofNat_of_zero_le h0
                obtain ⟨Y, rfl⟩ := Int.eq_ofNat_of_zero_le (by omega : 0 ≤ hi')
                obtain ⟨Z, rfl⟩ := Int.eq_ofNat_of_zero_le (by omega : 0 ≤ m')
                have h1' : X ≤ Y := by omega
                have h2' : Y ≤ Z := by omega
                have h3' : Z ≤ rows.length := by omega
                unfold Rep at hxr
                obtain ⟨ad, cap, es', g1, g2, g3⟩ := hxr
                obtain ⟨Z', hz1, hz2, hz3⟩ : ∃ Z', ((mx.map a.eval = none ∧ Z' = cap) ∨ ∃ k, mx.map a.eval = some (.int k (Z' : Int))) ∧ Y ≤ Z' ∧ Z' ≤ cap := by
                  rcases em with ⟨rfl, _⟩ | ⟨x, k, rfl, h4⟩
                  · exact ⟨cap, .inl ⟨rfl, rfl⟩, by omega, Nat.le_refl _⟩
                  · exact ⟨Z, .inr ⟨k, by simp [h4]⟩, h2', by omega⟩
                have hr := run_sliceAt (w := w) (P := C.P) hu.1 hsz (ad := ad) (len := rows.length) (cap := cap) (x := X) (y := Y) (z := Z') (l := l.map a.eval) (h := h.map a.eval) (mx := mx.map a.eval)
                  (by rcases opt rfl elo with ⟨q1, q2⟩ | q; exact .inl ⟨q1, by omega⟩; exact .inr q) (by rcases opt rfl ehi with ⟨q1, q2⟩ | q; exact .inl ⟨q1, by omega⟩; exact .inr q) hz1 hmh' h1' hz2 hz3
                refine OpOut.pure hs ?_ (u := .slice (if Z' = X then ad else ad.map (·.add (X * Te.size))) (Y - X) (Z' - X)) ?_
                · simp [execOp, g1, hr]
                · simp only [Int.toNat_natCast] at hro ⊢
                  unfold Rep
                  have hlen : ((rows.take Y).drop X).length = Y - X := by simp; omega
                  refine ⟨_, _, es', by rw [hlen], by rw [hlen]; omega, fun hne => ?_⟩
                  have hXY : X < Y := by
                    rcases Nat.lt_or_ge X Y with h | h
                    · exact h
                    · exact absurd (List.eq_nil_of_length_eq_zero (by rw [hlen]; omega)) hne
                  obtain ⟨b, o, rfl, g4⟩ := g3 (by intro e; subst e; simp at h3'; omega)
                  have hXl : X < rows.length := by omega
                  rw [get_eq, List.getElem?_eq_getElem hXl] at hro
                  have hro' := Nat.eq_of_beq_eq_true hro
                  obtain ⟨ur, h5, h6⟩ := g4.get (List.getElem?_eq_getElem hXl)
                  have hes : es' = Te.size := by rw [← h6.1, h5.size, hro']
                  subst hes
                  refine ⟨b, o + X * Te.size, by rw [if_neg (by omega)]; simp [Addr.add_n], RepRows.mk fun i v hv => ?_⟩
                  rw [List.getElem?_drop, List.getElem?_take] at hv
                  split at hv
                  · obtain ⟨u, q1, q2⟩ := g4.get hv
                    exact ⟨u, q1, by rwa [show o + (X + i) * Te.size = o + X * Te.size + i * Te.size by rw [Nat.add_mul]; omega] at q2⟩
                  · cases hv
              · cases hp
            · rename_i id off len
              split at hp
              · cases hp
              rename_i hmx
              split at hp
              · rename_i es' rows hb
                split at hp
                · rename_i hc
                  obtain ⟨h0, h1, h2, hro⟩ := hc
                  simp only [Option.some.injEq] at hp
                  subst hp
                  have := Nat.eq_of_beq_eq_true hro
                  subst this
                  obtain ⟨X, rfl⟩ := Int.eq_ofNat_of_zero_le h0
                  obtain ⟨Y, rfl⟩ := Int.eq_ofNat_of_zero_le (by omega : 0 ≤ hi')
                  have h1' : X ≤ Y := by omega
                  unfold Rep at hxr
                  obtain ⟨f, ad, g1, g2, g3, g4, g5⟩ := hxr
                  have hse := hs.es (hget_rows hb) g1
                  simp only [lenS, Option.some.injEq] at hn
                  subst hn
                  have hmx' : mx = none := by cases mx <;> simp_all
                  subst hmx'
                  have hr := run_sliceAt (w := w) (P := C.P) hu.1 hsz (ad := ad) (len := len) (cap := f.cap - off) (x := X) (y := Y) (z := f.cap - off) (l := l.map a.eval) (h := h.map a.eval) (mx := none)
                    (by rcases opt rfl elo with ⟨q1, q2⟩ | q; exact .inl ⟨q1, by omega⟩; exact .inr q) (by rcases opt rfl ehi with ⟨q1, q2⟩ | q; exact .inl ⟨q1, by omega⟩; exact .inr q) (.inl ⟨rfl, rfl⟩) (fun h => absurd rfl h) h1' (by omega) (Nat.le_refl _)
                  refine OpOut.pure hs ?_ (u := .slice (if f.cap - off = X then ad else ad.map (·.add (X * Te.size))) (Y - X) (f.cap - off - X)) ?_
                  · simp [execOp, g2, hr]
                  · simp only [Int.toNat_natCast]
                    unfold Rep
                    refine ⟨f, _, g1, by rw [Nat.sub_sub], by omega, fun hlt => ?_, fun hle => ?_⟩
                    · have had := g4 (by omega)
                      subst had
                      rw [if_neg (by omega)]
                      simp only [Option.map_some, Addr.add_n, hse.1]
                      rw [Nat.add_mul, Nat.add_assoc]
                    · have hex : ∃ b o, ad = some ⟨b, o, none⟩ := by
                        rcases Nat.lt_or_ge off f.cap with h | h
                        · exact ⟨_, _, g4 h⟩
                        · exact g5 h
                      obtain ⟨b, o, rfl⟩ := hex
                      split
                      · exact ⟨b, o, rfl⟩
                      · exact ⟨b, o + X * Te.size, by simp [Addr.add_n]⟩
                · cases hp
              · cases hp
            · split at hp
              · rename_i hc
                obtain ⟨rfl, rfl, hmx⟩ := hc
                simp only [Option.some.injEq] at hp
                subst hp
                have hmx' : mx = none := by cases mx <;> simp_all
                subst hmx'
                have hr := run_sliceAt (w := w) (P := C.P) hu.1 hsz (ad := none) (len := 0) (cap := 0) (x := 0) (y := 0) (z := 0) (l := l.map a.eval) (h := h.map a.eval) (mx := none)
                  (by rcases opt (N := 0) rfl elo with ⟨q1, q2⟩ | q; exact .inl ⟨q1, rfl⟩; exact .inr q) (by rcases opt (N := 0) rfl ehi with ⟨q1, q2⟩ | q; exact .inl ⟨q1, rfl⟩; exact .inr q) (.inl ⟨rfl, rfl⟩) (fun h => absurd rfl h) (Nat.le_refl _) (Nat.le_refl _) (Nat.le_refl _)
                refine OpOut.pure hs (u := .slice none 0 0) ?_ (Rep.of_lit fun c h => by cases h)
                simp [execOp, hxr.lit, hr]
              · cases hp
            · cases hp
          · cases hh
        · cases hh
      · cases hh
    · cases hh
  · cases hh

end
end Go.Am

namespace Go.Am
open Go Go.Wk

section
variable {C : Cfg} {I : Ij} {m : Mem} {H : List Blk} {w : World} {K : List (Nat × V)} {a : Act} {lo nid : Nat} {dst : Option Tmp} {ty : TypeId} {pos : String} {after : Array Edge} {g : Option (Nat × Bool)} {e : Eff}

theorem run_builtin {P : Program} {b : Builtin} {args : Array Operand} {ats : Array TypeId} {us : List Value} (hu : args.toList.map a.eval = us) :
    ∃ cs : Array Bool, (execOp a.eval ⟨dst, .call ⟨.builtin b, args, ats⟩, ty, pos, after, g⟩).run P w = (builtin b ats ty cs us.toArray).run P w := by
  have : args.map a.eval = us.toArray := by rw [← hu, ← Array.toList_map, Array.toArray_toList]
  exact ⟨_, by simp [execOp, resolve, invoke, this]; rfl⟩

theorem arr1 {α : Type} {x : Array α} {t : α} (h : x.toList = [t]) : x = #[t] := by
  rw [← Array.toArray_toList (xs := x), h]
theorem arr2 {α : Type} {x : Array α} {t u : α} (h : x.toList = [t, u]) : x = #[t, u] := by
  rw [← Array.toArray_toList (xs := x), h]

theorem RepL.one' {v : V} {us : List Value} (h : RepL m [v] I us) : ∃ u, us = [u] ∧ Rep m v I u := by
  unfold RepL at h
  obtain ⟨u, us', h1, h2, h3⟩ := h
  unfold RepL at h3
  subst h3
  exact ⟨u, h1, h2⟩
theorem RepL.two {v v' : V} {us : List Value} (h : RepL m [v, v'] I us) : ∃ u u', us = [u, u'] ∧ Rep m v I u ∧ Rep m v' I u' := by
  unfold RepL at h
  obtain ⟨u, us', h1, h2, h3⟩ := h
  obtain ⟨u', h4, h5⟩ := h3.one'
  subst h4
  exact ⟨u, u', h1, h2, h5⟩

theorem Rep.slice_len {v : V} {u : Value} {n : Nat} (h : Rep m v I u) (hn : lenS v = some n) : ∃ ad cap, u = .slice ad n cap := by
  unfold lenS at hn
  split at hn
  · simp only [Option.some.injEq] at hn; subst hn; exact ⟨_, _, h.lit⟩
  · simp only [Option.some.injEq] at hn; subst hn; unfold Rep at h; obtain ⟨ad, cap, es, h1, _⟩ := h; exact ⟨_, _, h1⟩
  · simp only [Option.some.injEq] at hn; subst hn; unfold Rep at h; obtain ⟨f, ad, _, h1, _⟩ := h; exact ⟨_, _, h1⟩
  · cases hn

theorem MapIn.len {ks vs : List V} {es : List MapEntry} {cl : Nat} (h : MapIn m I ks vs es cl) : es.length = ks.length := by
  obtain ⟨es', h1, h2, h3, h4, h5⟩ := h
  have := h3.len
  rw [List.length_map] at this
  rw [h1.length_eq, this]

theorem bi_len (hC : C.OK) (hs : Sim I m H w) {ats : Array TypeId} {vs : List V} {us : List Value} {cs : Array Bool} (hv : RepL m vs I us) (h : biLen C H ats.toList vs = some e) :
    ∃ u, (builtin .len ats ty cs us.toArray).run C.P w = .ok (.value u) w ∧ Rep m e.v I u ∧ e.wr = [] := by
  unfold biLen at h
  split at h
  · rename_i t x hat
    obtain ⟨u, rfl, hu⟩ := hv.one'
    have := arr1 hat
    subst this
    split at h
    · rename_i T hT
      have hkd := (hC.ty _ _ hT).kd
      split at h
      · rename_i el es hk
        rw [hk] at hkd
        split at h
        · rename_i n hn
          simp only [Option.some.injEq] at h
          subst h
          obtain ⟨ad, cap, rfl⟩ := hu.slice_len hn
          exact ⟨_, by simp [builtin, Builtin.len_, run_underlying hkd.1, goInt], Rep.int, rfl⟩
        · cases h
      · rename_i kt el hk
        rw [hk] at hkd
        split at h
        · rename_i p hp
          simp only [Option.some.injEq] at h
          subst h
          unfold lenM at hp
          split at hp
          · simp only [Option.some.injEq] at hp; subst hp
            rw [hu.lit]
            exact ⟨_, by simp [builtin, Builtin.len_, run_underlying hkd, goInt], Rep.int, rfl⟩
          · rename_i ks' vs'
            simp only [Option.some.injEq] at hp; subst hp
            unfold Rep at hu
            obtain ⟨b, es, es', c, rfl, h1, h2, h3, h4, h5⟩ := hu
            have h6 : es.length = ks'.length := MapIn.len ⟨es', h2, h3, h4, h5⟩
            have := getObj_map (P := C.P) (show w.heap[b]? = some (.map es.toArray c) from hs.sub _ _ h1)
            exact ⟨.int .i64 (ks'.length : Nat), by simp [builtin, Builtin.len_, run_underlying hkd, goInt, this, h6], Rep.int, rfl⟩
          · rename_i id
            split at hp
            · rename_i ks' vs' hb
              simp only [Option.some.injEq] at hp; subst hp
              obtain ⟨f, h1, es, cl, h2, h3⟩ := hs.blk id _ (hget_of hb rfl) rfl
              unfold Rep at hu
              obtain ⟨f', h4, rfl⟩ := hu
              rw [h1] at h4
              cases h4
              have := getObj_map (P := C.P) h2
              exact ⟨.int .i64 (ks'.length : Nat), by simp [builtin, Builtin.len_, run_underlying hkd, goInt, this, h3.len], Rep.int, rfl⟩
            · cases hp
          · cases hp
        · cases h
      · cases h
    · cases h
  · cases h

theorem minR_sound {P : Program} : ∀ {r : List V} {x : V} {v : V} {u : Value} {us : List Value}, minR x r = some v → Rep m x I u → RepL m r I us → ∃ u', (us.foldlM Builtin.min2 u).run P w = .ok u' w ∧ Rep m v I u'
  | [], x, v, u, us, h, hx, hr => by
    simp only [minR, Option.some.injEq] at h
    subst h
    unfold RepL at hr
    subst hr
    exact ⟨u, by simp, hx⟩
  | y :: r, x, v, u, us, h, hx, hr => by
    unfold minR at h
    split at h
    · rename_i h1; cases h1
    · rename_i k p k' q r' h1
      cases h1
      split at h
      · rename_i he
        rw [kindEq_iff] at he
        subst he
        unfold RepL at hr
        obtain ⟨u2, us', rfl, hy, hr'⟩ := hr
        obtain ⟨u', h2, h3⟩ := minR_sound (P := P) h (u := .int k (if q < p then q else p)) Rep.int hr'
        refine ⟨u', ?_, h3⟩
        have e2 : Builtin.min2 (.int k p) (.int k q) = pure (.int k (if q < p then q else p)) := rfl
        simp only [List.foldlM_cons, hx.lit, hy.lit, e2]
        simpa using h2
      · cases h
    · cases h

theorem maxR_sound {P : Program} : ∀ {r : List V} {x : V} {v : V} {u : Value} {us : List Value}, maxR x r = some v → Rep m x I u → RepL m r I us → ∃ u', (us.foldlM Builtin.max2 u).run P w = .ok u' w ∧ Rep m v I u'
  | [], x, v, u, us, h, hx, hr => by
    simp only [maxR, Option.some.injEq] at h
    subst h
    unfold RepL at hr
    subst hr
    exact ⟨u, by simp, hx⟩
  | y :: r, x, v, u, us, h, hx, hr => by
    unfold maxR at h
    split at h
    · rename_i h1; cases h1
    · rename_i k p k' q r' h1
      cases h1
      split at h
      · rename_i he
        rw [kindEq_iff] at he
        subst he
        unfold RepL at hr
        obtain ⟨u2, us', rfl, hy, hr'⟩ := hr
        obtain ⟨u', h2, h3⟩ := maxR_sound (P := P) h (u := .int k (if p < q then q else p)) Rep.int hr'
        refine ⟨u', ?_, h3⟩
        have e2 : Builtin.max2 (.int k p) (.int k q) = pure (.int k (if q > p then q else p)) := rfl
        simp only [List.foldlM_cons, hx.lit, hy.lit, e2]
        simpa using h2
      · cases h
    · cases h

theorem bi_min {vs : List V} {us : List Value} {ats : Array TypeId} {cs : Array Bool} (hv : RepL m vs I us) (h : biMin vs = some e) : ∃ u, (builtin .min ats ty cs us.toArray).run C.P w = .ok (.value u) w ∧ Rep m e.v I u ∧ e.wr = [] := by
  unfold biMin at h
  split at h
  · rename_i x r
    obtain ⟨h1, h2⟩ := pureO_eq h
    unfold RepL at hv
    obtain ⟨u, us', rfl, hx, hr⟩ := hv
    obtain ⟨u', h3, h4⟩ := minR_sound (P := C.P) (w := w) h1 hx hr
    exact ⟨u', by simp [builtin, Builtin.min_, h3], h4, h2⟩
  · cases h

theorem bi_max {vs : List V} {us : List Value} {ats : Array TypeId} {cs : Array Bool} (hv : RepL m vs I us) (h : biMax vs = some e) : ∃ u, (builtin .max ats ty cs us.toArray).run C.P w = .ok (.value u) w ∧ Rep m e.v I u ∧ e.wr = [] := by
  unfold biMax at h
  split at h
  · rename_i x r
    obtain ⟨h1, h2⟩ := pureO_eq h
    unfold RepL at hv
    obtain ⟨u, us', rfl, hx, hr⟩ := hv
    obtain ⟨u', h3, h4⟩ := maxR_sound (P := C.P) (w := w) h1 hx hr
    exact ⟨u', by simp [builtin, Builtin.max_, h3], h4, h2⟩
  · cases h

/-! ### Structs and arrays that are written out -/

theorem setAt_ok {α : Type} : ∀ (r c : List α) (off : Nat), off + r.length ≤ c.length → ∃ c', setAt c off r = some c'
  | [], c, off, _ => ⟨c, rfl⟩
  | v :: r, c, off, h => by
    simp only [List.length_cons] at h
    have hlt : off < c.length := by omega
    simp only [setAt, get_eq, List.getElem?_eq_getElem hlt]
    exact setAt_ok r (set c off v) (off + 1) (by rw [set_eq, List.length_set]; omega)

theorem CellsRep.setAt {cs r cs' : List V} {c d c' : List Value} {off : Nat} (h : CellsRep m I cs c) (hr : CellsRep m I r d) (h1 : Am.setAt cs off r = some cs') (h2 : Am.setAt c off d = some c') : CellsRep m I cs' c' := by
  obtain ⟨a1, a2, a3⟩ := setAt_eq _ _ _ _ h1
  obtain ⟨b1, b2, b3⟩ := setAt_eq _ _ _ _ h2
  have hl := hr.1.len
  refine ⟨RepL.mk (by rw [b1, a1]; exact h.1.len) fun i v u hv hu => ?_, fun x hx => ?_⟩
  · rw [a3] at hv
    rw [b3] at hu
    rw [hl] at hu
    split at hv
    · rename_i hc
      rw [if_pos hc] at hu
      obtain ⟨u', h3, h4⟩ := hr.1.get hv
      rw [hu] at h3; cases h3; exact h4
    · rename_i hc
      rw [if_neg hc] at hu
      obtain ⟨u', h3, h4⟩ := h.1.get hv
      rw [hu] at h3; cases h3; exact h4
  · obtain ⟨i, hi⟩ := List.mem_iff_getElem?.1 hx
    rw [b3] at hi
    split at hi
    · exact hr.2 x (List.mem_of_getElem? hi)
    · exact h.2 x (List.mem_of_getElem? hi)

theorem foldl_setAt : ∀ (vs : List Value) (k : Nat) (c c' : List Value) (off : Nat), Am.setAt c (off + k) vs = some c' → ((vs.zipIdx k).foldl (fun (cs : Array Value) (p : Value × Nat) => cs.setIfInBounds (off + p.2) p.1) c.toArray) = c'.toArray
  | [], _, c, c', _, h => by simp only [Am.setAt, Option.some.injEq] at h; subst h; simp
  | v :: r, k, c, c', off, h => by
    simp only [Am.setAt] at h
    split at h
    · simp only [List.zipIdx_cons, List.foldl_cons]
      rw [set_eq] at h
      have := foldl_setAt r (k + 1) (c.set (off + k) v) c' off (by rw [show off + (k + 1) = off + k + 1 by omega]; exact h)
      rw [← this]
      simp
    · cases h

/-- Parts of a literal, abstract and concrete. -/
inductive PartsRep (m : Mem) (I : Ij) : List (Nat × V) → List (Nat × Value) → Prop where
  | nil : PartsRep m I [] []
  | cons {i : Nat} {v : V} {u : Value} {l : List (Nat × V)} {r : List (Nat × Value)} : Rep m v I u → PartsRep m I l r → PartsRep m I ((i, v) :: l) ((i, u) :: r)

theorem kparts_rep (hs : Slots m I K a.tmps) : ∀ {xs : List (Nat × Operand)} {vs : List (Nat × V)}, kparts K xs = some vs → PartsRep m I vs (xs.map fun p => (p.1, a.eval p.2))
  | [], vs, h => by simp only [kparts, Option.some.injEq] at h; subst h; exact .nil
  | (i, x) :: r, vs, h => by
    simp only [kparts] at h
    cases hx : kev K x with
    | none => rw [hx] at h; cases h
    | some v =>
      cases hr : kparts K r with
      | none => rw [hx, hr] at h; cases h
      | some vs' =>
        rw [hx, hr] at h
        simp only [Option.some.injEq] at h
        subst h
        exact .cons (kev_rep hs hx) (kparts_rep hs hr)

theorem fillA_sound {place fplace : Nat → Option (Nat × Nat)} (hp : ∀ i p, place i = some p → fplace i = some p ∧ p.2 ≠ 0) : ∀ {l : List (Nat × V)} {us : List (Nat × Value)} {cs : List V} {c : List Value} {cs' : List V}, PartsRep m I l us → CellsRep m I cs c → fillA place cs l = some cs' →
    ∃ c', Instr.fill fplace c.toArray us = some c'.toArray ∧ CellsRep m I cs' c'
  | [], us, cs, c, cs', hl, hc, h => by
    cases hl
    simp only [fillA, Option.some.injEq] at h
    subst h
    exact ⟨c, rfl, hc⟩
  | (i, v) :: l, us, cs, c, cs', hl, hc, h => by
    cases hl
    rename_i u us hu hl
    simp only [fillA] at h
    cases hpi : place i with
    | none => rw [hpi] at h; cases h
    | some p =>
      obtain ⟨off, size⟩ := p
      rw [hpi] at h
      simp only at h
      split at h
      · rename_i hb
        rw [Bool.and_eq_true] at hb
        have hsz := Nat.eq_of_beq_eq_true hb.1
        split at h
        · rename_i cs1 hset
          obtain ⟨hfp, hne⟩ := hp i _ hpi
          simp only at hne
          have hcell := hu.cellsRep hb.2
          obtain ⟨_, h2, _⟩ := setAt_eq _ _ _ _ hset
          have hne' : v.cells ≠ [] := by intro e; rw [e] at hsz; exact hne hsz.symm
          have h3 := h2 hne'
          have hul : u.cells.size = size := by rw [hu.size, hsz]
          have hcl := hc.1.len
          obtain ⟨c1, hc1⟩ := setAt_ok u.cells.toList c off (by simp; omega)
          obtain ⟨c', h4, h5⟩ := fillA_sound hp hl (hc.setAt hcell hset hc1) h
          refine ⟨c', ?_, h5⟩
          simp only [Instr.fill, hfp]
          rw [if_neg (by simp; omega), ← h4]
          congr 1
          have := foldl_setAt u.cells.toList 0 c c1 off (by simpa using hc1)
          rw [← this, ← Array.foldl_toList]
          simp
        · cases h
      · cases h

theorem FldsOK.places {P : Program} : ∀ {ps : List Fld} {fs : List Field}, FldsOK P ps fs → ∀ w, (fs.mapM fun f => Functor.map (Prod.mk f.offset) (Go.sizeOf f.type)).run P w = .ok (ps.map fun p => (p.off, p.size)) w
  | [], [], _, w => by simp
  | o :: os, f :: fs, hf, w => by
    have ih := FldsOK.places hf.2.2.2.2.2 w
    simp [List.mapM_cons, hf.2.2.1 w, ih, hf.1]
  | _ :: _, [], hf, _ => hf.elim
  | [], _ :: _, hf, _ => hf.elim

theorem TI.zeroCells {P : Program} {t : Nat} {T : TI} (hT : TIOK P t T) : CellsRep m I (T.zs.map .lit) T.zs :=
  ⟨RepL.lits _ hT.zone, fun x hx => List.all_eq_true.1 hT.zone x hx⟩

theorem op_build (hC : C.OK) (hs : Sim I m H w) (hk : Slots m I K a.tmps) {t : Nat} {ps : Array (Nat × Operand)} (h : effBuild C K t ps.toList = some e) : OpOut C.P ⟨dst, .build t ps, ty, pos, after, g⟩ a I m H lo w e.v (puts H e.wr) := by
  unfold effBuild at h
  split at h
  · rename_i T l hT hl
    have hTI := hC.ty _ _ hT
    have hkd := hTI.kd
    have hpr := kparts_rep hk hl
    have hz := TI.zeroCells (m := m) (I := I) hTI
    have hm : (ps.map fun (p : Nat × Operand) => (p.1, a.eval p.2)).toList = ps.toList.map fun p => (p.1, a.eval p.2) := by simp
    have fin : ∀ {cs : List V} {c' : List Value}, CellsRep m I cs c' → (execOp a.eval ⟨dst, .build t ps, ty, pos, after, g⟩).run C.P w = .ok (.value (.agg c'.toArray)) w → OpOut C.P ⟨dst, .build t ps, ty, pos, after, g⟩ a I m H lo w (.agg cs) H := by
      intro cs c' h1 h2
      refine OpOut.pure hs h2 ?_
      unfold Rep
      exact ⟨c', rfl, h1.2, h1.1⟩
    split at h
    · rename_i fs hk'
      rw [hk'] at hkd
      obtain ⟨fs', hu, hf, _⟩ := hkd
      unfold aggO at h
      split at h
      · rename_i cs hcs
        simp only [Option.some.injEq] at h
        subst h
        have hpl := FldsOK.places hf w
        obtain ⟨c', h1, h2⟩ := fillA_sound (place := fldPlace fs) (fplace := fun i => (fs.map fun p => (p.off, p.size))[i]?) (fun i p hp => by
          unfold fldPlace at hp
          split at hp
          · rename_i q hq
            simp only [Option.some.injEq] at hp
            subst hp
            obtain ⟨_, _, _, h3, _⟩ := hf.get hq
            rw [get_eq] at hq
            exact ⟨by simp [hq], h3⟩
          · cases hp) hpr hz hcs
        have hmm : (fs'.mapM fun f => Functor.map (Prod.mk f.offset) (Go.sizeOf f.type)).run C.P w = .ok (fs.map fun p => (p.off, p.size)).toArray w := by
          rw [Array.mapM_eq_mapM_toList]
          simp [hpl]
        have h1' : Instr.fill (fun x => Option.map (fun p => (p.off, p.size)) fs[x]?) T.zs.toArray (List.map (fun p => (p.fst, a.eval p.snd)) ps.toList) = some c'.toArray := by
          rw [← h1]
          congr 1
          funext i
          simp
        exact fin h2 (by simp [execOp, Instr.build, hTI.zero, TI.zero_cells hTI, run_underlying hu, hmm, h1'])
      · cases h
    · rename_i n el es hk'
      rw [hk'] at hkd
      obtain ⟨hu, hsz, _⟩ := hkd
      split at h
      · cases h
      rename_i hes
      unfold aggO at h
      split at h
      · rename_i cs hcs
        simp only [Option.some.injEq] at h
        subst h
        obtain ⟨c', h1, h2⟩ := fillA_sound (place := fun i => some (i * es, es)) (fplace := fun i => some (i * es, es)) (fun i p hp => ⟨hp, by simp only [Option.some.injEq] at hp; subst hp; exact hes⟩) hpr hz hcs
        exact fin h2 (by simp [execOp, Instr.build, hTI.zero, TI.zero_cells hTI, run_underlying hu, hsz, h1])
      · cases h
    · cases h
  · cases h

end
end Go.Am

namespace Go.Am
open Go Go.Wk Go.RowKit

section
variable {C : Cfg} {I : Ij} {m : Mem} {H : List Blk} {w w' : World} {K : List (Nat × V)} {a : Act} {lo nid : Nat} {dst : Option Tmp} {ty : TypeId} {pos : String} {after : Array Edge} {g : Option (Nat × Bool)} {e : Eff}

/-- A number that has no place yet. -/
def Fresh (H : List Blk) (nid : Nat) : Prop := nid = H.length ∨ Am.get H nid = some .free
theorem Fresh.le (h : Fresh H nid) : nid ≤ H.length := by
  rcases h with h | h
  · omega
  · have := get_lt h; omega
theorem Fresh.none (h : Fresh H nid) (hs : Sim I m H w) : I nid = .none := by
  rcases h with h | h
  · exact hs.free nid (.inl (get_none.2 (by omega)))
  · exact hs.free nid (.inr h)

theorem Sim.lt (hs : Sim I m H w) {id : Nat} {f : Inf} (hl : Live H id) (hf : I id = some f) : f.b < w.heap.size := by
  obtain ⟨B, hB, hlv⟩ := hl
  obtain ⟨f', h1, h2⟩ := hs.blk id B hB hlv
  rw [hf] at h1
  cases h1
  exact h2.lt hlv

theorem Sim.mlt (hs : Sim I m H w) {k : Nat} {o : Obj} (h : m k = some o) : k < w.heap.size := (Array.getElem?_eq_some_iff.1 (hs.sub k o h)).1

theorem hput_lt_length {id : Nat} {B : Blk} (h : id ≤ H.length) : id < (hput H id B).length := by rw [hput_length H id B h]; omega

/-- A new block. -/
theorem Sim.new (hs : Sim I m H w) (hn : Fresh H nid) (hlo : lo ≤ nid) (he : Ext w w') {f : Inf} (hg : w.heap.size ≤ f.b) {B : Blk} (hB : BlkOK (I.put nid f) m w' f B) (hnf : B ≠ .free) :
    Sim (I.put nid f) m (hput H nid B) w' ∧ Fx I H lo w (I.put nid f) (hput H nid B) w' := by
  have hI := hn.none hs
  have hle := hn.le
  have h1 := (hs.ext he).map f hle hI
  have h2 := h1.set (id := nid) (f := f) (B := B) (hput_lt_length hle) Ij.put_self hB hnf (by
      cases hm : m f.b with
      | none => rfl
      | some o => have := hs.mlt hm; omega) (fun j g hj hl hgj => by
      rcases live_hput hle hl with ⟨h, _⟩ | ⟨_, h⟩
      · exact absurd h hj
      · unfold Ij.put at hgj
        rw [if_neg hj] at hgj
        have := hs.lt h hgj
        omega)
  rw [hput_hput _ _ _ _ hle] at h2
  refine ⟨h2, he.stays, fun k hk _ => he.block k hk, Ij.le_put hI, fun id f' h3 h4 h5 => ?_, fun id hid => ?_, ?_⟩
  · rcases live_hput hle h4 with ⟨rfl, _⟩ | ⟨hne, h6⟩
    · rw [Ij.put_self] at h5
      cases h5
      exact .inl hg
    · unfold Ij.put at h5
      rw [if_neg hne] at h5
      exact .inr ⟨id, f', h3, h6, h5, rfl⟩
  · rw [get_hput _ _ _ _ hle, if_neg (by omega)]
  · rw [hput_length _ _ _ hle]; omega

/-- A block of its own is turned. -/
theorem Sim.upd (hs : Sim I m H w) {id : Nat} (hl : Live H id) (hlo : lo ≤ id) {f : Inf} (hf : I id = some f) (hst : Stays w w') (hk : ∀ k, k ≠ f.b → w'.heap[k]? = w.heap[k]?) {B : Blk} (hB : BlkOK I m w' f B) (hnf : B ≠ .free) :
    Sim I m (hput H id B) w' ∧ Fx I H lo w I (hput H id B) w' := by
  have hid : id < H.length := by obtain ⟨B0, h, _⟩ := hl; exact get_lt h
  have hoff := hs.off id f hl hf
  have hne : ∀ j g, Live (hput H id .dead) j → I j = some g → g.b ≠ f.b := fun j g hj hg he => by
    rcases live_hput (Nat.le_of_lt hid) hj with ⟨_, h⟩ | ⟨hn, h⟩
    · cases h
    · exact hn (hs.inj j id g f h hl hg hf he)
  have h1 := (hs.kill hid).world (m' := m) (w' := w') (fun _ _ h => h) (fun k o hko => by
      show w'.heap[k]? = some o
      rw [hk k (by rintro rfl; rw [hoff] at hko; cases hko)]; exact hs.sub k o hko) (fun j g hj hg => ⟨hk _ (hne j g hj hg), (hs.kill hid).off j g hj hg⟩)
  have h2 := h1.set (id := id) (f := f) (B := B) (hput_lt_length (Nat.le_of_lt hid)) hf hB hnf hoff (fun j g _ hj hg => hne j g hj hg)
  rw [hput_hput _ _ _ _ (Nat.le_of_lt hid)] at h2
  refine ⟨h2, hst, fun k hk' hn => hk k (fun e => hn id f hlo hl hf e.symm), Ij.Le.rfl' _, fun j g h3 h4 h5 => ?_, fun j hj => ?_, ?_⟩
  · rcases live_hput (Nat.le_of_lt hid) h4 with ⟨rfl, _⟩ | ⟨hne', h6⟩
    · exact .inr ⟨j, g, h3, hl, h5, rfl⟩
    · exact .inr ⟨j, g, h3, h6, h5, rfl⟩
  · rw [get_hput _ _ _ _ (Nat.le_of_lt hid), if_neg (by omega)]
  · rw [hput_length _ _ _ (Nat.le_of_lt hid)]; omega

theorem Ext.of_alloc (w : World) (o : Obj) : Ext w (w.alloc o) := (Below.refl _ w).alloc (Nat.le_refl _) o

theorem TI.zero_rep {P : Program} {t : Nat} {T : TI} (hT : TIOK P t T) : Rep m T.zero I T.zeroC := by
  unfold TI.zero TI.zeroC
  split
  · unfold Rep
    exact ⟨T.zs, rfl, fun x hx => List.all_eq_true.1 hT.zone x hx, RepL.lits _ hT.zone⟩
  · rename_i hb
    have h1 := hT.sagg (by simpa using hb)
    have h2 := hT.zlen
    rw [h1] at h2
    obtain ⟨z, hz⟩ := List.length_eq_one_iff.1 h2
    have h3 := hT.zone
    rw [hz] at h3 ⊢
    simp only [List.all_cons, List.all_nil, Bool.and_true] at h3
    exact Rep.of_lit fun c hc => by
      simp only [List.headD_cons] at hc
      rw [hc] at h3; cases h3

theorem sizeOK_spec {T : TI} {v : V} (h : sizeOK T v = true) : v.ok = true ∧ v.cells.length = T.size := by
  unfold sizeOK at h
  split at h
  · rename_i l
    rw [Bool.and_eq_true] at h
    exact ⟨rfl, Nat.eq_of_beq_eq_true h.2⟩
  · rw [Bool.and_eq_true, Bool.and_eq_true] at h
    have h1 := h.1.1
    rw [V.cells_of_one h1]
    refine ⟨?_, (Nat.eq_of_beq_eq_true h.2).symm⟩
    cases v <;> first | exact h1 | rfl

theorem sizeOK_zero {P : Program} {t : Nat} {T : TI} (hT : TIOK P t T) : T.zero.ok = true ∧ T.zero.cells.length = T.size := by
  unfold TI.zero
  split
  · exact ⟨rfl, by simp [V.cells, hT.zlen]⟩
  · rename_i hb
    have h1 := hT.sagg (by simpa using hb)
    have h2 := hT.zlen
    rw [h1] at h2
    obtain ⟨z, hz⟩ := List.length_eq_one_iff.1 h2
    have h3 := hT.zone
    rw [hz] at h3 ⊢
    simp only [List.all_cons, List.all_nil, Bool.and_true] at h3
    refine ⟨?_, by rw [h1]; rfl⟩
    cases z <;> first | rfl | cases h3

/-- One row in a block of its own. -/
theorem rowsIn_one {v : V} {u : Value} {es : Nat} (h : Rep m v I u) (ho : v.ok = true) (hs : v.cells.length = es) : RowsIn m I u.cells 0 es [v] := by
  intro i x hx
  cases i with
  | zero =>
    simp only [List.getElem?_cons_zero, Option.some.injEq] at hx
    subst hx
    refine ⟨u, h, by rw [h.size, hs], fun j y hy => ⟨(h.cellsRep ho).2 y ?_, by simpa using hy⟩⟩
    simpa using Array.mem_of_getElem? hy
  | succ i => simp at hx

theorem op_box1 {P : Program} (hs : Sim I m H w) (hn : Fresh H nid) (hlo : lo ≤ nid) {t : Nat} {T : TI} (hT : TIOK P t T) {v : V} {u : Value} (hv : Rep m v I u) (ho : v.ok = true) (hsz : v.cells.length = T.size) {o : Oper}
    (hr : (execOp a.eval o).run P w = .ok (.value (.pointer (some ⟨w.heap.size, 0, none⟩))) (w.alloc (.cells u.cells t (0, 0)))) : OpOut P o a I m H lo w (.ptr nid 0 0) (hput H nid (.rows T.size [v])) := by
  have hI := hn.none hs
  have h1 := hs.new (lo := lo) hn hlo (Ext.of_alloc w (.cells u.cells t (0, 0))) (f := ⟨w.heap.size, 0, T.size, 1⟩) (Nat.le_refl _) (B := .rows T.size [v])
    ⟨rfl, u.cells, t, heap_alloc_new w _, by rw [hv.size, hsz]; simp, by simp, by simp [maxLen], hT.pos, (rowsIn_one hv ho hsz).mono (fun _ _ h => h) (Ij.le_put hI)⟩ (by intro h; cases h)
  refine ⟨_, _, _, _, hr, .inl rfl, h1.1, ?_, h1.2⟩
  unfold Rep
  exact ⟨_, Ij.put_self, by simp⟩

theorem op_alloc (hC : C.OK) (hs : Sim I m H w) (hk : Slots m I K a.tmps) (hn : Fresh H nid) (hlo : lo ≤ nid) {t : Nat} (h : effAlloc C nid t = some e) : OpOut C.P ⟨dst, .alloc t, ty, pos, after, g⟩ a I m H lo w e.v (puts H e.wr) := by
  unfold effAlloc at h
  split at h
  · rename_i T hT
    simp only [Option.some.injEq] at h
    subst h
    have hTI := hC.ty _ _ hT
    have hz := sizeOK_zero hTI
    exact op_box1 hs hn hlo hTI (TI.zero_rep hTI) hz.1 hz.2 (by simp [execOp, Instr.alloc, newVar, newRow, hTI.zero])
  · cases h

theorem op_box (hC : C.OK) (hs : Sim I m H w) (hk : Slots m I K a.tmps) (hn : Fresh H nid) (hlo : lo ≤ nid) {t : Nat} {x : Operand} (h : effBox C K nid t x = some e) : OpOut C.P ⟨dst, .box t x, ty, pos, after, g⟩ a I m H lo w e.v (puts H e.wr) := by
  unfold effBox at h
  split at h
  · rename_i T v hT hx
    split at h
    · rename_i hsz
      simp only [Option.some.injEq] at h
      subst h
      have hz := sizeOK_spec hsz
      exact op_box1 hs hn hlo (hC.ty _ _ hT) (kev_rep hk hx) hz.1 hz.2 (by simp [execOp, Instr.box, newVar, newRow])
    · cases h
  · cases h

theorem op_makeMap (hs : Sim I m H w) (hn : Fresh H nid) (hlo : lo ≤ nid) {t : Nat} (h : some (Eff.mk (.map nid) [(nid, .map [] [])] [nid]) = some e) : OpOut C.P ⟨dst, .makeMap t none, ty, pos, after, g⟩ a I m H lo w e.v (puts H e.wr) := by
  simp only [Option.some.injEq] at h
  subst h
  have h1 := hs.new (lo := lo) hn hlo (Ext.of_alloc w (.map #[] 0)) (f := ⟨w.heap.size, 0, 0, 0⟩) (Nat.le_refl _) (B := .map [] []) ⟨[], 0, heap_alloc_new w _, [], List.Perm.nil, List.nodup_nil, by unfold RepL; rfl, by unfold RepL; rfl, ⟨false, [], fun x h => by cases h⟩, (fun e he => by cases he), List.nodup_nil⟩ (by intro h; cases h)
  refine ⟨.value (.map (some w.heap.size)), _, _, _, ?_, .inl rfl, h1.1, ?_, h1.2⟩
  · simp [execOp, Instr.makeMap]
  · unfold Rep
    exact ⟨_, Ij.put_self, rfl⟩

/-- Rows one behind the other in a list of cells. -/
def RowsFlat (m : Mem) (I : Ij) (es : Nat) (l : List V) (c : List Value) : Prop := c.length = l.length * es ∧ ∀ (i : Nat) v, l[i]? = some v → ∃ u, Rep m v I u ∧ u.cells.size = es ∧ ∀ j x, u.cells[j]? = some x → x.oneCell' = true ∧ c[i * es + j]? = some x

theorem RowsFlat.rowsIn {es : Nat} {l : List V} {c : List Value} (h : RowsFlat m I es l c) : RowsIn m I c.toArray 0 es l := by
  intro i v hv
  obtain ⟨u, h1, h2, h3⟩ := h.2 i v hv
  exact ⟨u, h1, h2, fun j x hx => ⟨(h3 j x hx).1, by simpa using (h3 j x hx).2⟩⟩

theorem RowsFlat.zero {P : Program} {t : Nat} {T : TI} (hT : TIOK P t T) (n : Nat) : RowsFlat m I T.size (List.replicate n T.zero) ((List.range (n * T.size)).map fun k => (T.zs[k % T.size]?).getD default) := by
  refine ⟨by simp, fun i v hv => ?_⟩
  rw [List.getElem?_replicate] at hv
  split at hv
  · rename_i hi
    simp only [Option.some.injEq] at hv
    subst hv
    refine ⟨T.zeroC, TI.zero_rep hT, by rw [TI.zero_cells hT]; simp [hT.zlen], fun j x hx => ?_⟩
    rw [TI.zero_cells hT] at hx
    have hx' : T.zs[j]? = some x := by simpa using hx
    have hj : j < T.size := by rw [← hT.zlen]; exact (List.getElem?_eq_some_iff.1 hx').1
    refine ⟨List.all_eq_true.1 hT.zone x (List.mem_of_getElem? hx'), ?_⟩
    have hlt : i * T.size + j < n * T.size := by
      have : (i + 1) * T.size ≤ n * T.size := Nat.mul_le_mul_right _ hi
      rw [Nat.add_mul] at this
      omega
    have hmod : (i * T.size + j) % T.size = j := by rw [Nat.mul_comm, Nat.mul_add_mod]; exact Nat.mod_eq_of_lt hj
    simp [hlt, hmod, hx']
  · cases hv

theorem fillR_sound {T : TI} {es : Nat} (hes : T.size = es) (hpos : 0 < es) : ∀ {p : List (Nat × V)} {us : List (Nat × Value)} {l l' : List V} {c : List Value}, PartsRep m I p us → RowsFlat m I es l c → fillR T l p = some l' →
    ∃ c', Instr.fill (fun i => some (i * es, es)) c.toArray us = some c'.toArray ∧ RowsFlat m I es l' c' ∧ l'.length = l.length
  | [], us, l, l', c, hp, hc, h => by
    cases hp
    simp only [fillR, Option.some.injEq] at h
    subst h
    exact ⟨c, rfl, hc, rfl⟩
  | (i, v) :: p, us, l, l', c, hp, hc, h => by
    cases hp
    rename_i u us hu hp
    simp only [fillR] at h
    split at h
    · rename_i hsz
      have hz := sizeOK_spec hsz
      split at h
      · rename_i r hr
        rw [get_eq] at hr
        have hi := (List.getElem?_eq_some_iff.1 hr).1
        have hus : u.cells.size = es := by rw [hu.size, hz.2, hes]
        have hcl := hc.1
        have hle : i * es + es ≤ c.length := by
          rw [hcl]
          have : (i + 1) * es ≤ l.length * es := Nat.mul_le_mul_right _ hi
          rwa [Nat.add_mul, Nat.one_mul] at this
        obtain ⟨c1, hc1⟩ := setAt_ok u.cells.toList c (i * es) (by simp; omega)
        obtain ⟨b1, b2, b3⟩ := setAt_eq _ _ _ _ hc1
        have hflat : RowsFlat m I es (Am.set l i v) c1 := by
          rw [set_eq]
          refine ⟨by rw [b1, hcl, List.length_set], fun k x hx => ?_⟩
          by_cases hki : k = i
          · subst hki
            rw [List.getElem?_set_self hi, Option.some.injEq] at hx
            subst hx
            refine ⟨u, hu, hus, fun j y hy => ⟨(hu.cellsRep hz.1).2 y (by simpa using Array.mem_of_getElem? hy), ?_⟩⟩
            have hj : j < u.cells.size := (Array.getElem?_eq_some_iff.1 hy).1
            rw [b3, if_pos ⟨by omega, by simp; omega⟩, show k * es + j - k * es = j by omega]
            simpa using hy
          · rw [List.getElem?_set_ne (fun e => hki e.symm)] at hx
            obtain ⟨u2, q1, q2, q3⟩ := hc.2 k x hx
            refine ⟨u2, q1, q2, fun j y hy => ⟨(q3 j y hy).1, ?_⟩⟩
            have hj : j < es := by rw [← q2]; exact (Array.getElem?_eq_some_iff.1 hy).1
            rw [b3, if_neg, (q3 j y hy).2]
            rintro ⟨h1, h2⟩
            simp only [Array.length_toList, hus] at h2
            rcases Nat.lt_or_gt_of_ne hki with h | h
            · have : (k + 1) * es ≤ i * es := Nat.mul_le_mul_right _ h
              rw [Nat.add_mul] at this; omega
            · have : (i + 1) * es ≤ k * es := Nat.mul_le_mul_right _ h
              rw [Nat.add_mul] at this; omega
        obtain ⟨c', h4, h5, h6⟩ := fillR_sound hes hpos hp hflat h
        refine ⟨c', ?_, h5, by rw [h6, set_eq, List.length_set]⟩
        simp only [Instr.fill]
        rw [if_neg (by simp; omega), ← h4]
        congr 1
        have := foldl_setAt u.cells.toList 0 c c1 (i * es) (by simpa using hc1)
        rw [← this, ← Array.foldl_toList]
        simp
      · cases h
    · cases h

theorem sliceElem_spec (hC : C.OK) {t : Nat} {Te : TI} (h : sliceElem C t = some Te) : ∃ el, C.P.underlying t = some (.slice el) ∧ C.ty el = some Te ∧ TIOK C.P el Te := by
  unfold sliceElem at h
  split at h
  · rename_i T hT
    split at h
    · rename_i el es hk'
      have := (hC.ty _ _ hT).kd
      rw [hk'] at this
      exact ⟨el, this.1, h, hC.ty _ _ h⟩
    · cases h
  · cases h

theorem op_rows {P : Program} (hs : Sim I m H w) (hn : Fresh H nid) (hlo : lo ≤ nid) {t : Nat} {T : TI} (hT : TIOK P t T) {l : List V} {c : List Value} {n : Nat} (hnl : l.length = n) (hmax : n ≤ maxLen) (hc : RowsFlat m I T.size l c) {o : Oper}
    (hr : (execOp a.eval o).run P w = .ok (.value (.slice (some ⟨w.heap.size, 0, none⟩) n n)) (w.alloc (.cells c.toArray t (0, 0)))) : OpOut P o a I m H lo w (.osl nid 0 n) (hput H nid (.rows T.size l)) := by
  have hI := hn.none hs
  have h1 := hs.new (lo := lo) hn hlo (Ext.of_alloc w (.cells c.toArray t (0, 0))) (f := ⟨w.heap.size, 0, T.size, n⟩) (Nat.le_refl _) (B := .rows T.size l)
    ⟨rfl, c.toArray, t, heap_alloc_new w _, by simp [hc.1, hnl], by simp [hnl], hmax, hT.pos, hc.rowsIn.mono (fun _ _ h => h) (Ij.le_put hI)⟩ (by intro h; cases h)
  refine ⟨_, _, _, _, hr, .inl rfl, h1.1, ?_, h1.2⟩
  unfold Rep
  exact ⟨_, some ⟨w.heap.size, 0, none⟩, Ij.put_self, rfl, by simp, fun _ => by simp, fun _ => ⟨_, _, rfl⟩⟩

theorem zeros_arr {P : Program} {t : Nat} {T : TI} (hT : TIOK P t T) (n : Nat) : (Array.range n).map (fun x => (T.zs[x % T.zs.length]?).getD default) = ((List.range n).map fun k => (T.zs[k % T.size]?).getD default).toArray := by
  rw [← List.toArray_range, List.map_toArray, hT.zlen]

theorem map_range0 : Array.map (fun _ : Nat => (default : Value)) (Array.range 0) = #[] := by
  rw [← List.toArray_range, List.map_toArray]; rfl

theorem run_buildSlice {P : Program} {t el n : Nat} {T : TI} (hu : P.underlying t = some (.slice el)) (hT : TIOK P el T) (hsm : n * T.size ≤ 65536) {parts : Array (Nat × Value)} {c' : List Value}
    (h1 : Instr.fill (fun i => some (i * T.size, T.size)) ((List.range (n * T.size)).map fun k => (T.zs[k % T.size]?).getD default).toArray parts.toList = some c'.toArray) :
    (Instr.buildSlice t n parts).run P w = .ok (.slice (some ⟨w.heap.size, 0, none⟩) n n) (w.alloc (.cells c'.toArray el (0, 0))) := by
  have hne : ¬ 16777216 < n * T.size := by omega
  have hz := zeros_arr hT (n * T.size)
  by_cases h0 : n * T.size = 0
  · rw [h0] at h1
    simp only [List.range_zero, List.map_nil] at h1
    simp [Instr.buildSlice, run_underlying hu, hT.size, h0, newRow, map_range0, h1]
  · simp [Instr.buildSlice, run_underlying hu, hT.size, hne, h0, hT.zero, TI.zero_cells hT, newRow, hz, h1]

theorem op_buildSlice (hC : C.OK) (hs : Sim I m H w) (hk : Slots m I K a.tmps) (hn : Fresh H nid) (hlo : lo ≤ nid) {t n : Nat} {ps : Array (Nat × Operand)} (h : effBuildSlice C K nid t n ps.toList = some e) : OpOut C.P ⟨dst, .buildSlice t n ps, ty, pos, after, g⟩ a I m H lo w e.v (puts H e.wr) := by
  unfold effBuildSlice at h
  split at h
  · rename_i Te l hTe hl
    obtain ⟨el, hu, hTel, hTI⟩ := sliceElem_spec hC hTe
    split at h
    · rename_i hsm
      split at h
      · rename_i rows hrows
        simp only [Option.some.injEq] at h
        subst h
        obtain ⟨c', h1, h2, h3⟩ := fillR_sound (us := ps.toList.map fun p => (p.1, a.eval p.2)) rfl hTI.pos (kparts_rep hk hl) (RowsFlat.zero hTI n) hrows
        rw [List.length_replicate] at h3
        refine op_rows hs hn hlo hTI h3 ?_ h2 ?_
        · have := hTI.pos
          have : n * 1 ≤ n * Te.size := Nat.mul_le_mul_left _ this
          unfold maxLen; omega
        · have := run_buildSlice (w := w) (parts := ps.map fun (p : Nat × Operand) => (p.1, a.eval p.2)) hu hTI hsm (by simpa using h1)
          simp [execOp, this]
      · cases h
    · cases h
  · cases h

theorem run_makeSlice {P : Program} {t el n : Nat} {T : TI} {k k' : IntKind} (hu : P.underlying t = some (.slice el)) (hT : TIOK P el T) (hn : n ≤ 1048576) (hb : T.bytes ≤ 4096) :
    (Instr.makeSlice t (.int k (n : Int)) (.int k' (n : Int))).run P w = .ok (.slice (some ⟨w.heap.size, 0, none⟩) n n) (w.alloc (.cells ((List.range (n * T.size)).map fun k => (T.zs[k % T.size]?).getD default).toArray el (0, 0))) := by
  obtain ⟨i, hi, hi0, hi1, hi2⟩ := hT.get
  have hw : IntKind.i64.wrap (n : Int) = (n : Int) := IntWalk.i64_in _ (by omega)
  have hbn : (T.bytes : Int) * (n : Int) ≤ 281474976710656 := by
    have : T.bytes * n ≤ 4096 * 1048576 := Nat.mul_le_mul hb hn
    have : ((T.bytes * n : Nat) : Int) ≤ ((4096 * 1048576 : Nat) : Int) := by omega
    rw [Int.natCast_mul] at this
    omega
  have hz := zeros_arr hT (n * T.size)
  have hn0 : ¬ ((n : Int) < 0) := by omega
  have ht : ¬ (281474976710656 < (T.bytes : Int) * (n : Int)) := by omega
  by_cases h0 : n * T.size = 0
  · simp [Instr.makeSlice, run_underlying hu, typeInfo, hi, hi2, asInt, asIntOf, hw, ht, hT.size, h0, newRow, hn0, map_range0]
  · simp [Instr.makeSlice, run_underlying hu, typeInfo, hi, hi2, asInt, asIntOf, hw, ht, hn0, hT.size, h0, hT.zero, TI.zero_cells hT, newRow, hz]

theorem op_makeSlice (hC : C.OK) (hs : Sim I m H w) (hk : Slots m I K a.tmps) (hn : Fresh H nid) (hlo : lo ≤ nid) {t : Nat} {l c : Operand} (h : effMakeSlice C K nid t l c = some e) : OpOut C.P ⟨dst, .makeSlice t l c, ty, pos, after, g⟩ a I m H lo w e.v (puts H e.wr) := by
  unfold effMakeSlice at h
  split at h
  · rename_i Te k n k' n' hTe hl hc
    obtain ⟨el, hu, hTel, hTI⟩ := sliceElem_spec hC hTe
    split at h
    · rename_i hcond
      obtain ⟨rfl, h0, h1, h2⟩ := hcond
      simp only [Option.some.injEq] at h
      subst h
      obtain ⟨N, rfl⟩ := Int.eq_ofNat_of_zero_le h0
      have hl' := (kev_rep hk hl).lit
      have hc' := (kev_rep hk hc).lit
      refine op_rows hs hn hlo hTI (by simp) (by unfold maxLen; simp; omega) (RowsFlat.zero hTI _) ?_
      have := run_makeSlice (w := w) (k := k) (k' := k') (n := N) hu hTI (by omega) h2
      simp [execOp, hl', hc', this]
    · cases h
  · cases h

end
end Go.Am

namespace Go.Am
open Go Go.Wk Go.RowKit

section
variable {C : Cfg} {I : Ij} {m : Mem} {H : List Blk} {w w' : World} {K : List (Nat × V)} {a : Act} {lo nid : Nat} {dst : Option Tmp} {ty : TypeId} {pos : String} {after : Array Edge} {g : Option (Nat × Bool)} {e : Eff}

def putC (c : Array Value) : Nat → List Value → Array Value
  | _, [] => c
  | o, v :: r => putC (c.setIfInBounds o v) (o + 1) r

theorem putC_spec : ∀ (vs : List Value) (c : Array Value) (o : Nat), o + vs.length ≤ c.size → (putC c o vs).size = c.size ∧ ∀ j, (putC c o vs)[j]? = if o ≤ j ∧ j < o + vs.length then vs[j - o]? else c[j]?
  | [], c, o, _ => ⟨rfl, fun j => by rw [if_neg (by simp)]; rfl⟩
  | v :: r, c, o, h => by
    simp only [List.length_cons] at h
    obtain ⟨h1, h2⟩ := putC_spec r (c.setIfInBounds o v) (o + 1) (by simp; omega)
    refine ⟨by rw [putC, h1]; simp, fun j => ?_⟩
    rw [putC, h2]
    simp only [List.length_cons]
    by_cases h4 : o + 1 ≤ j ∧ j < o + 1 + r.length
    · rw [if_pos h4, if_pos ⟨by omega, by omega⟩, show j - o = (j - (o + 1)) + 1 by omega]; simp
    · rw [if_neg h4]
      by_cases h5 : j = o
      · subst h5
        have hjc : j < c.size := by omega
        rw [if_pos ⟨by omega, by omega⟩]
        simp [hjc]
      · rw [if_neg (by omega), Array.getElem?_setIfInBounds_ne (fun e => h5 e.symm)]

theorem setCells_spec {b : Nat} {t : TypeId} {fz : Nat × Nat} : ∀ (vs : List Value) (o : Nat) (w : World) (c : Array Value), w.heap[b]? = some (.cells c t fz) →
    Stays w (w.setCells b o vs) ∧ (∀ k, k ≠ b → (w.setCells b o vs).heap[k]? = w.heap[k]?) ∧ (w.setCells b o vs).heap[b]? = some (.cells (putC c o vs) t fz)
  | [], o, w, c, h => ⟨Stays.rfl' w, fun _ _ => rfl, h⟩
  | v :: r, o, w, c, h => by
    have h1 : (w.setCell ⟨b, o, none⟩ v).heap[b]? = some (.cells (c.setIfInBounds o v) t fz) := by
      simp [World.setCell, Array.getElem?_modify, h]
    have h2 : ∀ k, k ≠ b → (w.setCell ⟨b, o, none⟩ v).heap[k]? = w.heap[k]? := fun k hk => by
      have hbk : b ≠ k := fun e => hk e.symm
      simp [World.setCell, Array.getElem?_modify, hbk]
    have h3 : Stays w (w.setCell ⟨b, o, none⟩ v) := ⟨rfl, rfl, rfl, by simp [World.setCell]⟩
    obtain ⟨q1, q2, q3⟩ := setCells_spec r (o + 1) (w.setCell ⟨b, o, none⟩ v) _ h1
    exact ⟨h3.tr q1, fun k hk => (q2 k hk).trans (h2 k hk), q3⟩

theorem run_storeOwn {P : Program} {b o : Nat} {t : TypeId} {c : Array Value} {vs : List Value} (h : w.heap[b]? = some (.cells c t (0, 0))) (hl : o + vs.length ≤ c.size) (h1 : ∀ v ∈ vs, v.oneCell' = true) :
    ∃ w', (storeCells ⟨b, o, none⟩ vs 0).run P w = .ok () w' ∧ Stays w w' ∧ (∀ k, k ≠ b → w'.heap[k]? = w.heap[k]?) ∧ w'.heap[b]? = some (.cells (putC c o vs) t (0, 0)) := by
  have hr := run_storeCells_cells (P := P) b o vs 0 w (fun j hj => by
    rw [cell_none]
    unfold Mem.cell wmem
    rw [h]
    have : o + j < c.size := by omega
    simp [this]) (fun j hj => by unfold World.frozen?; rw [h]; simp) h1
  rw [Nat.add_zero] at hr
  obtain ⟨q1, q2, q3⟩ := setCells_spec vs o w c h
  exact ⟨_, hr, q1, q2, q3⟩

theorem rowSet_sound {r r' v : V} {ur u : Value} {off : Nat} (hr : CellsRep m I r.cells ur.cells.toList) (hrr : Rep m r I ur) (hv : CellsRep m I v.cells u.cells.toList) (hne : v.cells ≠ []) (h : rowSet r off v.cells = some r') :
    ∃ ur', Rep m r' I ur' ∧ off + u.cells.size ≤ ur.cells.size ∧ ur'.cells.size = ur.cells.size ∧ (∀ x ∈ ur'.cells, x.oneCell' = true) ∧ ∀ j, ur'.cells[j]? = if off ≤ j ∧ j < off + u.cells.size then u.cells[j - off]? else ur.cells[j]? := by
  have hvl : u.cells.size = v.cells.length := by have := hv.1.len; simpa using this
  have hrl : ur.cells.size = r.cells.length := by have := hr.1.len; simpa using this
  unfold rowSet at h
  split at h
  · rename_i l
    simp only [Option.map_eq_some_iff] at h
    obtain ⟨l', h1, rfl⟩ := h
    obtain ⟨a1, a2, a3⟩ := setAt_eq _ _ _ _ h1
    have hb := a2 hne
    obtain ⟨c', hc'⟩ := setAt_ok u.cells.toList ur.cells.toList off (by simp [V.cells] at *; omega)
    obtain ⟨b1, b2, b3⟩ := setAt_eq _ _ _ _ hc'
    have hcr := hr.setAt hv h1 hc'
    refine ⟨.agg c'.toArray, ?_, by simp [V.cells] at *; omega, by simp [Value.cells, b1], fun x hx => hcr.2 x (by simpa [Value.cells] using hx), fun j => ?_⟩
    · unfold Rep; exact ⟨c', rfl, hcr.2, hcr.1⟩
    · have := b3 j
      have e1 : (Value.agg c'.toArray).cells = c'.toArray := rfl
      rw [e1]
      simpa only [List.getElem?_toArray, Array.getElem?_toList, Array.length_toList] using this
  · rename_i hnag
    split at h
    · rename_i cs c hc
      simp only [Option.some.injEq] at h
      subst h
      rw [hc] at hv hvl
      obtain ⟨x, hx1, hx2⟩ := hv.1.one'
      have hx3 := hv.2 x (by rw [hx1]; simp)
      have hr1 : r.cells.length = 1 := by cases r <;> first | rfl | exact absurd rfl (hnag _)
      have hxc : x.cells = #[x] := by cases x <;> first | rfl | cases hx3
      simp only [List.length_cons, List.length_nil] at hvl
      refine ⟨x, hx2, by omega, by rw [hxc]; simp; omega, fun y hy => ?_, fun j => ?_⟩
      · rw [hxc] at hy; simp at hy; rw [hy]; exact hx3
      · have hu : u.cells = #[x] := by rw [← Array.toArray_toList (xs := u.cells), hx1]
        rw [hxc, hu]
        cases j with
        | zero => simp
        | succ j =>
          simp only [List.size_toArray, List.length_cons, List.length_nil]
          rw [if_neg (by omega)]
          have : ur.cells.size ≤ j + 1 := by omega
          simp [this]
    · cases h

theorem op_store (hC : C.OK) (hs : Sim I m H w) (hk : Slots m I K a.tmps) {t : Nat} {x y : Operand} (h : effStore C K H lo t x y = some e) : OpOut C.P ⟨dst, .store t x y, ty, pos, after, g⟩ a I m H lo w e.v (puts H e.wr) := by
  unfold effStore at h
  split at h
  · rename_i T av v hT hx hy
    have hTI := hC.ty _ _ hT
    have hxr := kev_rep hk hx
    have hyr := kev_rep hk hy
    unfold storeA at h
    split at h
    · rename_i id i off
      split at h
      · cases h
      rename_i hlo
      split at h
      · rename_i hsz
        have hz := sizeOK_spec hsz
        split at h
        · rename_i es l hb
          split at h
          · rename_i r hr
            simp only [Option.map_eq_some_iff] at h
            obtain ⟨r', h1, rfl⟩ := h
            have hb' := hget_rows hb
            rw [get_eq] at hr
            have hi := (List.getElem?_eq_some_iff.1 hr).1
            obtain ⟨f, hf, hes, c, ty', hw, hc1, hc2, hc3, hc4, hc5⟩ := hs.blk id _ hb' rfl
            obtain ⟨ur, g1, g2⟩ := hc5 i r hr
            have hone : ∀ x ∈ ur.cells, x.oneCell' = true := fun x hx => by
              obtain ⟨j, hj⟩ := Array.mem_iff_getElem?.1 hx
              exact (g2.2 j x hj).1
            have hne : v.cells ≠ [] := by intro e; have := hTI.pos; rw [e] at hz; simp at hz; omega
            have hyc := hyr.cellsRep hz.1
            obtain ⟨ur', k1, k2, k3, k4, k5⟩ := rowSet_sound (g1.cellsRep' hone) g1 hyc hne h1
            have hus : (a.eval y).cells.size = T.size := by rw [hyr.size, hz.2]
            have hurs : ur.cells.size = es := g2.1
            have hbound : f.o + i * es + es ≤ c.size := by
              have : (i + 1) * es ≤ f.cap * es := Nat.mul_le_mul_right _ (by omega)
              rw [Nat.add_mul] at this; omega
            unfold Rep at hxr
            obtain ⟨f', hf', hxv⟩ := hxr
            rw [hf] at hf'
            cases hf'
            obtain ⟨w', q1, q2, q3, q4⟩ := run_storeOwn (P := C.P) (w := w) (o := f.o + i * f.es + off) (vs := (a.eval y).cells.toList) hw (by rw [hes]; simp; omega) hyc.2
            obtain ⟨p1, p2⟩ := putC_spec (a.eval y).cells.toList c (f.o + i * f.es + off) (by rw [hes]; simp; omega)
            have hB : BlkOK I m w' f (.rows es (Am.set l i r')) := by
              refine ⟨hes, _, ty', q4, by rw [p1]; exact hc1, by rw [set_eq, List.length_set]; exact hc2, hc3, hc4, fun k x hxk => ?_⟩
              rw [set_eq] at hxk
              by_cases hki : k = i
              · subst hki
                rw [List.getElem?_set_self hi, Option.some.injEq] at hxk
                subst hxk
                refine ⟨ur', k1, by rw [k3, hurs], fun j x hj => ?_⟩
                have hjl : j < es := by rw [← hurs, ← k3]; exact (Array.getElem?_eq_some_iff.1 hj).1
                refine ⟨k4 x (Array.mem_of_getElem? hj), ?_⟩
                rw [k5] at hj
                rw [p2, hes]
                split at hj
                · rename_i hcc
                  rw [if_pos ⟨by omega, by simp; omega⟩, show f.o + k * es + j - (f.o + k * es + off) = j - off by omega]
                  simpa using hj
                · rename_i hcc
                  rw [if_neg (by simp; omega)]
                  exact (g2.2 j x hj).2
              · rw [List.getElem?_set_ne (fun e => hki e.symm)] at hxk
                obtain ⟨u2, z1, z2⟩ := hc5 k x hxk
                refine ⟨u2, z1, z2.1, fun j y hj => ⟨(z2.2 j y hj).1, ?_⟩⟩
                have hjl : j < es := by rw [← z2.1]; exact (Array.getElem?_eq_some_iff.1 hj).1
                rw [p2, if_neg, (z2.2 j y hj).2]
                rintro ⟨h1, h2⟩
                simp only [Array.length_toList] at h2
                rw [hes] at h1 h2
                rcases Nat.lt_or_gt_of_ne hki with h | h
                · have : (k + 1) * es ≤ i * es := Nat.mul_le_mul_right _ h
                  rw [Nat.add_mul] at this; omega
                · have : (i + 1) * es ≤ k * es := Nat.mul_le_mul_right _ h
                  rw [Nat.add_mul] at this; omega
            obtain ⟨s1, s2⟩ := hs.upd (lo := lo) ⟨_, hb', rfl⟩ (by omega) hf q2 q3 hB (by intro h; cases h)
            refine ⟨.skip, w', I, Go.undef, ?_, .inr ⟨rfl, rfl⟩, s1, Rep.undef, s2⟩
            have hsz' : (a.eval y).cells.size = T.size := hus
            simp [execOp, Instr.storeAt, Instr.sureAddr, hxv, storeVar, hTI.size, hsz', q1]
          · cases h
        · cases h
      · cases h
    · cases h
  · cases h

end
end Go.Am
