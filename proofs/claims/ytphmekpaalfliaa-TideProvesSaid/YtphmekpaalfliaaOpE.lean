/- Places in slices, parts of slices, lengths, least and greatest numbers: as in the model. Conditions: none. -/
import Derived.Test.YtphmekpaalfliaaOpD
set_option linter.unusedVariables false
set_option linter.unusedSimpArgs false
namespace Go.Am
open Go Go.Wk

section
variable {C : Cfg} {I : Ij} {m : Mem} {H : List Blk} {w : World} {K : List (Nat × V)} {a : Act} {lo nid : Nat} {dst : Option Tmp} {ty : TypeId} {pos : String} {after : Array Edge} {g : Option (Nat × Bool)} {e : Eff}

theorem Sim.es (hs : Sim I m H w) {id es : Nat} {l : List V} {f : Inf} (h : Am.get H id = some (.rows es l)) (hf : I id = some f) : f.es = es ∧ l.length ≤ f.cap ∧ 0 < es := by
  obtain ⟨f', h1, h2, c, ty, h3, h4, h5, h6, h7, h8⟩ := hs.blk id _ h rfl
  rw [hf] at h1
  cases h1
  exact ⟨h2, h5, h7⟩

theorem op_indexAddr (hC : C.OK) (hs : Sim I m H w) (hk : Slots m I K a.tmps) {t : Nat} {x i : Operand} (h : effIndexAddr C K H t x i = some e) : OpOut C.P ⟨dst, .indexAddr t x i, ty, pos, after, g⟩ a I m H lo w e.v (puts H e.wr) := by
  unfold effIndexAddr at h
  split at h
  · rename_i T v ik n hT hx hi
    split at h
    · rename_i p hp
      simp only [Option.some.injEq] at h
      subst h
      have hkd := (hC.ty _ _ hT).kd
      have hxr := kev_rep hk hx
      have hir := (kev_rep hk hi).lit
      unfold indexA at hp
      split at hp
      · rename_i el es l hk'
        rw [hk'] at hkd
        split at hp
        · rename_i hn
          obtain ⟨hn0, hn1, hro⟩ := hn
          simp only [Option.some.injEq] at hp
          subst hp
          have hlt : n.toNat < l.length := by omega
          have hro' : l[n.toNat].cells.length = es := by
            rw [get_eq, List.getElem?_eq_getElem hlt] at hro
            exact Nat.eq_of_beq_eq_true hro
          unfold Rep at hxr
          obtain ⟨ad, cap, es', h1, h2, h3⟩ := hxr
          obtain ⟨b, o, rfl, h4⟩ := h3 (by intro e; subst e; simp at hlt)
          obtain ⟨ur, h5, h6⟩ := h4.get (List.getElem?_eq_getElem hlt)
          have hes : es' = es := by rw [← h6.1, h5.size, hro']
          subst hes
          refine OpOut.pure hs (u := .pointer (some ⟨b, o + n.toNat * es' + 0, none⟩)) ?_ ?_
          · simp [execOp, h1, hir, Instr.indexAt, asIntOf, run_underlying hkd.1, hn0, hn1, hkd.2, Addr.add_n]
          · unfold Rep
            exact ⟨b, o, es', rfl, h4⟩
        · cases hp
      · rename_i el es id off len hk'
        rw [hk'] at hkd
        split at hp
        · rename_i es' l hb
          split at hp
          · rename_i hn
            obtain ⟨hn0, hn1, hro⟩ := hn
            simp only [Option.some.injEq] at hp
            subst hp
            have := Nat.eq_of_beq_eq_true hro
            subst this
            unfold Rep at hxr
            obtain ⟨f, ad, h1, h2, h3, h4, h5⟩ := hxr
            have hse := (hs.es (hget_rows hb) h1).1
            have had := h4 (by omega)
            subst had
            refine OpOut.pure hs (u := .pointer (some ⟨f.b, f.o + off * f.es + n.toNat * f.es, none⟩)) ?_ ?_
            · simp [execOp, h2, hir, Instr.indexAt, asIntOf, run_underlying hkd.1, hn0, hn1, hkd.2, Addr.add_n, hse]
            · unfold Rep
              exact ⟨f, h1, by rw [Nat.add_mul]; simp [Nat.add_assoc]⟩
          · cases hp
        · cases hp
      · rename_i k el es id i' off hk'
        rw [hk'] at hkd
        split at hp
        · rename_i hn
          simp only [Option.some.injEq] at hp
          subst hp
          unfold Rep at hxr
          obtain ⟨f, h1, h2⟩ := hxr
          refine OpOut.pure hs (u := .pointer (some ⟨f.b, f.o + i' * f.es + off + n.toNat * es, none⟩)) ?_ ?_
          · simp [execOp, h2, hir, Instr.indexAt, asIntOf, run_underlying hkd.1, hn.1, hn.2, hkd.2.1, Addr.add_n, Instr.sureAddr]
          · unfold Rep
            exact ⟨f, h1, by simp [Nat.add_assoc]⟩
        · cases hp
      · rename_i k el es l i' off hk'
        rw [hk'] at hkd
        split at hp
        · rename_i hn
          simp only [Option.some.injEq] at hp
          subst hp
          unfold Rep at hxr
          obtain ⟨b, o, es', h1, h2⟩ := hxr
          refine OpOut.pure hs (u := .pointer (some ⟨b, o + i' * es' + off + n.toNat * es, none⟩)) ?_ ?_
          · simp [execOp, h1, hir, Instr.indexAt, asIntOf, run_underlying hkd.1, hn.1, hn.2, hkd.2.1, Addr.add_n, Instr.sureAddr]
          · unfold Rep
            exact ⟨b, o, es', by simp [Nat.add_assoc], h2⟩
        · cases hp
      · cases hp
    · cases h
  · cases h

theorem boundA_eq (hk : Slots m I K a.tmps) {l : Option Operand} {d lo' : Int} (h : boundA K l d = some lo') : (l = none ∧ lo' = d) ∨ ∃ x k, l = some x ∧ a.eval x = .int k lo' := by
  unfold boundA at h
  split at h
  · exact .inl ⟨rfl, (Option.some.inj h).symm⟩
  · rename_i x
    split at h
    · rename_i k n hx
      simp only [Option.some.injEq] at h
      subst h
      exact .inr ⟨x, k, rfl, (kev_rep hk hx).lit⟩
    · cases h

theorem run_sliceBound {P : Program} {k : IntKind} {x y : Nat} {code : BoundsCode} (h : x ≤ y) : (Instr.sliceBound (.int k (x : Int)) y code).run P w = .ok x w := by
  have : (x : Int) ≤ (y : Int) := by omega
  simp [Instr.sliceBound, asIntOf, this, h]

theorem run_sliceAt {P : Program} {t el es : Nat} (hu : P.underlying t = some (.slice el)) (hsz : ∀ w, (Go.sizeOf el).run P w = .ok es w) {ad : Option Addr} {len cap x y z : Nat} {l h mx : Option Value}
    (hl : (l = none ∧ x = 0) ∨ ∃ k, l = some (.int k (x : Int))) (hh : (h = none ∧ y = len) ∨ ∃ k, h = some (.int k (y : Int))) (hm : (mx = none ∧ z = cap) ∨ ∃ k, mx = some (.int k (z : Int))) (hmh : mx ≠ none → h ≠ none)
    (h1 : x ≤ y) (h2 : y ≤ z) (h3 : z ≤ cap) : (Instr.sliceAt t (.slice ad len cap) l h mx).run P w = .ok (.slice (if z = x then ad else ad.map (·.add (x * es))) (y - x) (z - x)) w := by
  have key : ∀ (lv hv mv : Sem Nat), lv.run P w = .ok x w → hv.run P w = .ok y w → mv.run P w = .ok z w → True := fun _ _ _ _ _ _ => trivial
  have hb : (Instr.sliceBounds true len cap l h mx).run P w = .ok (x, y, z) w := by
    unfold Instr.sliceBounds
    rcases hm with ⟨rfl, rfl⟩ | ⟨k3, rfl⟩
    · rcases hh with ⟨rfl, rfl⟩ | ⟨k2, rfl⟩
      · rcases hl with ⟨rfl, rfl⟩ | ⟨k1, rfl⟩
        · simp
        · simp [run_sliceBound h1]
      · rcases hl with ⟨rfl, rfl⟩ | ⟨k1, rfl⟩
        · simp [run_sliceBound h2]
        · simp [run_sliceBound h2, run_sliceBound h1]
    · rcases hh with ⟨rfl, rfl⟩ | ⟨k2, rfl⟩
      · exact absurd rfl (hmh (by simp))
      · rcases hl with ⟨rfl, rfl⟩ | ⟨k1, rfl⟩
        · simp [run_sliceBound h3, run_sliceBound h2]
        · simp [run_sliceBound h3, run_sliceBound h2, run_sliceBound h1]
  simp [Instr.sliceAt, Instr.slice, run_underlying hu, hb, hsz]

theorem op_slice (hC : C.OK) (hs : Sim I m H w) (hk : Slots m I K a.tmps) {t : Nat} {x : Operand} {l h mx : Option Operand} (hh : effSlice C K H t x l h mx = some e) : OpOut C.P ⟨dst, .slice t x l h mx, ty, pos, after, g⟩ a I m H lo w e.v (puts H e.wr) := by
  unfold effSlice at hh
  split at hh
  · rename_i Te v hTe hx
    obtain ⟨T, el, es, hT, hkd, hTe'⟩ : ∃ T el es, C.ty t = some T ∧ T.kd = .slice el es ∧ C.ty el = some Te := by
      unfold sliceElem at hTe
      split at hTe
      · rename_i T hT
        split at hTe
        · rename_i el es hk'; exact ⟨T, el, es, hT, hk', hTe⟩
        · cases hTe
      · cases hTe
    have hu := (hC.ty _ _ hT).kd
    rw [hkd] at hu
    have hsz := (hC.ty _ _ hTe').size
    have hxr := kev_rep hk hx
    unfold effSliceB at hh
    split at hh
    · cases hh
    rename_i hmh
    split at hh
    · rename_i n hn
      split at hh
      · rename_i lo' hi' hlo hhi
        split at hh
        · rename_i m' hm'
          split at hh
          · rename_i p hp
            simp only [Option.some.injEq] at hh
            subst hh
            have elo := boundA_eq hk hlo
            have ehi := boundA_eq hk hhi
            have em := boundA_eq hk hm'
            have hmh' : mx.map a.eval ≠ none → h.map a.eval ≠ none := by
              intro h1 h2
              cases mx <;> cases h <;> simp_all
            have opt : ∀ {q : Option Operand} {d v : Int} {N : Nat}, v = (N : Int) → ((q = none ∧ v = d) ∨ ∃ x k, q = some x ∧ a.eval x = .int k v) → (q.map a.eval = none ∧ v = d) ∨ ∃ k, q.map a.eval = some (.int k (N : Int)) := by
              rintro q d v N rfl (⟨rfl, h2⟩ | ⟨x, k, rfl, h3⟩)
              · exact .inl ⟨rfl, h2⟩
              · exact .inr ⟨k, by simp [h3]⟩
            unfold sliceA at hp
            split at hp
            · rename_i rows
              split at hp
              · rename_i hc
                obtain ⟨h0, h1, h2, h3, hro⟩ := hc
                simp only [Option.some.injEq] at hp
                subst hp
                simp only [lenS, Option.some.injEq] at hn
                subst hn
                obtain ⟨X, rfl⟩ := Int.eq_ofNat_of_zero_le h0
                obtain ⟨Y, rfl⟩ := Int.eq_ofNat_of_zero_le (by omega : 0 ≤ hi')
                obtain ⟨Z, rfl⟩ := Int.eq_ofNat_of_zero_le (by omega : 0 ≤ m')
                have h1' : X ≤ Y := by omega
                have h2' : Y ≤ Z := by omega
                have h3' : Z ≤ rows.length := by omega
                unfold Rep at hxr
                obtain ⟨ad, cap, es', g1, g2, g3⟩ := hxr
                obtain ⟨Z', hz1, hz2, hz3⟩ : ∃ Z', ((mx.map a.eval = none ∧ Z' = cap) ∨ ∃ k, mx.map a.eval = some (.int k (Z' : Int))) ∧ Y ≤ Z' ∧ Z' ≤ cap := by
                  rcases em with ⟨rfl, _⟩ | ⟨x, k, rfl, h4⟩
                  · exact ⟨cap, .inl ⟨rfl, rfl⟩, by omega, Nat.le_refl _⟩
                  · exact ⟨Z, .inr ⟨k, by simp [h4]⟩, h2', by omega⟩
                have hr := run_sliceAt (w := w) (P := C.P) hu.1 hsz (ad := ad) (len := rows.length) (cap := cap) (x := X) (y := Y) (z := Z') (l := l.map a.eval) (h := h.map a.eval) (mx := mx.map a.eval)
                  (by rcases opt rfl elo with ⟨q1, q2⟩ | q; exact .inl ⟨q1, by omega⟩; exact .inr q) (by rcases opt rfl ehi with ⟨q1, q2⟩ | q; exact .inl ⟨q1, by omega⟩; exact .inr q) hz1 hmh' h1' hz2 hz3
                refine OpOut.pure hs ?_ (u := .slice (if Z' = X then ad else ad.map (·.add (X * Te.size))) (Y - X) (Z' - X)) ?_
                · simp [execOp, g1, hr]
                · simp only [Int.toNat_natCast] at hro ⊢
                  unfold Rep
                  have hlen : ((rows.take Y).drop X).length = Y - X := by simp; omega
                  refine ⟨_, _, es', by rw [hlen], by rw [hlen]; omega, fun hne => ?_⟩
                  have hXY : X < Y := by
                    rcases Nat.lt_or_ge X Y with h | h
                    · exact h
                    · exact absurd (List.eq_nil_of_length_eq_zero (by rw [hlen]; omega)) hne
                  obtain ⟨b, o, rfl, g4⟩ := g3 (by intro e; subst e; simp at h3'; omega)
                  have hXl : X < rows.length := by omega
                  rw [get_eq, List.getElem?_eq_getElem hXl] at hro
                  have hro' := Nat.eq_of_beq_eq_true hro
                  obtain ⟨ur, h5, h6⟩ := g4.get (List.getElem?_eq_getElem hXl)
                  have hes : es' = Te.size := by rw [← h6.1, h5.size, hro']
                  subst hes
                  refine ⟨b, o + X * Te.size, by rw [if_neg (by omega)]; simp [Addr.add_n], RepRows.mk fun i v hv => ?_⟩
                  rw [List.getElem?_drop, List.getElem?_take] at hv
                  split at hv
                  · obtain ⟨u, q1, q2⟩ := g4.get hv
                    exact ⟨u, q1, by rwa [show o + (X + i) * Te.size = o + X * Te.size + i * Te.size by rw [Nat.add_mul]; omega] at q2⟩
                  · cases hv
              · cases hp
            · rename_i id off len
              split at hp
              · cases hp
              rename_i hmx
              split at hp
              · rename_i es' rows hb
                split at hp
                · rename_i hc
                  obtain ⟨h0, h1, h2, hro⟩ := hc
                  simp only [Option.some.injEq] at hp
                  subst hp
                  have := Nat.eq_of_beq_eq_true hro
                  subst this
                  obtain ⟨X, rfl⟩ := Int.eq_ofNat_of_zero_le h0
                  obtain ⟨Y, rfl⟩ := Int.eq_ofNat_of_zero_le (by omega : 0 ≤ hi')
                  have h1' : X ≤ Y := by omega
                  unfold Rep at hxr
                  obtain ⟨f, ad, g1, g2, g3, g4, g5⟩ := hxr
                  have hse := hs.es (hget_rows hb) g1
                  simp only [lenS, Option.some.injEq] at hn
                  subst hn
                  have hmx' : mx = none := by cases mx <;> simp_all
                  subst hmx'
                  have hr := run_sliceAt (w := w) (P := C.P) hu.1 hsz (ad := ad) (len := len) (cap := f.cap - off) (x := X) (y := Y) (z := f.cap - off) (l := l.map a.eval) (h := h.map a.eval) (mx := none)
                    (by rcases opt rfl elo with ⟨q1, q2⟩ | q; exact .inl ⟨q1, by omega⟩; exact .inr q) (by rcases opt rfl ehi with ⟨q1, q2⟩ | q; exact .inl ⟨q1, by omega⟩; exact .inr q) (.inl ⟨rfl, rfl⟩) (fun h => absurd rfl h) h1' (by omega) (Nat.le_refl _)
                  refine OpOut.pure hs ?_ (u := .slice (if f.cap - off = X then ad else ad.map (·.add (X * Te.size))) (Y - X) (f.cap - off - X)) ?_
                  · simp [execOp, g2, hr]
                  · simp only [Int.toNat_natCast]
                    unfold Rep
                    refine ⟨f, _, g1, by rw [Nat.sub_sub], by omega, fun hlt => ?_, fun hle => ?_⟩
                    · have had := g4 (by omega)
                      subst had
                      rw [if_neg (by omega)]
                      simp only [Option.map_some, Addr.add_n, hse.1]
                      rw [Nat.add_mul, Nat.add_assoc]
                    · have hex : ∃ b o, ad = some ⟨b, o, none⟩ := by
                        rcases Nat.lt_or_ge off f.cap with h | h
                        · exact ⟨_, _, g4 h⟩
                        · exact g5 h
                      obtain ⟨b, o, rfl⟩ := hex
                      split
                      · exact ⟨b, o, rfl⟩
                      · exact ⟨b, o + X * Te.size, by simp [Addr.add_n]⟩
                · cases hp
              · cases hp
            · split at hp
              · rename_i hc
                obtain ⟨rfl, rfl, hmx⟩ := hc
                simp only [Option.some.injEq] at hp
                subst hp
                have hmx' : mx = none := by cases mx <;> simp_all
                subst hmx'
                have hr := run_sliceAt (w := w) (P := C.P) hu.1 hsz (ad := none) (len := 0) (cap := 0) (x := 0) (y := 0) (z := 0) (l := l.map a.eval) (h := h.map a.eval) (mx := none)
                  (by rcases opt (N := 0) rfl elo with ⟨q1, q2⟩ | q; exact .inl ⟨q1, rfl⟩; exact .inr q) (by rcases opt (N := 0) rfl ehi with ⟨q1, q2⟩ | q; exact .inl ⟨q1, rfl⟩; exact .inr q) (.inl ⟨rfl, rfl⟩) (fun h => absurd rfl h) (Nat.le_refl _) (Nat.le_refl _) (Nat.le_refl _)
                refine OpOut.pure hs (u := .slice none 0 0) ?_ (Rep.of_lit fun c h => by cases h)
                simp [execOp, hxr.lit, hr]
              · cases hp
            · cases hp
          · cases hh
        · cases hh
      · cases hh
    · cases hh
  · cases hh

end
end Go.Am
