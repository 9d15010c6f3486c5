/- Values without blocks of the call's own. Conditions: none. -/
import Derived.Test.YtphmekpaalfliaaGm
set_option linter.unusedVariables false
set_option linter.unusedSimpArgs false
namespace Go.Am
open Go Go.Wk Go.RowKit

section
variable {I : Ij} {m : Mem} {H : List Blk} {w w' : World} {lo : Nat}

open Classical in
/-- Frozen memory with what own blocks hold. -/
noncomputable def frzMem (I : Ij) (m : Mem) (H : List Blk) (lo : Nat) (w : World) : Mem := fun k => match m k with
  | some o => some o
  | none => if ∃ id f, lo ≤ id ∧ Live H id ∧ I id = some f ∧ f.b = k then w.heap[k]? else none

theorem frzMem_le : m.Le (frzMem I m H lo w) := by
  intro k o h
  unfold frzMem
  rw [h]
theorem frzMem_sub (hs : Sim I m H w) : (frzMem I m H lo w).Le (wmem w) := by
  intro k o h
  unfold frzMem at h
  split at h
  · rename_i e; rw [← h]; exact hs.sub k _ e
  · split at h
    · exact h
    · cases h
theorem frzMem_own {id : Nat} {f : Inf} (hs : Sim I m H w) (hlo : lo ≤ id) (hl : Live H id) (hf : I id = some f) : frzMem I m H lo w f.b = w.heap[f.b]? := by
  unfold frzMem
  rw [hs.off id f hl hf]
  simp only
  rw [if_pos ⟨id, f, hlo, hl, hf, rfl⟩]
theorem frzMem_new {k : Nat} {o : Obj} (h : frzMem I m H lo w k = some o) : m k = some o ∨ ∃ id f, lo ≤ id ∧ Live H id ∧ I id = some f ∧ f.b = k := by
  unfold frzMem at h
  split at h
  · rename_i e; rw [← h]; exact .inl e
  · split at h
    · rename_i e; exact .inr e
    · cases h

theorem RepL.map {m' : Mem} {I' : Ij} {f : V → Option V} : ∀ {l l' : List V} {us : List Value}, (∀ v v' u, v ∈ l → f v = some v' → Rep m v I u → Rep m' v' I' u) → mapO f l = some l' → RepL m l I us → RepL m' l' I' us
  | [], l', us, _, h, hr => by simp only [mapO, Option.some.injEq] at h; subst h; unfold RepL at *; exact hr
  | x :: r, l', us, hf, h, hr => by
    simp only [mapO] at h
    cases hx : f x with
    | none => rw [hx] at h; cases h
    | some y =>
      cases hl : mapO f r with
      | none => rw [hx, hl] at h; cases h
      | some s =>
        rw [hx, hl] at h
        simp only [Option.some.injEq] at h
        subst h
        unfold RepL at hr ⊢
        obtain ⟨u, us', rfl, h1, h2⟩ := hr
        exact ⟨u, us', rfl, hf x y u List.mem_cons_self hx h1, RepL.map (fun v v' u hv => hf v v' u (List.mem_cons_of_mem _ hv)) hl h2⟩

theorem frz_sound (hs : Sim I m H w) : ∀ (n : Nat) (v v' : V) (u : Value), frz H lo n v = some v' → Rep m v I u → Rep (frzMem I m H lo w) v' Ij.none u
  | 0, v, v', u, h, _ => by cases h
  | n + 1, v, v', u, h, hr => by
    have rows : ∀ {id es : Nat} {l r l' : List V} {off : Nat} {f : Inf}, ¬ id < lo → hget H id = .rows es l → I id = some f → (∀ (i : Nat) x, r[i]? = some x → l[off + i]? = some x) → mapO (frz H lo n) r = some l' → RepRows (frzMem I m H lo w) l' Ij.none f.b (f.o + off * f.es) f.es := by
      intro id es l r l' off f hlo hb hf hsub hm
      have hb' := hget_rows hb
      obtain ⟨f', hf', hes, c, ty', hw, hc1, hc2, hc3, hc4, hc5⟩ := hs.blk id _ hb' rfl
      rw [hf] at hf'
      cases hf'
      obtain ⟨hl, hg⟩ := mapO_get hm
      refine RepRows.mk fun i x hx => ?_
      have hir : i < r.length := by rw [← hl]; exact (List.getElem?_eq_some_iff.1 hx).1
      obtain ⟨y, hy1, hy2⟩ := hg i _ (List.getElem?_eq_getElem hir)
      rw [hx] at hy1
      cases hy1
      obtain ⟨u', q1, q2⟩ := hc5 _ _ (hsub i _ (List.getElem?_eq_getElem hir))
      refine ⟨u', frz_sound hs n _ _ _ hy2 q1, by rw [hes]; exact q2.1, fun j z hz => ⟨(q2.2 j z hz).1, ?_⟩⟩
      have := (q2.2 j z hz).2
      unfold Mem.cell
      rw [frzMem_own hs (by omega) ⟨_, hb', rfl⟩ hf, hw, hes]
      rwa [show f.o + (off + i) * es + j = f.o + off * es + i * es + j by rw [Nat.add_mul]; omega] at this
    have same : ∀ (I' : Ij) {v : V} {u : Value}, Rep m v Ij.none u → Rep (frzMem I m H lo w) v Ij.none u := fun _ _ _ h => Rep.mono frzMem_le _ (Ij.Le.rfl' _) h
    unfold frz at h
    split at h
    · simp only [Option.some.injEq] at h
      subst h
      rw [hr.lit]
      unfold Rep
      exact ⟨none, 0, 0, rfl, Nat.le_refl _, fun h => absurd rfl h⟩
    · simp only [Option.some.injEq] at h
      subst h
      unfold Rep at hr ⊢
      exact hr
    · rename_i l
      simp only [Option.map_eq_some_iff] at h
      obtain ⟨l', h1, rfl⟩ := h
      unfold Rep at hr ⊢
      obtain ⟨us, rfl, h2, h3⟩ := hr
      exact ⟨us, rfl, h2, RepL.map (fun v v' u _ => frz_sound hs n v v' u) h1 h3⟩
    · rename_i l
      simp only [Option.map_eq_some_iff] at h
      obtain ⟨l', h1, rfl⟩ := h
      unfold Rep at hr ⊢
      obtain ⟨us, rfl, h3⟩ := hr
      exact ⟨us, rfl, RepL.map (fun v v' u _ => frz_sound hs n v v' u) h1 h3⟩
    · rename_i f l
      simp only [Option.map_eq_some_iff] at h
      obtain ⟨l', h1, rfl⟩ := h
      unfold Rep at hr ⊢
      obtain ⟨us, rfl, h3⟩ := hr
      exact ⟨us, rfl, RepL.map (fun v v' u _ => frz_sound hs n v v' u) h1 h3⟩
    · rename_i id i off
      split at h
      · cases h
      rename_i hlo
      split at h
      · rename_i es l hb
        simp only [Option.map_eq_some_iff] at h
        obtain ⟨l', h1, rfl⟩ := h
        unfold Rep at hr
        obtain ⟨f, hf, rfl⟩ := hr
        have := rows (off := 0) hlo hb hf (fun i x hx => by simpa using hx) h1
        unfold Rep
        exact ⟨f.b, f.o, f.es, rfl, by simpa using this⟩
      · cases h
    · rename_i id off len
      split at h
      · cases h
      rename_i hlo
      split at h
      · rename_i es l hb
        split at h
        · rename_i r htk
          simp only [Option.map_eq_some_iff] at h
          obtain ⟨l', h1, rfl⟩ := h
          unfold Rep at hr
          obtain ⟨f, ad, hf, rfl, g1, g2, g3⟩ := hr
          have hlen := (takeAt_eq _ _ _ _ htk).1
          have hll := (mapO_get h1).1
          have hr := rows (off := off) hlo hb hf (fun i x hx => takeAt_get htk i x hx) h1
          unfold Rep
          refine ⟨ad, _, f.es, by rw [hll, hlen], by rw [hll, hlen]; omega, fun hne => ?_⟩
          have : 0 < len := by rw [← hlen, ← hll]; exact List.length_pos_iff.2 hne
          exact ⟨_, _, g2 (by omega), hr⟩
        · cases h
      · cases h
    · rename_i id
      split at h
      · cases h
      rename_i hlo
      split at h
      · rename_i ks vs hb
        split at h
        · rename_i ks' vs' hk hv
          simp only [Option.some.injEq] at h
          subst h
          have hb' := hget_of hb rfl
          obtain ⟨f, hf, es, cl, hw, es', m1, m2, m3, m4, m5⟩ := hs.blk id _ hb' rfl
          unfold Rep at hr
          obtain ⟨f', hf', rfl⟩ := hr
          rw [hf] at hf'
          cases hf'
          unfold Rep
          exact ⟨f.b, es, es', cl, rfl, by rw [frzMem_own hs (by omega) ⟨_, hb', rfl⟩ hf]; exact hw, m1, m2, RepL.map (fun v v' u _ => frz_sound hs n v v' u) hk m3, RepL.map (fun v v' u _ => frz_sound hs n v v' u) hv m4, m5⟩
        · cases h
      · cases h
    · cases h
    · rename_i n1 n2 n3 n4 n5 n6 n7 n8 n9
      simp only [Option.some.injEq] at h
      subst h
      cases v with
      | lit v => exact absurd rfl (n2 v)
      | agg l => exact absurd rfl (n3 l)
      | tup l => exact absurd rfl (n4 l)
      | ptr a b c => exact absurd rfl (n6 a b c)
      | fptr a b c => unfold Rep at hr ⊢; obtain ⟨b, o, es, h1, h2⟩ := hr; exact ⟨b, o, es, h1, RepRows.mono frzMem_le _ (Ij.Le.rfl' _) h2⟩
      | sl rows =>
        unfold Rep at hr ⊢
        obtain ⟨ad, cap, es, h1, h2, h3⟩ := hr
        refine ⟨ad, cap, es, h1, h2, fun hne => ?_⟩
        obtain ⟨b, o, h4, h5⟩ := h3 hne
        exact ⟨b, o, h4, RepRows.mono frzMem_le _ (Ij.Le.rfl' _) h5⟩
      | osl a b c => exact absurd rfl (n7 a b c)
      | fn f l => exact absurd rfl (n5 f l)
      | yld a => exact absurd rfl (n9 a)
      | map a => exact absurd rfl (n8 a)
      | fmap ks vs =>
        unfold Rep at hr ⊢
        obtain ⟨b, es, es', c, h1, h2, h5, h6, h3, h4, h7⟩ := hr
        exact ⟨b, es, es', c, h1, frzMem_le _ _ h2, h5, h6, RepL.mono frzMem_le ks (Ij.Le.rfl' _) h3, RepL.mono frzMem_le vs (Ij.Le.rfl' _) h4, h7⟩

theorem RepL.same {m' : Mem} {I' : Ij} : ∀ {l : List V} {us : List Value}, (∀ v u, v ∈ l → Rep m v I u → Rep m' v I' u) → RepL m l I us → RepL m' l I' us
  | [], us, _, hr => by unfold RepL at *; exact hr
  | x :: r, us, hf, hr => by
    unfold RepL at hr ⊢
    obtain ⟨u, us', rfl, h1, h2⟩ := hr
    exact ⟨u, us', rfl, hf x u List.mem_cons_self h1, RepL.same (fun v u hv => hf v u (List.mem_cons_of_mem _ hv)) h2⟩

theorem shut_sound : ∀ (n : Nat) (v : V) (u : Value), shut n v = true → Rep m v I u → Rep m v Ij.none u
  | 0, v, u, h, _ => by cases h
  | n + 1, v, u, h, hr => by
    unfold shut at h
    split at h
    · rename_i l
      unfold Rep at hr ⊢
      obtain ⟨us, rfl, h2, h3⟩ := hr
      exact ⟨us, rfl, h2, RepL.same (fun v u hv => shut_sound n v u (List.all_eq_true.1 h v hv)) h3⟩
    · rename_i l
      unfold Rep at hr ⊢
      obtain ⟨us, rfl, h3⟩ := hr
      exact ⟨us, rfl, RepL.same (fun v u hv => shut_sound n v u (List.all_eq_true.1 h v hv)) h3⟩
    · rename_i f l
      unfold Rep at hr ⊢
      obtain ⟨us, rfl, h3⟩ := hr
      exact ⟨us, rfl, RepL.same (fun v u hv => shut_sound n v u (List.all_eq_true.1 h v hv)) h3⟩
    · cases h
    · cases h
    · cases h
    · cases h
    · rename_i n1 n2 n3 n4 n5 n6 n7
      cases v with
      | agg l => exact absurd rfl (n1 l)
      | tup l => exact absurd rfl (n2 l)
      | fn f l => exact absurd rfl (n3 f l)
      | ptr a b c => exact absurd rfl (n4 a b c)
      | osl a b c => exact absurd rfl (n5 a b c)
      | map a => exact absurd rfl (n6 a)
      | yld a => exact absurd rfl (n7 a)
      | _ => unfold Rep at hr ⊢; exact hr

theorem flat_sound {m' : Mem} {I' : Ij} : ∀ (n : Nat) (v : V) (u : Value), flat n v = true → Rep m v I u → Rep m' v I' u
  | 0, v, u, h, _ => by cases h
  | n + 1, v, u, h, hr => by
    unfold flat at h
    split at h
    · unfold Rep at hr ⊢; exact hr
    · rename_i l
      unfold Rep at hr ⊢
      obtain ⟨us, rfl, h2, h3⟩ := hr
      exact ⟨us, rfl, h2, RepL.same (fun v u hv => flat_sound n v u (List.all_eq_true.1 h v hv)) h3⟩
    · rename_i l
      unfold Rep at hr ⊢
      obtain ⟨us, rfl, h3⟩ := hr
      exact ⟨us, rfl, RepL.same (fun v u hv => flat_sound n v u (List.all_eq_true.1 h v hv)) h3⟩
    · unfold Rep at hr ⊢
      obtain ⟨ad, cap, es, h1, h2, h3⟩ := hr
      exact ⟨ad, cap, es, h1, h2, fun h => absurd rfl h⟩
    · cases h

/-- Arguments as a call sees them that has no blocks. -/
theorem cloArgs_sound (hs : Sim I m H w) {fl : Bool} : ∀ {l l' : List V} {us : List Value}, CloArgs H fl l l' → RepL m l I us → RepL (if fl then frzMem I m H 0 w else m) l' Ij.none us
  | [], l', us, h, hr => by cases h; unfold RepL at *; exact hr
  | x :: r, l', us, h, hr => by
    cases h
    rename_i v' l' hx hl
    unfold RepL at hr ⊢
    obtain ⟨u, us', rfl, h1, h2⟩ := hr
    refine ⟨u, us', rfl, ?_, cloArgs_sound hs hl h2⟩
    have hle : m.Le (if fl then frzMem I m H 0 w else m) := by
      split
      · exact frzMem_le
      · exact fun _ _ h => h
    cases hx with
    | shut h3 => exact Rep.mono hle _ (Ij.Le.rfl' _) (shut_sound _ _ _ h3 h1)
    | nil h3 =>
      -- with no blocks at all
      have key : ∀ (n : Nat) (v v' : V) (u : Value), frz [] 0 n v = some v' → Rep m v I u → Rep m v' Ij.none u := by
        intro n
        induction n with
        | zero => intro v v' u h _; cases h
        | succ n ih =>
          intro v v' u h hr
          unfold frz at h
          split at h
          · simp only [Option.some.injEq] at h
            subst h
            rw [hr.lit]
            unfold Rep
            exact ⟨none, 0, 0, rfl, Nat.le_refl _, fun h => absurd rfl h⟩
          · simp only [Option.some.injEq] at h
            subst h
            unfold Rep at hr ⊢
            exact hr
          · simp only [Option.map_eq_some_iff] at h
            obtain ⟨l', h1, rfl⟩ := h
            unfold Rep at hr ⊢
            obtain ⟨us, rfl, h2, h3⟩ := hr
            exact ⟨us, rfl, h2, RepL.map (fun v v' u _ => ih v v' u) h1 h3⟩
          · simp only [Option.map_eq_some_iff] at h
            obtain ⟨l', h1, rfl⟩ := h
            unfold Rep at hr ⊢
            obtain ⟨us, rfl, h3⟩ := hr
            exact ⟨us, rfl, RepL.map (fun v v' u _ => ih v v' u) h1 h3⟩
          · simp only [Option.map_eq_some_iff] at h
            obtain ⟨l', h1, rfl⟩ := h
            unfold Rep at hr ⊢
            obtain ⟨us, rfl, h3⟩ := hr
            exact ⟨us, rfl, RepL.map (fun v v' u _ => ih v v' u) h1 h3⟩
          · rename_i id i off
            simp [hget, Am.get] at h
          · rename_i id off len
            simp [hget, Am.get] at h
          · rename_i id
            simp [hget, Am.get] at h
          · cases h
          · rename_i n1 n2 n3 n4 n5 n6 n7 n8 n9
            simp only [Option.some.injEq] at h
            subst h
            cases v with
            | lit v => exact absurd rfl (n2 v)
            | agg l => exact absurd rfl (n3 l)
            | tup l => exact absurd rfl (n4 l)
            | ptr a b c => exact absurd rfl (n6 a b c)
            | osl a b c => exact absurd rfl (n7 a b c)
            | fn f l => exact absurd rfl (n5 f l)
            | yld a => exact absurd rfl (n9 a)
            | map a => exact absurd rfl (n8 a)
            | _ => unfold Rep at hr ⊢; exact hr
      exact Rep.mono hle _ (Ij.Le.rfl' _) (key _ _ _ _ h3 h1)
    | frz h3 => exact frz_sound hs _ _ _ _ h3 h1

end
end Go.Am
