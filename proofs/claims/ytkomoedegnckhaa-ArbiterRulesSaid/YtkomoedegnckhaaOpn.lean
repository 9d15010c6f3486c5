/- Arguments as they are read: plain things that the abstract machine knows. Conditions: none. -/
import Derived.Test.YtkomoedegnckhaaX
import Derived.WalkKit
import Derived.ProofKit
import Derived.OpenShut
import Derived.ChangeOld
import Derived.Below
set_option linter.unusedVariables false
set_option linter.unusedSimpArgs false
namespace Go.Am
open Go Go.Wk Go.RowKit Go.Mx Go.ChangeShapes Go.WideShapes
def OpnC (P : Program) (t : Nat) (α : Type) (c : α → List V) (ok : α → Prop) : Prop :=
 ∀ (H : Type) (enc : TypeId × Value → H) (W : World) (fuel : Nat) (cs : List Value) (x : DataW H × List MemPlace), DataW.trod enc P W 0 (fun _ => true) true fuel t cs = some x →
  ∃ a : α, ok a ∧ RepL (wmem W) (c a) Ij.none cs ∧ ∀ u ∈ cs, u.oneCell' = true
section
variable {P : Program}
theorem opn_int {t : Nat} {k : IntKind} (ht : P.underlying t = some (.int k)) : OpnC P t Int (fun n => [.lit (.int k n)]) (fun n => k.min ≤ n ∧ n ≤ k.max) := by
 intro H enc W fuel cs x h
 obtain ⟨n, rfl, _, hw⟩ := DataW.trod_int ht h
 refine ⟨n, by simpa [Lit.wf] using hw, ?_, ?_⟩
 ·unfold RepL; refine ⟨_, [], rfl, ?_, by unfold RepL; rfl⟩
  unfold Rep; exact ⟨rfl, fun c h => by cases h⟩
 ·intro u hu; simp only [List.mem_singleton] at hu; subst hu; rfl
theorem OpnC.map {t : Nat} {α β : Type} {c : α → List V} {ok : α → Prop} {c' : β → List V} {ok' : β → Prop} (g : α → β) (h : OpnC P t α c ok) (hc : ∀ a, c' (g a) = c a) (hok : ∀ a, ok a → ok' (g a)) : OpnC P t β c' ok' := by
 intro H enc W fuel cs x hx
 obtain ⟨a, h1, h2, h3⟩ := h H enc W fuel cs x hx
 exact ⟨g a, hok a h1, by rw [hc]; exact h2, h3⟩
def OpnF (P : Program) (off : Nat) (fs : List Field) (n : Nat) (α : Type) (c : α → List V) (ok : α → Prop) : Prop :=
 ∀ (H : Type) (enc : TypeId × Value → H) (W : World) (fuel : Nat) (cs : List Value) (xs : List (DataW H × List MemPlace)), cs.length = n → fs.mapM (fun f => DataW.trod enc P W 0 (fun _ => true) true fuel f.type ((cs.drop f.offset).take (P.cellsOf f.type))) = some xs →
  ∃ a : α, ok a ∧ RepL (wmem W) (c a) Ij.none (cs.drop off) ∧ ∀ u ∈ cs.drop off, u.oneCell' = true
theorem opnF_nil {n : Nat} : OpnF P n [] n Unit (fun _ => []) (fun _ => True) := by
 intro H enc W fuel cs xs hl h
 rw [List.drop_eq_nil_of_le (by omega)]
 exact ⟨(), trivial, by unfold RepL; rfl, fun u hu => by cases hu⟩
theorem opnF_cons {off sz n : Nat} {f : Field} {fs : List Field} {α β : Type} {c : α → List V} {ok : α → Prop} {c' : β → List V} {ok' : β → Prop} (ho : f.offset = off) (hs : P.cellsOf f.type = sz) (h1 : OpnC P f.type α c ok) (h2 : OpnF P (off + sz) fs n β c' ok') : OpnF P off (f :: fs) n (α × β) (fun x => c x.1 ++ c' x.2) (fun x => ok x.1 ∧ ok' x.2) := by
 intro H enc W fuel cs xs hl h
 rw [List.mapM_cons] at h
 simp only [Option.bind_eq_bind, Option.bind_eq_some_iff] at h
 obtain ⟨x, q1, ys, q2, _⟩ := h
 rw [ho, hs] at q1
 obtain ⟨a, g1, g2, g3⟩ := h1 H enc W fuel _ x q1
 obtain ⟨b, k1, k2, k3⟩ := h2 H enc W fuel cs ys hl q2
 have e : cs.drop off = (cs.drop off).take sz ++ cs.drop (off + sz) := by
  rw [← List.drop_drop]; exact (List.take_append_drop _ _).symm
 refine ⟨(a, b), ⟨g1, k1⟩, ?_, fun u hu => ?_⟩
 ·rw [e]; exact RepL.append g2 k2
 ·rw [e, List.mem_append] at hu
  rcases hu with hu | hu
  ·exact g3 u hu
  ·exact k3 u hu
theorem opn_struct {t n : Nat} {fs : Array Field} {α : Type} {c : α → List V} {ok : α → Prop} (ht : P.underlying t = some (.struct fs)) (hn : P.cellsOf t = n) (h : OpnF P 0 fs.toList n α c ok) : OpnC P t α c ok := by
 intro H enc W fuel cs x hx
 cases fuel with
 | zero => simp [DataW.trod] at hx
 | succ fuel =>
  unfold DataW.trod at hx
  rw [ht] at hx
  simp only [hn] at hx
  split at hx
  ·rename_i hl
   rw [Option.map_eq_some_iff] at hx
   obtain ⟨xs, h1, _⟩ := hx
   simpa using h H enc W fuel cs xs hl h1
  ·cases hx
theorem arg_int {W : World} {k : IntKind} {n : Int} : Rep (wmem W) (.lit (.int k n)) Ij.none (.int k n) := by unfold Rep; exact ⟨rfl, fun c h => by cases h⟩
theorem arg_struct {H : Type} {enc : TypeId × Value → H} {W : World} {t : Nat} {fs : Array Field} {α : Type} {c : α → List V} {ok : α → Prop} (ht : P.underlying t = some (.struct fs)) (ho : OpnC P t α c ok) {v : Value} {d : DataW H} {p : List MemPlace} (hv : Value.okWide P W .any 0 t v ∨ ∃ b, Value.okWide P W .any b t v) (h : DataW.Trod enc P W 0 (fun _ => true) true t v d p) : ∃ a : α, ok a ∧ Rep (wmem W) (.agg (c a)) Ij.none v := by
 have hv' : ∃ b, Value.okWide P W .any b t v := by rcases hv with h | h; exact ⟨0, h⟩; exact h
 obtain ⟨b, hv⟩ := hv'
 unfold Value.okWide at hv
 rw [ht] at hv
 obtain ⟨cs, rfl, _⟩ := hv
 obtain ⟨fuel, h⟩ := h
 obtain ⟨a, h1, h2, h3⟩ := ho H enc W fuel _ _ h
 refine ⟨a, h1, ?_⟩
 unfold Rep
 exact ⟨cs.toList, by simp, fun x hx => h3 x hx, h2⟩
theorem repL_nil {m : Mem} : RepL m [] Ij.none [] := by unfold RepL; rfl
theorem repL_cons {m : Mem} {v : V} {l : List V} {u : Value} {us : List Value} (h : Rep m v Ij.none u) (h2 : RepL m l Ij.none us) : RepL m (v :: l) Ij.none (u :: us) := by unfold RepL; exact ⟨u, us, rfl, h, h2⟩
theorem law_calls {f : Nat} {args : List V} (h : Ct P f args (.b true)) {us : List Value} {W : World} (hr : RepL (wmem W) args Ij.none us) : Calls P f us.toArray W (fun e W' => e = .returned (.bool true) ∧ Below W.heap.size W W') := by
 refine (h.1 (wmem W) W us (Mem.Le.rfl' _) hr).mono ?_
 rintro e w' ⟨u, m', rfl, hx, _, _, _, hv⟩
 unfold Rep at hv
 obtain ⟨rfl, _⟩ := hv
 exact ⟨rfl, hx.toBelow⟩
end
end Go.Am
