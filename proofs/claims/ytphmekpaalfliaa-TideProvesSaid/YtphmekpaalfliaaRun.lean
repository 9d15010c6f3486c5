/- A run of the abstract machine is a proof of the judgement. Conditions: none. -/
import Derived.Test.YtphmekpaalfliaaThm
set_option linter.unusedVariables false
set_option linter.unusedSimpArgs false
namespace Go.Am
open Go Go.Wk Go.RowKit

theorem cloArgs_shut {H : List Blk} {fl : Bool} {n : Nat} : ∀ {l : List V}, l.all (shut n) = true → CloArgs H fl l l
  | [], _ => .nil
  | x :: r, h => by
    simp only [List.all_cons, Bool.and_eq_true] at h
    exact .cons (.shut h.1) (cloArgs_shut h.2)

structure Rn.OK (R : Rn) : Prop where
  ctr : ∀ f args v, R.ctr f args = some v → ∃ args', CloArgs [] false args args' ∧ R.C.X f args' v

section
variable {R : Rn}

theorem Gm.mono {C : Cfg} {k : List It} {s : St} {Q Q' : Ex → St → Prop} (h : Gm C k s Q) (hq : ∀ e s, Q e s → Q' e s) : Gm C k s Q' := by
  induction h with
  | nil h => exact .nil (hq _ _ h)
  | drop K hK _ IH => exact .drop K hK (IH hq)
  | cut Q1 kp K H h1 hc hr _ _ hx _ IH2 IH3 => exact .cut Q1 kp K H h1 hc (fun s h => hq _ _ (hr s h)) (fun s h => IH2 s h hq) (fun id k' s h1 h2 => IH3 id k' s h1 h2 hq) (fun id s h1 h2 => hq _ _ (hx id s h1 h2))
  | skip _ IH => exact .skip (IH hq)
  | label _ IH => exact .label (IH hq)
  | seq _ IH => exact .seq (IH hq)
  | condT hc _ IH => exact .condT hc (IH hq)
  | condF hc _ IH => exact .condF hc (IH hq)
  | block _ IH => exact .block (IH hq)
  | endB _ IH => exact .endB (IH hq)
  | loop _ IH => exact .loop (IH hq)
  | inLoop _ IH => exact .inLoop (IH hq)
  | exit hp _ IH => exact .exit hp (IH hq)
  | exitOut hp h => exact .exitOut hp (hq _ _ h)
  | ret h => exact .ret (hq _ _ h)
  | region _ IH => exact .region (IH hq)
  | opsNil _ IH => exact .opsNil (IH hq)
  | opSkip hw _ IH => exact .opSkip hw (IH hq)
  | op hw he _ IH => exact .op hw he (IH hq)
  | ext hw hc hca hX hfl _ IH => exact .ext hw hc hca hX hfl (IH hq)
  | clo T hw hc hb hca h1 _ _ IH2 => exact .clo T hw hc hb hca h1 fun v hv => IH2 v hv hq
  | sub T hw hc hb hs h1 _ _ IH2 => exact .sub T hw hc hb hs h1 fun v hv => IH2 v hv hq
  | im T hw hc hb h1 _ _ IH2 => exact .im T hw hc hb h1 fun v H hv => IH2 v H hv hq
  | next hop hw hx hg hlo _ _ IH1 IH2 => exact .next hop hw hx hg hlo (fun h => IH1 h hq) fun j kv vv h1 h2 h3 => IH2 j kv vv h1 h2 h3 hq
  | yld T1 T2 hw hc hg hK hps hlo h1 h2 _ _ _ IH3 => exact .yld T1 T2 hw hc hg hK hps hlo h1 h2 fun s hs => IH3 s hs hq
  | range T hg hb hro h1 _ _ IH2 => exact .range T hg hb hro h1 fun p hp => IH2 p hp hq
  | draw es hr hd hc _ _ IH2 => exact .draw es hr hd hc (IH2 hq)

end
end Go.Am

namespace Go.Am
def BT.All {α : Type} (p : Nat → α → Prop) : BT α → Prop
  | .nil => True
  | .node k v l r => p k v ∧ l.All p ∧ r.All p
theorem BT.All.get {α : Type} {p : Nat → α → Prop} : ∀ {b : BT α}, b.All p → ∀ {n : Nat} {v : α}, b.get n = some v → p n v
  | .nil, _, _, _, h => by cases h
  | .node k v l r, ⟨h1, h2, h3⟩, n, u, h => by
    simp only [BT.get] at h
    cases hb : Nat.beq n k with
    | true =>
      rw [hb] at h
      simp only [cond_true, Option.some.injEq] at h
      subst h
      rw [Nat.eq_of_beq_eq_true hb]; exact h1
    | false =>
      rw [hb] at h
      simp only [cond_false] at h
      cases hl : Nat.blt n k with
      | true => rw [hl] at h; exact BT.All.get h2 h
      | false => rw [hl] at h; exact BT.All.get h3 h
end Go.Am
