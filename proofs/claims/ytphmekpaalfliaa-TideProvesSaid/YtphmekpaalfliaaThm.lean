/- The judgement over the abstract machine holds of the model. Conditions: none. -/
import Derived.Test.YtphmekpaalfliaaDrx
set_option linter.unusedVariables false
set_option linter.unusedSimpArgs false
namespace Go.Am
open Go Go.Wk Go.RowKit

section
variable {C : Cfg}

/-- An operation without a call, in its place. -/
theorem op_step (hC : C.OK) {E : Env} {s : St} {I : Ij} {m : Mem} {a : Act} {w : World} {Q : Exit → Act → World → Prop} {all os : List Oper} {o : Oper} {e : Eff} (hss : SS E s I m a w) (hw : wants all s.K o.guard = some true) (he : opEff C s.K s.H s.lo s.H.length o.op = some e)
    (h : ∀ I' a' w', SS E (s.eff o.dst e) I' m a' w' → wpListIn (Wd E.ρ) 0 C.P all.toArray Q os a' w') : wpListIn (Wd E.ρ) 0 C.P all.toArray Q (o :: os) a w := by
  have hlo : s.lo ≤ s.H.length := by rw [hss.lo]; exact Nat.le_trans hss.lole hss.fx.len
  obtain ⟨r, w', I', u, h1, h2, h3, h4, h5⟩ := op_sound hC hss.sim hss.slots (fun _ => ⟨.inl rfl, hlo⟩) he
  refine ops_val (wants_sound hss.slots hw) (opEff_opnd he) h1 h2 ?_
  exact h I' _ w' ((hss.step h3 h5 (fun _ _ h => h) (fun _ _ h => .inl h)).put h4)

theorem gm_sound (hC : C.OK) {k : List It} {s : St} {Q : Ex → St → Prop} (h : Gm C k s Q) : ∀ (E : Env) (I : Ij) (m : Mem) (a : Act) (w : World), SS E s I m a w → SA C.P E.ρ (QA E Q) k .normal a w := by
  induction h with
  | nil h => exact fun E I m a w hs => ⟨_, I, m, h, hs⟩
  | drop K hK h IH => exact fun E I m a w hs => IH E I m a w { hs with slots := fun t v hv => hs.slots t v (hK t v hv), sim := hs.sim, n := hs.n, lo := hs.lo, rnd := hs.rnd, fx := hs.fx, dfr := hs.dfr }
  | cut Q1 kp K H _ hc hr _ _ hx IH1 IH2 IH3 => exact fun E I m a w hs => cut_step hs (IH1 E I m a w hs) hc hr (fun s1 h I m a w hs => IH2 s1 h E I m a w hs) (fun id k' s1 h1 h2 I m a w hs => IH3 id k' s1 h1 h2 E I m a w hs) hx
  | skip h IH => exact fun E I m a w hs => wpIn_skip (IH E I m a w hs)
  | label h IH => exact fun E I m a w hs => wpIn_label (IH E I m a w hs)
  | seq h IH => exact fun E I m a w hs => wpIn_seq (IH E I m a w hs)
  | condT hc h IH => exact fun E I m a w hs => wpIn_cond_true (kev_rep hs.slots hc).lit (IH E I m a w hs)
  | condF hc h IH => exact fun E I m a w hs => wpIn_cond_false (kev_rep hs.slots hc).lit (IH E I m a w hs)
  | block h IH => exact fun E I m a w hs => wpIn_block (IH E I m a w hs)
  | endB h IH => exact fun E I m a w hs => IH E I m a w hs
  | loop h IH => exact fun E I m a w hs => wpIn_loop_of (IH E I m a w hs)
  | inLoop h IH => exact fun E I m a w hs => inLoopP_of (IH E I m a w hs)
  | exit hp h IH => exact fun E I m a w hs => wpIn_exit (by rw [SA_exit, hp]; exact IH E I m a w hs)
  | exitOut hp h => exact fun E I m a w hs => wpIn_exit (by rw [SA_exit, hp]; exact ⟨_, I, m, h, hs⟩)
  | ret h => exact fun E I m a w hs => wpIn_ret (by rw [SA_ret]; exact ⟨_, I, m, h, hs⟩)
  | region h IH => exact fun E I m a w hs => wpIn_region_list (by have := IH E I m a w hs; simpa only [SA, Exit.then] using this)
  | opsNil h IH => exact fun E I m a w hs => IH E I m a w hs
  | opSkip hw h IH => exact fun E I m a w hs => ops_skip (wants_sound hs.slots hw) (IH E I m _ w (hs.put Rep.undef))
  | op hw he h IH => exact fun E I m a w hs => op_step hC hs hw he fun I' a' w' hs' => IH E I' m a' w' hs'
  | ext hw hc hca hX hfl h IH =>
    intro E I m a w hs
    obtain ⟨h1, us, h2, h3⟩ := callee_fn hs.slots hc
    refine ops_call (wants_sound hs.slots hw) h1 ((h3 w).trans ((hC.X _ _ _ hX).2 _ w)) ((ext_step hC hs hca h2 hX hfl).mono ?_)
    rintro e w' ⟨u, rfl, m', hv, hs'⟩
    exact ⟨u, rfl, IH E I m' _ w' (hs'.put hv)⟩
  | clo T hw hc hb hca _ _ IH1 IH2 =>
    intro E I m a w hs
    obtain ⟨h1, us, h2, h3⟩ := callee_fn hs.slots hc
    refine ops_call (wants_sound hs.slots hw) h1 ((h3 w).trans ((bodyOf_spec hC hb).2.2.2 _ w)) ((clo_step hC hs hb rfl hca h2 IH1).mono ?_)
    rintro e w' ⟨u, rfl, v', m', hT, hv, hs'⟩
    exact ⟨u, rfl, IH2 v' hT E I m' _ w' (hs'.put hv)⟩
  | sub T hw hc hb hsub _ _ IH1 IH2 =>
    intro E I m a w hs
    obtain ⟨h1, us, h2, h3⟩ := callee_fn hs.slots hc
    refine ops_call (wants_sound hs.slots hw) h1 ((h3 w).trans ((bodyOf_spec hC hb).2.2.2 _ w)) ((sub_step hC hs hb rfl hsub h2 IH1).mono ?_)
    rintro e w' ⟨u, rfl, v', m', hT, hv, hs'⟩
    exact ⟨u, rfl, IH2 v' hT E I m' _ w' (hs'.put hv)⟩
  | im T hw hc hb _ _ IH1 IH2 =>
    intro E I m a w hs
    obtain ⟨h1, us, h2, h3⟩ := callee_fn hs.slots hc
    refine ops_call (wants_sound hs.slots hw) h1 ((h3 w).trans ((bodyOf_spec hC hb).2.2.2 _ w)) ((im_step hC hs hb rfl h2 IH1).mono ?_)
    rintro e w' ⟨u, rfl, v, H', I', m', hT, hv, hs'⟩
    exact ⟨u, rfl, IH2 v H' hT E I' m' _ w' (hs'.put hv)⟩
  | next hop hw hx hg hlo _ _ IH1 IH2 => exact fun E I m a w hs => next_step hC hs hop hw hx hg hlo (fun h I m a w hs => IH1 h E I m a w hs) (fun j kv vv h1 h2 h3 I m a w hs => IH2 j kv vv h1 h2 h3 E I m a w hs)
  | yld T1 T2 hw hc hg hK hps hlo _ _ _ IH1 IH2 IH3 =>
    intro E I m a w hs
    obtain ⟨h1, f, us, h2, h3, h4⟩ := callee_yld hs.slots hc
    obtain ⟨fn, tmps, h5, h6⟩ := yld_step hC hs h2 h3 hg hK hps hlo IH1 IH2
    refine ops_round (wants_sound hs.slots hw) h1 ((h4 w).trans h5) (h6.mono ?_)
    rintro e w' ⟨u, rfl, s3, I', m', hT, hs3⟩
    exact ⟨u, rfl, IH3 s3 hT E I' m' _ w' hs3⟩
  | range T hg hb hro _ _ IH1 IH2 => exact fun E I m a w hs => range_step hC hs hg hb hro IH1 (fun p hp => IH2 p hp E)
  | draw es hreg hrun hcalls hk IH1 IH2 => exact fun E I m a w hs => draw_step hC hs hreg hrun IH1 (IH2 E)

end
end Go.Am
