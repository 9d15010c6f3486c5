/- A run of the abstract machine is a proof of the judgement. Conditions: none. -/
import Derived.Test.YtphmekpaalfliaaThm
set_option linter.unusedVariables false
set_option linter.unusedSimpArgs false
namespace Go.Am
open Go Go.Wk Go.RowKit

def It.clean : It → Bool
  | .drw _ _ _ _ _ => false
  | _ => true

theorem clean_pop {id : Nat} : ∀ {k k' : List It}, popTo id k = some k' → (k.all It.clean) = true → (k'.all It.clean) = true
  | [], _, h, _ => by cases h
  | .endB i :: k, k', h, hc => by
    simp only [popTo] at h
    simp only [List.all_cons, Bool.and_eq_true] at hc
    cases hb : Nat.beq i id with
    | true => rw [hb] at h; simp only [cond_true, Option.some.injEq] at h; subst h; exact hc.2
    | false => rw [hb] at h; exact clean_pop h hc.2
  | .code _ :: k, k', h, hc => by simp only [List.all_cons, Bool.and_eq_true] at hc; exact clean_pop (k := k) h hc.2
  | .inLoop _ :: k, k', h, hc => by simp only [List.all_cons, Bool.and_eq_true] at hc; exact clean_pop (k := k) h hc.2
  | .ops _ _ :: k, k', h, hc => by simp only [List.all_cons, Bool.and_eq_true] at hc; exact clean_pop (k := k) h hc.2
  | .drw _ _ _ _ _ :: k, k', h, hc => by simp only [List.all_cons, Bool.and_eq_true] at hc; cases hc.1

theorem cloArgs_shut {H : List Blk} {fl : Bool} {n : Nat} : ∀ {l : List V}, l.all (shut n) = true → CloArgs H fl l l
  | [], _ => .nil
  | x :: r, h => by
    simp only [List.all_cons, Bool.and_eq_true] at h
    exact .cons (.shut h.1) (cloArgs_shut h.2)

theorem meet_nil : ∀ (l : List Nat), meet l [] = false
  | [] => rfl
  | x :: r => by simp [meet, memN, meet_nil r]

theorem logOK_nil {all : List Oper} {j : Nat} : ∀ (log : List (Nat × List Nat × List Nat)), logOK all j [] [] log = true
  | [] => rfl
  | (i, rd, wr) :: r => by simp [logOK, meet_nil, meet, logOK_nil r]

theorem logOK_pre {all : List Oper} {j : Nat} {x : List Nat} : True := trivial

theorem get_hide : ∀ (wr : List Nat) (H : List Blk) (j : Nat) (B : Blk), get (hide H wr) j = some B → B.live = true → get H j = some B := by
  have one : ∀ (H : List Blk) (i j : Nat) (B : Blk), get (hput H i .dead) j = some B → B.live = true → get H j = some B := by
    intro H
    induction H with
    | nil =>
      intro i j B h hl
      cases i with
      | zero =>
        cases j with
        | zero => simp only [hput, get, Option.some.injEq] at h; subst h; cases hl
        | succ j => simp [hput, get] at h
      | succ i => simp [hput, get] at h
    | cons x r IH =>
      intro i j B h hl
      cases i with
      | zero =>
        cases j with
        | zero => simp only [hput, get, Option.some.injEq] at h; subst h; cases hl
        | succ j => exact h
      | succ i =>
        cases j with
        | zero => exact h
        | succ j => exact IH i j B h hl
  intro wr
  induction wr with
  | nil => intro H j B h _; exact h
  | cons id r IH =>
    intro H j B h hl
    exact one H id j B (IH _ j B h hl) hl

theorem get_unfree : ∀ (H : List Blk) (j : Nat) (B : Blk), get (unfree H) j = some B → B ≠ .free ∧ (B.live = true → get H j = some B)
  | [], j, B, h => by simp [unfree, get] at h
  | x :: r, 0, B, h => by
    cases x <;> simp only [unfree, get, Option.some.injEq] at h <;> subst h <;> exact ⟨(by intro h; cases h), fun hl => (by first | (cases hl; done) | rfl)⟩
  | x :: r, j + 1, B, h => by
    cases x <;> exact get_unfree r j B h

theorem get_mask {all : List Oper} {j : Nat} : ∀ (log : List (Nat × List Nat × List Nat)) (H : List Blk) (k : Nat) (B : Blk), get (maskLog all j H log) k = some B → B ≠ .free ∧ (B.live = true → get H k = some B)
  | [], H, k, B, h => get_unfree H k B h
  | (i, rd, wr) :: r, H, k, B, h => by
    obtain ⟨h1, h2⟩ := get_mask r _ k B h
    refine ⟨h1, fun hl => ?_⟩
    have h3 := h2 hl
    cases hw : waitsT all all.length j i with
    | true => rw [hw] at h3; exact h3
    | false => rw [hw] at h3; exact get_hide wr H k B h3 hl

theorem wrIn_spec {n : Nat} : ∀ {wr : List (Nat × Blk)}, wrIn n wr = true → ∀ id, id ∈ wrIds wr → id < n
  | [], _, id, h => by cases h
  | (i, B) :: r, h, id, hid => by
    simp only [wrIn, Bool.and_eq_true] at h
    simp only [wrIds, List.mem_cons] at hid
    rcases hid with rfl | hid
    · have := h.1; rwa [Nat.blt_eq] at this
    · exact wrIn_spec h.2 id hid

structure Rn.OK (R : Rn) : Prop where
  ctr : ∀ f args v, R.ctr f args = some v → ∃ args', CloArgs [] false args args' ∧ R.C.X f args' v

theorem callee_allocs {K : List (Nat × V)} {op : Op} {c : Cl} (h : callee K op = some c) : allocs op = false := by
  unfold callee at h
  split at h
  · rfl
  · cases h

def Eq2 (e : Ex) (s : St) : Ex → St → Prop := fun e1 s1 => e1 = e ∧ s1 = s

section
variable {R : Rn}

def RunP (R : Rn) (n : Nat) : Prop := ∀ k s e s', k.all It.clean = true → run R n k s = some (e, s') → Gm R.C k s (Eq2 e s')

/-- What a call's end says. -/
theorem finR_spec {fn : Func} {e : Ex} {s : St} {v : V} (h : finR R.C fn e s = some v) : ∃ v0, finA R.C fn e s = some v0 ∧ FrzTo s v0 v := by
  unfold finR at h
  split at h
  · rename_i v0 h0
    exact ⟨v0, h0, 30, h⟩
  · cases h

theorem Gm.mono {C : Cfg} {k : List It} {s : St} {Q Q' : Ex → St → Prop} (h : Gm C k s Q) (hq : ∀ e s, Q e s → Q' e s) : Gm C k s Q' := by
  induction h with
  | nil h => exact .nil (hq _ _ h)
  | drop K hK _ IH => exact .drop K hK (IH hq)
  | cut Q1 kp K H h1 hc hr _ _ hx _ IH2 IH3 => exact .cut Q1 kp K H h1 hc (fun s h => hq _ _ (hr s h)) (fun s h => IH2 s h hq) (fun id k' s h1 h2 => IH3 id k' s h1 h2 hq) (fun id s h1 h2 => hq _ _ (hx id s h1 h2))
  | skip _ IH => exact .skip (IH hq)
  | label _ IH => exact .label (IH hq)
  | seq _ IH => exact .seq (IH hq)
  | condT hc _ IH => exact .condT hc (IH hq)
  | condF hc _ IH => exact .condF hc (IH hq)
  | block _ IH => exact .block (IH hq)
  | endB _ IH => exact .endB (IH hq)
  | loop _ IH => exact .loop (IH hq)
  | inLoop _ IH => exact .inLoop (IH hq)
  | exit hp _ IH => exact .exit hp (IH hq)
  | exitOut hp h => exact .exitOut hp (hq _ _ h)
  | ret h => exact .ret (hq _ _ h)
  | region _ IH => exact .region (IH hq)
  | opsNil _ IH => exact .opsNil (IH hq)
  | opSkip hw _ IH => exact .opSkip hw (IH hq)
  | op hw he _ IH => exact .op hw he (IH hq)
  | ext hw hc hca hX hfl _ IH => exact .ext hw hc hca hX hfl (IH hq)
  | clo T hw hc hb hca h1 _ _ IH2 => exact .clo T hw hc hb hca h1 fun v hv => IH2 v hv hq
  | sub T hw hc hb hs h1 _ _ IH2 => exact .sub T hw hc hb hs h1 fun v hv => IH2 v hv hq
  | im T hw hc hb h1 _ _ IH2 => exact .im T hw hc hb h1 fun v H hv => IH2 v H hv hq
  | next hop hw hx hg hlo _ _ IH1 IH2 => exact .next hop hw hx hg hlo (fun h => IH1 h hq) fun j kv vv h1 h2 h3 => IH2 j kv vv h1 h2 h3 hq
  | yld T1 T2 hw hc hg hK hps hlo h1 h2 _ _ _ IH3 => exact .yld T1 T2 hw hc hg hK hps hlo h1 h2 fun s hs => IH3 s hs hq
  | range T hg hb hro h1 _ _ IH2 => exact .range T hg hb hro h1 fun p hp => IH2 p hp hq
  | draw es hr hd hc _ _ IH2 => exact .draw es hr hd hc (IH2 hq)

theorem drw_run {n : Nat} (hP : ∀ m, m < n → RunP R m) {all : List Oper} (hR : R.OK) {k : List It} {e : Ex} {s' : St} : ∀ (os : List Oper) (m i nid : Nat) (log : List (Nat × List Nat × List Nat)) (s : St), m ≤ n → run R m (.drw all os i nid log :: k) s = some (e, s') →
    ∃ es sn, DRun R.C all os i nid s log es sn ∧ (∀ (j : Nat) e d, es[j]? = some (e, some d) → Gm R.C [.code d.c] (St.call d.fn d.args d.H d.H.length) (fun x s1 => ∃ v, finA R.C d.fn x s1 = some v ∧ FrzTo s1 v e.v)) ∧ ∃ m', m' < n ∧ run R m' k sn = some (e, s')
  | _, 0, _, _, _, _, _, h => by cases h
  | [], m + 1, i, nid, log, s, hm, h => by
    simp only [run, nx] at h
    exact ⟨[], s, .nil, (fun j e d h => by simp at h), m, by omega, h⟩
  | o :: os, m + 1, i, nid, log, s, hm, h => by
    have step : ∀ {ef : Eff} {d : Option CallD} {nid' : Nat} {log' : List (Nat × List Nat × List Nat)}, DStep R.C all o nid s ef d → logOK all i (rdOf o nid ef) (wrIds ef.wr) log = true → nid' = cond (allocs o.op) (nid + 1) nid → log' = (i, rdOf o nid ef, wrIds ef.wr) :: log → (∀ x, d = some x → Gm R.C [.code x.c] (St.call x.fn x.args x.H x.H.length) (fun y s1 => ∃ v, finA R.C x.fn y s1 = some v ∧ FrzTo s1 v ef.v)) → run R m (.drw all os (i + 1) nid' log' :: k) (s.eff o.dst ef) = some (e, s') →
        ∃ es sn, DRun R.C all (o :: os) i nid s log es sn ∧ (∀ (j : Nat) e d, es[j]? = some (e, some d) → Gm R.C [.code d.c] (St.call d.fn d.args d.H d.H.length) (fun x s1 => ∃ v, finA R.C d.fn x s1 = some v ∧ FrzTo s1 v e.v)) ∧ ∃ m', m' < n ∧ run R m' k sn = some (e, s') := by
      intro ef d nid' log' h1 h2 h3 h4 h5 h6
      subst h3
      subst h4
      obtain ⟨es, sn, g1, g2, g3⟩ := drw_run hP hR os m (i + 1) _ _ _ (by omega) h6
      refine ⟨(ef, d) :: es, sn, .cons h1 h2 g1, fun j e' d' hj => ?_, g3⟩
      cases j with
      | zero =>
        simp only [List.getElem?_cons_zero, Option.some.injEq, Prod.mk.injEq] at hj
        obtain ⟨rfl, rfl⟩ := hj
        exact h5 _ rfl
      | succ j => exact g2 j e' d' (by simpa using hj)
    simp only [run, nx] at h
    generalize hx : nxDrw R all o os i nid log k s = X at h
    unfold nxDrw at hx
    split at hx
    · subst hx; cases h
    · rename_i hw
      cases hl : logOK all i (cond (allocs o.op) [nid] []) [] log with
      | false => rw [hl] at hx; subst hx; cases h
      | true =>
        rw [hl] at hx
        subst hx
        exact step (ef := ⟨undefV, [], []⟩) (d := none) (.skip hw) hl rfl rfl (fun x hx => by cases hx) h
    · rename_i hw
      split at hx
      · rename_i f args hc
        have hal := callee_allocs hc
        have hrd : ∀ (v : V) (rd : List Nat), rdOf o nid ⟨v, [], rd⟩ = rd := fun v rd => by unfold rdOf; rw [hal]; rfl
        have hnid : nid = cond (allocs o.op) (nid + 1) nid := by rw [hal]; rfl
        unfold nxDrwCall at hx
        split at hx
        · rename_i v hctr
          subst hx
          obtain ⟨args', h1, h2⟩ := hR.ctr _ _ _ hctr
          exact step (ef := ⟨v, [], []⟩) (d := none) (.ext hw hc h1 h2) (by rw [hrd]; exact logOK_nil log) hnid (by rw [hrd]; rfl) (fun x hx => by cases hx) h
        · split at hx
          · subst hx; cases h
          · rename_i c fn hb
            cases hsh : args.all (shut 30) with
            | true =>
              rw [hsh] at hx
              subst hx
              simp only [cond_true] at h
              split at h
              · rename_i e1 s1 hr
                split at h
                · rename_i v hf
                  obtain ⟨v0, g1, g2⟩ := finR_spec hf
                  refine step (ef := ⟨v, [], []⟩) (d := some ⟨c, fn, args, []⟩) (.clo hw hc hb (cloArgs_shut hsh)) (by rw [hrd]; exact logOK_nil log) hnid (by rw [hrd]; rfl) (fun x hx => ?_) h
                  cases hx
                  refine (hP m (by omega) [.code c] _ e1 s1 rfl hr).mono ?_
                  rintro _ _ ⟨rfl, rfl⟩
                  exact ⟨v0, g1, g2⟩
                · cases h
              · cases h
            | false =>
              rw [hsh] at hx
              simp only [cond_false] at hx
              cases hl : (logOK all i (liveIds (maskLog all i s.H log) 0) [] log && Nat.beq (maskLog all i s.H log).length s.H.length) with
              | false => rw [hl] at hx; subst hx; cases h
              | true =>
                rw [hl] at hx
                subst hx
                simp only [cond_true] at h
                rw [Bool.and_eq_true] at hl
                split at h
                · rename_i e1 s1 hr
                  split at h
                  · rename_i v hf
                    obtain ⟨v0, g1, g2⟩ := finR_spec hf
                    refine step (ef := ⟨v, [], liveIds (maskLog all i s.H log) 0⟩) (d := some ⟨c, fn, args, maskLog all i s.H log⟩) (.sub hw hc hb ⟨Nat.eq_of_beq_eq_true hl.2, fun id B hB hlv => (get_mask log s.H id B hB).2 hlv, fun id hid => (get_mask log s.H id _ hid).1 rfl⟩) (by rw [hrd]; exact hl.1) hnid (by rw [hrd]; rfl) (fun x hx => ?_) h
                    cases hx
                    refine (hP m (by omega) [.code c] _ e1 s1 rfl hr).mono ?_
                    rintro _ _ ⟨rfl, rfl⟩
                    exact ⟨v0, g1, g2⟩
                  · cases h
                · cases h
      · subst hx; cases h
      · unfold nxDrwEff at hx
        split at hx
        · rename_i ef hef
          cases hl : (logOK all i (cond (allocs o.op) (nid :: ef.rd) ef.rd) (wrIds ef.wr) log && (!allocs o.op || isFree (get s.H nid)) && wrIn s.H.length ef.wr) with
          | false => rw [hl] at hx; subst hx; cases h
          | true =>
            rw [hl] at hx
            subst hx
            simp only [cond_true] at h
            rw [Bool.and_eq_true, Bool.and_eq_true] at hl
            refine step (ef := ef) (d := none) (.op hw hef (fun ha => ?_) (wrIn_spec hl.2)) hl.1.1 rfl rfl (fun x hx => by cases hx) h
            have := hl.1.2
            rw [ha] at this
            simp only [Bool.not_true, Bool.false_or] at this
            unfold isFree at this
            split at this
            · assumption
            · cases this
        · subst hx; cases h

theorem run_gm (hR : R.OK) : ∀ n, RunP R n := by
  intro n
  induction n using Nat.strongRecOn with
  | ind n IH =>
    intro k s e s' hk h
    cases n with
    | zero => cases h
    | succ n =>
      have IH' : ∀ m, m ≤ n → RunP R m := fun m hm => IH m (by omega)
      have hn := IH' n (Nat.le_refl _)
      simp only [run] at h
      cases k with
      | nil => simp only [nx, Option.some.injEq, Prod.mk.injEq] at h; exact .nil ⟨h.1, h.2⟩
      | cons it k =>
        simp only [List.all_cons, Bool.and_eq_true] at hk
        cases it with
        | drw all l i nid log => cases hk.1
        | endB id => exact .endB (hn _ _ _ _ hk.2 h)
        | inLoop c => exact .inLoop (hn _ _ _ _ (by simp [hk.2, It.clean]) h)
        | ops all l =>
          cases l with
          | nil => exact .opsNil (hn _ _ _ _ hk.2 h)
          | cons o os =>
            have hk' : ((It.ops all os :: k).all It.clean) = true := by simp [hk.2, It.clean]
            simp only [nx] at h
            generalize hx : nxOp R all o (.ops all os :: k) s = X at h
            unfold nxOp at hx
            split at hx
            · subst hx; cases h
            · rename_i hw
              subst hx
              exact .opSkip hw (hn _ _ _ _ hk' h)
            · rename_i hw
              split at hx
              · rename_i f args hc
                unfold nxCall at hx
                split at hx
                · rename_i v hctr
                  subst hx
                  obtain ⟨args', h1, h2⟩ := hR.ctr _ _ _ hctr
                  exact .ext (fl := false) hw hc h1.nil' h2 (fun h => by cases h) (hn _ _ _ _ hk' h)
                · split at hx
                  · subst hx; cases h
                  · rename_i c fn hb
                    cases him : R.im f with
                    | true =>
                      rw [him] at hx
                      subst hx
                      simp only [cond_true] at h
                      split at h
                      · rename_i e1 s1 hr
                        split at h
                        · rename_i v hf
                          refine .im (fun v' H' => v' = v ∧ H' = s1.H) hw hc hb ((hn [.code c] _ e1 s1 rfl hr).mono ?_) ?_
                          · rintro _ _ ⟨rfl, rfl⟩
                            exact ⟨v, hf, rfl, rfl⟩
                          · rintro v' H' ⟨rfl, rfl⟩
                            exact hn _ _ _ _ hk' h
                        · cases h
                      · cases h
                    | false =>
                      rw [him] at hx
                      simp only [cond_false] at hx
                      cases hsh : args.all (shut 30) with
                      | true =>
                        rw [hsh] at hx
                        subst hx
                        simp only [cond_true] at h
                        split at h
                        · rename_i e1 s1 hr
                          split at h
                          · rename_i v hf
                            obtain ⟨v0, g1, g2⟩ := finR_spec hf
                            refine .clo (fl := false) (fun v' => v' = v) hw hc hb (cloArgs_shut hsh) ((hn [.code c] _ e1 s1 rfl hr).mono ?_) ?_
                            · rintro _ _ ⟨rfl, rfl⟩
                              exact ⟨v0, v, g1, g2, (fun h => by cases h), rfl⟩
                            · rintro v' rfl
                              exact hn _ _ _ _ hk' h
                          · cases h
                        · cases h
                      | false =>
                        rw [hsh] at hx
                        subst hx
                        simp only [cond_false] at h
                        split at h
                        · rename_i e1 s1 hr
                          split at h
                          · rename_i v hf
                            obtain ⟨v0, g1, g2⟩ := finR_spec hf
                            refine .sub (fun v' => v' = v) hw hc hb (⟨rfl, fun _ _ h _ => h, fun _ h => h⟩ : SubH s.H s.H) ((hn [.code c] _ e1 s1 rfl hr).mono ?_) ?_
                            · rintro _ _ ⟨rfl, rfl⟩
                              exact ⟨v0, v, g1, g2, rfl⟩
                            · rintro v' rfl
                              exact hn _ _ _ _ hk' h
                          · cases h
                        · cases h
              · rename_i id args hc
                unfold nxYield at hx
                split at hx
                · rename_i r hr
                  split at hx
                  · rename_i K' hst hK
                    cases hb : (Nat.blt id s.lo || !r.ps.all (fun p => Nat.blt p r.n)) with
                    | true => rw [hb] at hx; subst hx; cases h
                    | false =>
                      rw [hb] at hx
                      subst hx
                      simp only [cond_false] at h
                      rw [Bool.or_eq_false_iff] at hb
                      have hlo : s.lo ≤ id := by
                        rcases Nat.lt_or_ge id s.lo with h1 | h1
                        · have : Nat.blt id s.lo = true := by simpa using h1
                          rw [hb.1] at this; cases this
                        · exact h1
                      split at h
                      · rename_i e1 s1 hr1
                        split at h
                        · rename_i s1' hs1
                          split at h
                          · rename_i e2 s2 hr2
                            split at h
                            · rename_i s3 hs3
                              refine .yld (fun x => x = s1') (fun x => x = s3) hw hc hr hK (by simpa using hb.2) hlo ((hn [.code r.assign] _ e1 s1 rfl hr1).mono ?_) ?_ ?_
                              · rintro _ _ ⟨rfl, rfl⟩
                                exact ⟨s1', hs1, rfl⟩
                              · rintro _ rfl
                                refine (hn [.code r.body] _ e2 s2 rfl hr2).mono ?_
                                rintro _ _ ⟨rfl, rfl⟩
                                exact ⟨s3, hs3, rfl⟩
                              · rintro _ rfl
                                exact hn _ _ _ _ hk' h
                            · cases h
                          · cases h
                        · cases h
                      · cases h
                  · subst hx; cases h
                · subst hx; cases h
              · unfold nxEff at hx
                split at hx
                · rename_i ef hef
                  subst hx
                  exact .op hw hef (hn _ _ _ _ hk' h)
                · subst hx; cases h
        | code c =>
          simp only [nx] at h
          cases c with
          | skip => exact .skip (hn _ _ _ _ hk.2 h)
          | label l => exact .label (hn _ _ _ _ hk.2 h)
          | seq a b => exact .seq (hn _ _ _ _ (by simp [hk.2, It.clean]) h)
          | cond c a b =>
            simp only [nxCode] at h
            generalize hx : nxCond c a b k s = X at h
            unfold nxCond at hx
            split at hx
            · rename_i hc; subst hx; exact .condT hc (hn _ _ _ _ (by simp [hk.2, It.clean]) h)
            · rename_i hc; subst hx; exact .condF hc (hn _ _ _ _ (by simp [hk.2, It.clean]) h)
            · subst hx; cases h
          | block id c => exact .block (hn _ _ _ _ (by simp [hk.2, It.clean]) h)
          | loop c => exact .loop (hn _ _ _ _ (by simp [hk.2, It.clean]) h)
          | exit id =>
            simp only [nxCode] at h
            generalize hx : nxExit id k s = X at h
            unfold nxExit at hx
            split at hx
            · rename_i k' hp; subst hx; exact .exit hp (hn _ _ _ _ (clean_pop hp hk.2) h)
            · rename_i hp; subst hx
              simp only [Option.some.injEq, Prod.mk.injEq] at h
              exact .exitOut hp ⟨h.1, h.2⟩
          | ret =>
            simp only [nxCode, Option.some.injEq, Prod.mk.injEq] at h
            exact .ret ⟨h.1, h.2⟩
          | region id ops d =>
            cases d with
            | false => exact .region (hn _ _ _ _ (by simp [hk.2, It.clean]) h)
            | true =>
              simp only [nxCode, nxRegion] at h
              cases hreg : regOK ops.toList with
              | false => rw [hreg] at h; cases h
              | true =>
                rw [hreg] at h
                simp only [cond_true] at h
                obtain ⟨es, sn, h1, h2, m, h3, h4⟩ := drw_run (n := n) (fun m hm => IH' m (by omega)) hR ops.toList n 0 s.H.length [] _ (Nat.le_refl _) h
                exact .draw es hreg h1 h2 (IH' m (by omega) _ _ _ _ hk.2 h4)
          | rangeFunc f ps assign body =>
            simp only [nxCode] at h
            generalize hx : nxRange R f ps.toList assign body k s = X at h
            unfold nxRange at hx
            split at hx
            · rename_i f' caps hf
              split at hx
              · rename_i c fn hb
                cases hr : rndOK s with
                | false => rw [hr] at hx; subst hx; cases h
                | true =>
                  rw [hr] at hx
                  subst hx
                  simp only [cond_true] at h
                  split at h
                  · rename_i e1 s1 hr1
                    split at h
                    · rename_i v k' s2 hv he
                      refine .range (fun p => p = (k', s2)) hf hb hr ((hn [.code c] _ e1 s1 rfl hr1).mono ?_) ?_
                      · rintro _ _ ⟨rfl, rfl⟩
                        exact ⟨v, _, hv, he, rfl⟩
                      · rintro _ rfl
                        refine hn _ _ _ _ ?_ h
                        obtain ⟨r, _, _, _, hp⟩ := endRange_spec he
                        simp only at hp
                        rw [hp]
                        cases r.pend with
                        | none => exact hk.2
                        | some j => simp [hk.2, It.clean]
                    · cases h
                  · cases h
              · subst hx; cases h
            · subst hx; cases h
          | _ => cases h

end
end Go.Am

namespace Go.Am
def BT.All {α : Type} (p : Nat → α → Prop) : BT α → Prop
  | .nil => True
  | .node k v l r => p k v ∧ l.All p ∧ r.All p
theorem BT.All.get {α : Type} {p : Nat → α → Prop} : ∀ {b : BT α}, b.All p → ∀ {n : Nat} {v : α}, b.get n = some v → p n v
  | .nil, _, _, _, h => by cases h
  | .node k v l r, ⟨h1, h2, h3⟩, n, u, h => by
    simp only [BT.get] at h
    cases hb : Nat.beq n k with
    | true =>
      rw [hb] at h
      simp only [cond_true, Option.some.injEq] at h
      subst h
      rw [Nat.eq_of_beq_eq_true hb]; exact h1
    | false =>
      rw [hb] at h
      simp only [cond_false] at h
      cases hl : Nat.blt n k with
      | true => rw [hl] at h; exact BT.All.get h2 h
      | false => rw [hl] at h; exact BT.All.get h3 h
end Go.Am
