/- The program's functions compute the plain ones. Conditions: none. Printed by a program (wip/tools/xg.py). -/
import Derived.Test.YtkomoedegnckhaaP2
set_option linter.unusedVariables false
set_option linter.unusedSimpArgs false
namespace Go.Proofs.Ytkomoedegnckhaa
open Go Go.Am Go.Proofs Go.Mx
theorem ok_ref09_proposal {l : (List api_Letter)} {id : Int} {round : Int} {r : Int × Bool} (hM : ref09_proposal l id round = some r) : Ct Try.prog 82 [(V.sl (List.map e_api_Letter l)), (V.i id), (V.i round)] (V.tup [(V.i r.1), (V.b r.2)]) := by
 refine ct_of_gs CC_ok rfl ?_
 unfold ref09_proposal at hM
 refine X.sq (X.q rfl (X.q rfl ?_))
 refine GS.opsNil (GS.seq (X.sq (X.q rfl (GS.opsNil ?_))))
 refine X.join (τ := Unit) (fun v => ref09_proposal_j1 = some r) (fun v => ⟨[], [], 0, none, 44⟩) ?_ ?_
 ·intro _ hM
  replace hM : ref09_proposal_j1 = some r := hM
  unfold ref09_proposal_j1 at hM
  refine X.sq (X.q rfl (X.q rfl ?_))
  refine GS.opsNil ?_
  cases hM
  exact GS.ret ⟨_, rfl, ⟨30, rfl⟩⟩
 intro hj_1
 refine GS.block ?_
 refine X.gc [] (X.loop (σ := Int) (fun v => ⟨[(0, (V.sl (List.map e_api_Letter l))), (1, (V.i id)), (2, (V.i round)), (8, (V.i v))], [], 0, none, 44⟩) hM ?_ rfl) rfl rfl rfl (ga rfl rfl) (gb_nil)
 intro i b_1 hM hc_2 hr_1
 rw [ref09_proposal_b2] at hM
 refine GS.seq (X.sq (X.q rfl (X.q rfl ?_)))
 refine X.opR rfl (X.lenF rfl rfl rfl) rfl (X.q rfl (GS.opsNil ?_))
 refine X.cond rfl (fun h_1 => ?_) (fun h_1 => ?_)
 ·replace hM := ite_t h_1 hM
  refine GS.skip (GS.seq (GS.block (GS.seq ?_)))
  obtain ⟨x, h_2, hM⟩ := bind_of hM
  obtain ⟨x1, h_3, hM⟩ := gb_of hM
  obtain ⟨x2, h_4, hM⟩ := gb_of hM
  refine GS.region ?_
  refine X.mid [(0, (V.sl (List.map e_api_Letter l))), (1, (V.i id)), (2, (V.i round)), (8, (V.i i)), (38, (V.b (((decide (x.Kind = 3)) && (decide (x1.Case = id))) && (decide (x2.Round = round)))))] ?_ ?_
  ·intro hg
   refine X.split (decide (x.Kind = 3)) (fun h_5 => ?_) (fun h_5 => ?_)
   ·refine X.split (((decide (x.Kind = 3)) && (decide (x1.Case = id)))) (fun h_6 => ?_) (fun h_6 => ?_)
    ·iterate 2 refine X.q rfl ?_
     refine X.opR rfl (X.indexF (f := e_api_Letter) h_2 (fun _ => rfl) rfl rfl rfl rfl) rfl (X.q rfl ?_)
     refine X.opR rfl (X.loadF h_2 rfl rfl rfl) rfl (X.q rfl (X.q rfl ?_))
     iterate 2 refine X.opR (X.on_t rfl rfl rfl h_5) rfl rfl ?_
     refine X.opR (X.on_t rfl rfl rfl h_5) (X.indexF (f := e_api_Letter) (h_3 h_5) (fun _ => rfl) rfl rfl rfl rfl) rfl ?_
     refine X.opR (X.on_t rfl rfl rfl h_5) rfl rfl ?_
     refine X.opR (X.on_t rfl rfl rfl h_5) (X.loadF (h_3 h_5) rfl rfl rfl) rfl ?_
     iterate 2 refine X.opR (X.on_t rfl rfl rfl h_5) rfl rfl ?_
     refine X.opR rfl (X.pickand_t (y := decide (x1.Case = id)) rfl h_5 rfl) rfl (X.q rfl ?_)
     iterate 2 refine X.opR (X.on_t rfl rfl rfl h_6) rfl rfl ?_
     refine X.opR (X.on_t rfl rfl rfl h_6) (X.indexF (f := e_api_Letter) (h_4 h_6) (fun _ => rfl) rfl rfl rfl rfl) rfl ?_
     refine X.opR (X.on_t rfl rfl rfl h_6) rfl rfl ?_
     refine X.opR (X.on_t rfl rfl rfl h_6) (X.loadF (h_4 h_6) rfl rfl rfl) rfl ?_
     iterate 2 refine X.opR (X.on_t rfl rfl rfl h_6) rfl rfl ?_
     refine X.opR rfl (X.pickand_t (y := decide (x2.Round = round)) rfl h_6 rfl) rfl (GS.opsNil ?_)
     exact X.norm _ hg rfl (sr rfl)
    refine X.q rfl (X.q rfl ?_)
    refine X.opR rfl (X.indexF (f := e_api_Letter) h_2 (fun _ => rfl) rfl rfl rfl rfl) rfl (X.q rfl ?_)
    refine X.opR rfl (X.loadF h_2 rfl rfl rfl) rfl (X.q rfl (X.q rfl ?_))
    iterate 2 refine X.opR (X.on_t rfl rfl rfl h_5) rfl rfl ?_
    refine X.opR (X.on_t rfl rfl rfl h_5) (X.indexF (f := e_api_Letter) (h_3 h_5) (fun _ => rfl) rfl rfl rfl rfl) rfl ?_
    refine X.opR (X.on_t rfl rfl rfl h_5) rfl rfl ?_
    refine X.opR (X.on_t rfl rfl rfl h_5) (X.loadF (h_3 h_5) rfl rfl rfl) rfl ?_
    iterate 2 refine X.opR (X.on_t rfl rfl rfl h_5) rfl rfl ?_
    refine X.opR rfl (X.pickand_t (y := decide (x1.Case = id)) rfl h_5 rfl) rfl (X.q rfl ?_)
    iterate 7 refine X.off (X.off_t rfl rfl rfl h_6) rfl ?_
    refine X.opR rfl (X.pickand_f (y := decide (x2.Round = round)) rfl h_6 rfl) rfl (GS.opsNil ?_)
    exact X.norm _ hg rfl (sr rfl)
   refine X.q rfl (X.q rfl ?_)
   refine X.opR rfl (X.indexF (f := e_api_Letter) h_2 (fun _ => rfl) rfl rfl rfl rfl) rfl (X.q rfl ?_)
   refine X.opR rfl (X.loadF h_2 rfl rfl rfl) rfl (X.q rfl (X.q rfl ?_))
   iterate 7 refine X.off (X.off_t rfl rfl rfl h_5) rfl ?_
   refine X.opR rfl (X.pickand_f (y := decide (x1.Case = id)) rfl h_5 rfl) rfl (X.q rfl ?_)
   iterate 7 refine X.off (X.off_t rfl rfl rfl (X.and_ff h_5)) rfl ?_
   refine X.opR rfl (X.pickand_f (y := decide (x2.Round = round)) rfl (X.and_ff h_5) rfl) rfl (GS.opsNil ?_)
   exact X.norm _ hg rfl (sr rfl)
  refine X.cond rfl (fun h_7 => ?_) (fun h_7 => ?_)
  ·replace hM := ite_t h_7 hM
   refine GS.seq ?_
   obtain ⟨x3, h_8, hM⟩ := bind_of hM
   refine GS.region (X.q rfl (X.q rfl ?_))
   refine X.opR rfl (X.indexF (f := e_api_Letter) h_8 (fun _ => rfl) rfl rfl rfl rfl) rfl (X.q rfl ?_)
   refine X.opR rfl (X.loadF h_8 rfl rfl rfl) rfl (X.q rfl (X.q rfl ?_))
   refine GS.opsNil ?_
   have hE := Option.some.inj hM
   replace hE := hr_1 _ hE.symm
   subst hE
   exact GS.ret ⟨_, rfl, ⟨30, rfl⟩⟩
  replace hM := ite_f h_7 hM
  refine GS.skip ?_
  refine GS.endB (GS.region (X.q rfl ?_))
  refine X.opR rfl (X.addE rfl rfl) rfl (X.q rfl (GS.opsNil ?_))
  have hE := Option.some.inj hM
  exact X.gc [] (hc_2 (w64 (i + 1)) hE.symm) rfl rfl rfl (ga rfl rfl) (gb_nil)
 replace hM := ite_f h_1 hM
 refine GS.exit rfl ?_
 obtain ⟨y_1, hM, hy⟩ := map_of hM
 rw [hr_1 _ hy.symm] at hM
 exact X.gc [] (hj_1 () hM) rfl rfl rfl (gk_nil) (gb_nil)
theorem ok_ref09_word (l : api_Letter) (arbiter : Int) (id : Int) : Ct Try.prog 108 [(e_api_Letter l), (V.i arbiter), (V.i id)] (V.b (ref09_word l arbiter id)) := by
 refine ct_of_gs CC_ok rfl ?_
 generalize hM : ref09_word l arbiter id = r
 unfold ref09_word at hM
 refine X.sq ?_
 refine X.opW rfl rfl rfl rfl (X.q rfl (X.nq ?_))
 refine X.mid [(6, (V.b (((decide (l.Case = id)) && (decide (l.From = arbiter))) && ((decide (l.Kind = 2)) || (decide (l.Kind = 4))))))] ?_ ?_
 ·intro hg
  refine X.split (decide (l.Case = id)) (fun h_1 => ?_) (fun h_1 => ?_)
  ·refine X.split (((decide (l.Case = id)) && (decide (l.From = arbiter)))) (fun h_2 => ?_) (fun h_2 => ?_)
   ·refine X.split (decide (l.Kind = 2)) (fun h_3 => ?_) (fun h_3 => ?_)
    ·iterate 5 refine X.q rfl ?_
     iterate 4 refine X.opR (X.on_t rfl rfl rfl h_1) rfl rfl ?_
     refine X.opR rfl (X.pickand_t (y := decide (l.From = arbiter)) rfl h_1 rfl) rfl (X.q rfl ?_)
     iterate 4 refine X.opR (X.on_t rfl rfl rfl h_2) rfl rfl ?_
     iterate 3 refine X.off (X.off_f rfl rfl rfl h_3) rfl ?_
     refine X.opR (X.on_t rfl rfl rfl h_2) (X.pickor_t (y := decide (l.Kind = 4)) rfl h_3 rfl) rfl ?_
     refine X.opR rfl (X.pickand_t (y := ((decide (l.Kind = 2)) || (decide (l.Kind = 4)))) rfl h_2 rfl) rfl (X.q rfl (GS.opsNil ?_))
     exact X.norm _ hg rfl (sr rfl)
    iterate 5 refine X.q rfl ?_
    iterate 4 refine X.opR (X.on_t rfl rfl rfl h_1) rfl rfl ?_
    refine X.opR rfl (X.pickand_t (y := decide (l.From = arbiter)) rfl h_1 rfl) rfl (X.q rfl ?_)
    iterate 4 refine X.opR (X.on_t rfl rfl rfl h_2) rfl rfl ?_
    iterate 3 refine X.opR (X.on_f rfl rfl rfl h_3) rfl rfl ?_
    refine X.opR (X.on_t rfl rfl rfl h_2) (X.pickor_f (y := decide (l.Kind = 4)) rfl h_3 rfl) rfl ?_
    refine X.opR rfl (X.pickand_t (y := ((decide (l.Kind = 2)) || (decide (l.Kind = 4)))) rfl h_2 rfl) rfl (X.q rfl (GS.opsNil ?_))
    exact X.norm _ hg rfl (sr rfl)
   iterate 5 refine X.q rfl ?_
   iterate 4 refine X.opR (X.on_t rfl rfl rfl h_1) rfl rfl ?_
   refine X.opR rfl (X.pickand_t (y := decide (l.From = arbiter)) rfl h_1 rfl) rfl (X.q rfl ?_)
   iterate 4 refine X.off (X.off_t rfl rfl rfl h_2) rfl ?_
   iterate 3 refine X.off rfl rfl ?_
   refine X.off (X.off_t rfl rfl rfl h_2) rfl ?_
   refine X.opR rfl (X.pickand_f (y := ((decide (l.Kind = 2)) || (decide (l.Kind = 4)))) rfl h_2 rfl) rfl (X.q rfl (GS.opsNil ?_))
   exact X.norm _ hg rfl (sr rfl)
  iterate 5 refine X.q rfl ?_
  iterate 4 refine X.off (X.off_t rfl rfl rfl h_1) rfl ?_
  refine X.opR rfl (X.pickand_f (y := decide (l.From = arbiter)) rfl h_1 rfl) rfl (X.q rfl ?_)
  iterate 4 refine X.off (X.off_t rfl rfl rfl (X.and_ff h_1)) rfl ?_
  iterate 3 refine X.off rfl rfl ?_
  refine X.off (X.off_t rfl rfl rfl (X.and_ff h_1)) rfl ?_
  refine X.opR rfl (X.pickand_f (y := ((decide (l.Kind = 2)) || (decide (l.Kind = 4)))) rfl (X.and_ff h_1) rfl) rfl (X.q rfl (GS.opsNil ?_))
  exact X.norm _ hg rfl (sr rfl)
 subst hM
 exact GS.ret ⟨_, rfl, ⟨30, rfl⟩⟩
theorem ok_ref09_open {l : (List api_Letter)} {arbiter : Int} {id : Int} {round : Int} {r : Bool} (hM : ref09_open l arbiter id round = some r) : Ct Try.prog 83 [(V.sl (List.map e_api_Letter l)), (V.i arbiter), (V.i id), (V.i round)] (V.b r) := by
 refine ct_of_gs CC_ok rfl ?_
 unfold ref09_open at hM
 refine X.sq (X.q rfl (GS.opsNil (GS.seq (X.sq (X.q rfl (GS.opsNil ?_))))))
 refine X.join (τ := Unit) (fun v => ref09_open_j1 = some r) (fun v => ⟨[], [], 0, none, 51⟩) ?_ ?_
 ·intro _ hM
  replace hM : ref09_open_j1 = some r := hM
  unfold ref09_open_j1 at hM
  refine X.sq (X.q rfl (GS.opsNil ?_))
  cases hM
  exact GS.ret ⟨_, rfl, ⟨30, rfl⟩⟩
 intro hj_1
 refine GS.block ?_
 refine X.gc [] (X.loop (σ := Int) (fun v => ⟨[(0, (V.sl (List.map e_api_Letter l))), (1, (V.i arbiter)), (2, (V.i id)), (3, (V.i round)), (9, (V.i v))], [], 0, none, 51⟩) hM ?_ rfl) rfl rfl rfl (ga rfl rfl) (gb_nil)
 intro i b_1 hM hc_2 hr_1
 rw [ref09_open_b2] at hM
 refine GS.seq (X.sq (X.q rfl (X.q rfl ?_)))
 refine X.opR rfl (X.lenF rfl rfl rfl) rfl (X.q rfl (GS.opsNil ?_))
 refine X.cond rfl (fun h_1 => ?_) (fun h_1 => ?_)
 ·replace hM := ite_t h_1 hM
  refine GS.skip (GS.seq (GS.block (GS.seq ?_)))
  obtain ⟨x, h_2, hM⟩ := bind_of hM
  refine GS.region (X.q rfl (X.q rfl ?_))
  refine X.opR rfl (X.indexF (f := e_api_Letter) h_2 (fun _ => rfl) rfl rfl rfl rfl) rfl ?_
  refine X.opR rfl (X.loadF h_2 rfl rfl rfl) rfl (X.q rfl (X.q rfl ?_))
  refine X.call (ok_ref09_word x arbiter id) rfl rfl rfl (.cons (.shut (n := 9) rfl) (.cons (.shut (n := 9) rfl) (.cons (.shut (n := 9) rfl) .nil))) (X.q rfl (GS.opsNil (GS.seq ?_)))
  obtain ⟨x1, h_3, hM⟩ := gb_of hM
  obtain ⟨x2, h_4, hM⟩ := gb_of hM
  obtain ⟨x3, h_5, hM⟩ := gb_of hM
  refine GS.region ?_
  refine X.mid [(0, (V.sl (List.map e_api_Letter l))), (1, (V.i arbiter)), (2, (V.i id)), (3, (V.i round)), (9, (V.i i)), (50, (V.b ((ref09_word x arbiter id) && ((decide (round < x1.Round)) || ((decide (x2.Round = round)) && (decide (x3.Kind = 4)))))))] ?_ ?_
  ·intro hg
   refine X.split ((ref09_word x arbiter id)) (fun h_6 => ?_) (fun h_6 => ?_)
   ·refine X.split (decide (round < x1.Round)) (fun h_7 => ?_) (fun h_7 => ?_)
    ·iterate 2 refine X.q rfl ?_
     iterate 2 refine X.opR (X.on_t rfl rfl rfl h_6) rfl rfl ?_
     refine X.opR (X.on_t rfl rfl rfl h_6) (X.indexF (f := e_api_Letter) (h_3 h_6) (fun _ => rfl) rfl rfl rfl rfl) rfl ?_
     refine X.opR (X.on_t rfl rfl rfl h_6) rfl rfl ?_
     refine X.opR (X.on_t rfl rfl rfl h_6) (X.loadF (h_3 h_6) rfl rfl rfl) rfl ?_
     iterate 3 refine X.opR (X.on_t rfl rfl rfl h_6) rfl rfl ?_
     iterate 8 refine X.off (X.off_f rfl rfl rfl h_7) rfl ?_
     iterate 6 refine X.off rfl rfl ?_
     refine X.off (X.off_f rfl rfl rfl h_7) rfl ?_
     refine X.opR (X.on_t rfl rfl rfl h_6) (X.pickor_t (y := ((decide (x2.Round = round)) && (decide (x3.Kind = 4)))) rfl h_7 rfl) rfl ?_
     refine X.opR rfl (X.pickand_t (y := ((decide (round < x1.Round)) || ((decide (x2.Round = round)) && (decide (x3.Kind = 4))))) rfl h_6 rfl) rfl (GS.opsNil ?_)
     exact X.norm _ hg rfl (sr rfl)
    refine X.split (decide (x2.Round = round)) (fun h_8 => ?_) (fun h_8 => ?_)
    ·iterate 2 refine X.q rfl ?_
     iterate 2 refine X.opR (X.on_t rfl rfl rfl h_6) rfl rfl ?_
     refine X.opR (X.on_t rfl rfl rfl h_6) (X.indexF (f := e_api_Letter) (h_3 h_6) (fun _ => rfl) rfl rfl rfl rfl) rfl ?_
     refine X.opR (X.on_t rfl rfl rfl h_6) rfl rfl ?_
     refine X.opR (X.on_t rfl rfl rfl h_6) (X.loadF (h_3 h_6) rfl rfl rfl) rfl ?_
     iterate 3 refine X.opR (X.on_t rfl rfl rfl h_6) rfl rfl ?_
     iterate 2 refine X.opR (X.on_f rfl rfl rfl h_7) rfl rfl ?_
     refine X.opR (X.on_f rfl rfl rfl h_7) (X.indexF (f := e_api_Letter) (h_4 (X.and_tt h_6 (X.nt h_7))) (fun _ => rfl) rfl rfl rfl rfl) rfl ?_
     refine X.opR (X.on_f rfl rfl rfl h_7) rfl rfl ?_
     refine X.opR (X.on_f rfl rfl rfl h_7) (X.loadF (h_4 (X.and_tt h_6 (X.nt h_7))) rfl rfl rfl) rfl ?_
     iterate 3 refine X.opR (X.on_f rfl rfl rfl h_7) rfl rfl ?_
     iterate 2 refine X.opR (X.on_t rfl rfl rfl h_8) rfl rfl ?_
     refine X.opR (X.on_t rfl rfl rfl h_8) (X.indexF (f := e_api_Letter) (h_5 (X.and_tt (X.and_tt h_6 (X.nt h_7)) h_8)) (fun _ => rfl) rfl rfl rfl rfl) rfl ?_
     refine X.opR (X.on_t rfl rfl rfl h_8) rfl rfl ?_
     refine X.opR (X.on_t rfl rfl rfl h_8) (X.loadF (h_5 (X.and_tt (X.and_tt h_6 (X.nt h_7)) h_8)) rfl rfl rfl) rfl ?_
     refine X.opR (X.on_t rfl rfl rfl h_8) rfl rfl ?_
     refine X.opR (X.on_f rfl rfl rfl h_7) (X.pickand_t (y := decide (x3.Kind = 4)) rfl h_8 rfl) rfl ?_
     refine X.opR (X.on_t rfl rfl rfl h_6) (X.pickor_f (y := ((decide (x2.Round = round)) && (decide (x3.Kind = 4)))) rfl h_7 rfl) rfl ?_
     refine X.opR rfl (X.pickand_t (y := ((decide (round < x1.Round)) || ((decide (x2.Round = round)) && (decide (x3.Kind = 4))))) rfl h_6 rfl) rfl (GS.opsNil ?_)
     exact X.norm _ hg rfl (sr rfl)
    refine X.q rfl (X.q rfl ?_)
    iterate 2 refine X.opR (X.on_t rfl rfl rfl h_6) rfl rfl ?_
    refine X.opR (X.on_t rfl rfl rfl h_6) (X.indexF (f := e_api_Letter) (h_3 h_6) (fun _ => rfl) rfl rfl rfl rfl) rfl ?_
    refine X.opR (X.on_t rfl rfl rfl h_6) rfl rfl ?_
    refine X.opR (X.on_t rfl rfl rfl h_6) (X.loadF (h_3 h_6) rfl rfl rfl) rfl ?_
    iterate 3 refine X.opR (X.on_t rfl rfl rfl h_6) rfl rfl ?_
    iterate 2 refine X.opR (X.on_f rfl rfl rfl h_7) rfl rfl ?_
    refine X.opR (X.on_f rfl rfl rfl h_7) (X.indexF (f := e_api_Letter) (h_4 (X.and_tt h_6 (X.nt h_7))) (fun _ => rfl) rfl rfl rfl rfl) rfl ?_
    refine X.opR (X.on_f rfl rfl rfl h_7) rfl rfl ?_
    refine X.opR (X.on_f rfl rfl rfl h_7) (X.loadF (h_4 (X.and_tt h_6 (X.nt h_7))) rfl rfl rfl) rfl ?_
    iterate 3 refine X.opR (X.on_f rfl rfl rfl h_7) rfl rfl ?_
    iterate 6 refine X.off (X.off_t rfl rfl rfl h_8) rfl ?_
    refine X.opR (X.on_f rfl rfl rfl h_7) (X.pickand_f (y := decide (x3.Kind = 4)) rfl h_8 rfl) rfl ?_
    refine X.opR (X.on_t rfl rfl rfl h_6) (X.pickor_f (y := ((decide (x2.Round = round)) && (decide (x3.Kind = 4)))) rfl h_7 rfl) rfl ?_
    refine X.opR rfl (X.pickand_t (y := ((decide (round < x1.Round)) || ((decide (x2.Round = round)) && (decide (x3.Kind = 4))))) rfl h_6 rfl) rfl (GS.opsNil ?_)
    exact X.norm _ hg rfl (sr rfl)
   refine X.q rfl (X.q rfl ?_)
   iterate 8 refine X.off (X.off_t rfl rfl rfl h_6) rfl ?_
   iterate 15 refine X.off rfl rfl ?_
   refine X.off (X.off_t rfl rfl rfl h_6) rfl ?_
   refine X.opR rfl (X.pickand_f (y := ((decide (round < x1.Round)) || ((decide (x2.Round = round)) && (decide (x3.Kind = 4))))) rfl h_6 rfl) rfl (GS.opsNil ?_)
   exact X.norm _ hg rfl (sr rfl)
  refine X.cond rfl (fun h_9 => ?_) (fun h_9 => ?_)
  ·replace hM := ite_t h_9 hM
   refine X.sq (X.q rfl (GS.opsNil ?_))
   have hE := Option.some.inj hM
   replace hE := hr_1 _ hE.symm
   subst hE
   exact GS.ret ⟨_, rfl, ⟨30, rfl⟩⟩
  replace hM := ite_f h_9 hM
  refine GS.skip ?_
  refine GS.endB (GS.region (X.q rfl ?_))
  refine X.opR rfl (X.addE rfl rfl) rfl (X.q rfl (GS.opsNil ?_))
  have hE := Option.some.inj hM
  exact X.gc [] (hc_2 (w64 (i + 1)) hE.symm) rfl rfl rfl (ga rfl rfl) (gb_nil)
 replace hM := ite_f h_1 hM
 refine GS.exit rfl ?_
 obtain ⟨y_1, hM, hy⟩ := map_of hM
 rw [hr_1 _ hy.symm] at hM
 exact X.gc [] (hj_1 () hM) rfl rfl rfl (gk_nil) (gb_nil)
set_option maxHeartbeats 4000000 in
theorem ok_ref09_Can {c : api_Court} {l : (List api_Letter)} {id : Int} {round : Int} {r : Int × Bool × Bool × Int} (hM : ref09_Can c l id round = some r) : Ct Try.prog 41 [(e_api_Court c), (V.sl (List.map e_api_Letter l)), (V.i id), (V.i round)] (V.tup [(V.i r.1), (V.b r.2.1), (V.b r.2.2.1), (V.i r.2.2.2)]) := by
 refine ct_of_gs CC_ok rfl ?_
 unfold ref09_Can at hM
 refine X.sq ?_
 refine X.opW rfl rfl rfl rfl ?_
 iterate 4 refine X.q rfl ?_
 refine GS.opsNil (GS.seq ?_)
 obtain ⟨y, h_1, hM⟩ := bind_of hM
 refine GS.region (X.q rfl (X.q rfl ?_))
 refine X.call (ok_ref09_listed h_1) rfl rfl rfl (.cons (.shut (n := 9) rfl) (.cons (.shut (n := 9) rfl) .nil)) (X.q rfl (GS.opsNil (GS.seq (X.sq (X.q rfl (X.q rfl ?_))))))
 refine GS.opsNil ?_
 refine X.cond rfl (fun h_2 => ?_) (fun h_2 => ?_)
 ·replace hM := ite_t h_2 hM
  refine X.sq ?_
  iterate 5 refine X.q rfl ?_
  refine GS.opsNil ?_
  cases hM
  exact GS.ret ⟨_, rfl, ⟨30, rfl⟩⟩
 replace hM := ite_f h_2 hM
 refine GS.skip (GS.seq (X.sq ?_))
 refine X.mid [(1, (V.sl (List.map e_api_Letter l))), (2, (V.i id)), (3, (V.i round)), (4, (V.ptr 0 0 0)), (33, (V.b ((!(ref09_in id 1 1099511627776)) || (!(ref09_in round 1 1048576)))))] ?_ ?_
 ·intro hg
  refine X.split (!(ref09_in id 1 1099511627776)) (fun h_3 => ?_) (fun h_3 => ?_)
  ·refine X.q rfl ?_
   refine X.call (ok_ref09_in id 1 1099511627776) rfl rfl rfl (.cons (.shut (n := 9) rfl) (.cons (.shut (n := 9) rfl) (.cons (.shut (n := 9) rfl) .nil))) (X.q rfl (X.q rfl ?_))
   iterate 3 refine X.off (X.off_f rfl rfl rfl h_3) rfl ?_
   refine X.opR rfl (X.pickor_t (y := !(ref09_in round 1 1048576)) rfl h_3 rfl) rfl (GS.opsNil ?_)
   exact X.norm _ hg rfl (sr rfl)
  refine X.q rfl ?_
  refine X.call (ok_ref09_in id 1 1099511627776) rfl rfl rfl (.cons (.shut (n := 9) rfl) (.cons (.shut (n := 9) rfl) (.cons (.shut (n := 9) rfl) .nil))) (X.q rfl (X.q rfl ?_))
  refine X.opR (X.on_f rfl rfl rfl h_3) rfl rfl ?_
  refine X.call (ok_ref09_in round 1 1048576) (X.on_f rfl rfl rfl h_3) rfl rfl (.cons (.shut (n := 9) rfl) (.cons (.shut (n := 9) rfl) (.cons (.shut (n := 9) rfl) .nil))) ?_
  refine X.opR (X.on_f rfl rfl rfl h_3) rfl rfl ?_
  refine X.opR rfl (X.pickor_f (y := !(ref09_in round 1 1048576)) rfl h_3 rfl) rfl (GS.opsNil ?_)
  exact X.norm _ hg rfl (sr rfl)
 refine X.cond rfl (fun h_4 => ?_) (fun h_4 => ?_)
 ·replace hM := ite_t h_4 hM
  refine X.sq ?_
  iterate 4 refine X.q rfl ?_
  refine GS.opsNil ?_
  cases hM
  exact GS.ret ⟨_, rfl, ⟨30, rfl⟩⟩
 replace hM := ite_f h_4 hM
 refine GS.skip (GS.seq ?_)
 obtain ⟨y1, h_5, hM⟩ := bind_of hM
 refine GS.region (X.q rfl (X.q rfl (X.q rfl ?_)))
 refine X.call (ok_ref09_proposal h_5) rfl rfl rfl (.cons (.shut (n := 9) rfl) (.cons (.shut (n := 9) rfl) (.cons (.shut (n := 9) rfl) .nil))) ?_
 iterate 5 refine X.q rfl ?_
 refine X.nq (X.q rfl (GS.opsNil (GS.seq (X.sq (X.q rfl (GS.opsNil ?_))))))
 refine X.join (τ := Int) (fun v => ref09_Can_j1 c y1 v = some r) (fun v => ⟨[(4, (V.ptr 0 0 0)), (13, (V.i y1.1)), (14, (V.b y1.2)), (15, (V.i v))], [.rows 1 [(e_api_Court c)]], 0, none, 92⟩) ?_ ?_
 ·intro n hM
  replace hM : ref09_Can_j1 c y1 n = some r := hM
  unfold ref09_Can_j1 at hM
  iterate 2 refine GS.seq ?_
  obtain ⟨y2, h_6, hM⟩ := bind_of hM
  refine GS.region (X.q rfl (X.q rfl ?_))
  refine X.call (ok_ref09_Majority h_6) rfl rfl rfl (.cons (.shut (n := 9) rfl) .nil) (X.q rfl (GS.opsNil ?_))
  refine X.cond rfl (fun h_7 => ?_) (fun h_7 => ?_)
  ·replace hM := ite_t h_7 hM
   refine X.sq ?_
   iterate 4 refine X.q rfl ?_
   refine GS.opsNil ?_
   cases hM
   exact GS.ret ⟨_, rfl, ⟨30, rfl⟩⟩
  replace hM := ite_f h_7 hM
  refine GS.skip (GS.seq (X.sq (X.q rfl (GS.opsNil ?_))))
  refine X.cond rfl (fun h_8 => ?_) (fun h_8 => ?_)
  ·replace hM := ite_t h_8 hM
   refine X.sq ?_
   iterate 5 refine X.q rfl ?_
   refine GS.opsNil ?_
   cases hM
   exact GS.ret ⟨_, rfl, ⟨30, rfl⟩⟩
  replace hM := ite_f h_8 hM
  refine GS.skip (X.sq ?_)
  iterate 4 refine X.q rfl ?_
  refine GS.opsNil ?_
  cases hM
  exact GS.ret ⟨_, rfl, ⟨30, rfl⟩⟩
 intro hj_1
 refine GS.block ?_
 refine X.gc [some 0] (X.loop (σ := (Int × Int)) (fun v => ⟨[(1, (V.sl (List.map e_api_Letter l))), (2, (V.i id)), (3, (V.i round)), (4, (V.ptr 0 0 0)), (13, (V.i y1.1)), (14, (V.b y1.2)), (15, (V.i v.1)), (16, (V.i v.2))], [.rows 1 [(e_api_Court c)]], 0, none, 92⟩) hM ?_ rfl) rfl rfl rfl (ga rfl rfl) (gb9 rfl rfl rfl gb_nil)
 rintro ⟨n2, a⟩ b_1 hM hc_2 hr_1
 rw [ref09_Can_b2] at hM
 refine GS.seq (X.sq ?_)
 iterate 4 refine X.q rfl ?_
 refine GS.opsNil ?_
 refine X.cond rfl (fun h_9 => ?_) (fun h_9 => ?_)
 ·replace hM := ite_t h_9 hM
  refine GS.skip (GS.seq ?_)
  refine X.join (τ := Int) (fun v => ref09_Can_j3 a v = some b_1) (fun v => ⟨[(1, (V.sl (List.map e_api_Letter l))), (2, (V.i id)), (3, (V.i round)), (4, (V.ptr 0 0 0)), (13, (V.i y1.1)), (14, (V.b y1.2)), (15, (V.i v)), (16, (V.i a))], [.rows 1 [(e_api_Court c)]], 0, none, 92⟩) ?_ ?_
  ·intro n1 hM
   replace hM : ref09_Can_j3 a n1 = some b_1 := hM
   unfold ref09_Can_j3 at hM
   refine GS.region (X.q rfl ?_)
   refine X.opR rfl (X.addE rfl rfl) rfl (X.q rfl (GS.opsNil ?_))
   have hE := Option.some.inj hM
   exact X.gc [some 0] (hc_2 (n1, w64 (a + 1)) hE.symm) rfl rfl rfl (ga rfl rfl) (gb9 rfl rfl rfl gb_nil)
  intro hj_3
  refine GS.block (GS.seq ?_)
  obtain ⟨y3, h_10, hM⟩ := bind_of hM
  refine GS.region ?_
  iterate 4 refine X.q rfl ?_
  refine X.call (ok_ref09_open h_10) rfl rfl rfl (.cons (.shut (n := 9) rfl) (.cons (.shut (n := 9) rfl) (.cons (.shut (n := 9) rfl) (.cons (.shut (n := 9) rfl) .nil)))) (X.q rfl (X.nq ?_))
  iterate 4 refine X.q rfl ?_
  refine X.opW rfl rfl rfl rfl ?_
  refine X.op0W rfl rfl rfl (GS.opsNil (GS.seq (X.sq (X.q rfl (GS.opsNil ?_)))))
  refine X.join (τ := Bool) (fun v => ref09_Can_j4 n2 a v = some b_1) (fun v => ⟨[(1, (V.sl (List.map e_api_Letter l))), (2, (V.i id)), (3, (V.i round)), (4, (V.ptr 0 0 0)), (13, (V.i y1.1)), (14, (V.b y1.2)), (15, (V.i n2)), (16, (V.i a)), (17, (V.b v))], [.rows 1 [(e_api_Court c)]], 0, none, 92⟩) ?_ ?_
  ·intro ok hM
   replace hM : ref09_Can_j4 n2 a ok = some b_1 := hM
   unfold ref09_Can_j4 at hM
   refine X.sq (X.q rfl (GS.opsNil ?_))
   refine X.cond rfl (fun h_11 => ?_) (fun h_11 => ?_)
   ·replace hM := ite_t h_11 hM
    refine GS.region (X.q rfl ?_)
    refine X.opR rfl (X.addE rfl rfl) rfl (X.q rfl (GS.opsNil ?_))
    refine GS.endB ?_
    exact X.gc [some 0] (hj_3 (w64 (n2 + 1)) hM) rfl rfl rfl (ga rfl rfl) (gb9 rfl rfl rfl gb_nil)
   replace hM := ite_f h_11 hM
   refine GS.skip ?_
   refine GS.endB ?_
   exact X.gc [some 0] (hj_3 n2 hM) rfl rfl rfl (ga rfl rfl) (gb9 rfl rfl rfl gb_nil)
  intro hj_4
  refine GS.block ?_
  refine X.gc [some 0, some 1] (X.loop (σ := (Bool × Int)) (fun v => ⟨[(1, (V.sl (List.map e_api_Letter l))), (2, (V.i id)), (3, (V.i round)), (4, (V.ptr 0 0 0)), (13, (V.i y1.1)), (14, (V.b y1.2)), (15, (V.i n2)), (16, (V.i a)), (17, (V.b v.1)), (18, (V.ptr 1 0 0)), (19, (V.i v.2))], [.rows 1 [(e_api_Court c)], .rows 3 [(V.agg [(V.i id), (V.i round), (V.i y1.1)])]], 0, none, 92⟩) hM ?_ rfl) rfl rfl rfl (ga rfl rfl) (gb9 rfl rfl rfl (gb9 rfl rfl rfl gb_nil))
  rintro ⟨ok1, i⟩ b_2 hM hc_5 hr_2
  rw [ref09_Can_b5] at hM
  refine GS.seq (X.sq (X.q rfl (X.q rfl ?_)))
  refine X.opR rfl (X.lenF rfl rfl rfl) rfl (X.q rfl (GS.opsNil ?_))
  refine X.cond rfl (fun h_12 => ?_) (fun h_12 => ?_)
  ·replace hM := ite_t h_12 hM
   refine GS.skip (GS.seq (GS.block ?_))
   obtain ⟨x, h_13, hM⟩ := gb_of hM
   obtain ⟨x1, h_14, hM⟩ := gb_of hM
   refine X.mid [(1, (V.sl (List.map e_api_Letter l))), (2, (V.i id)), (3, (V.i round)), (4, (V.ptr 0 0 0)), (13, (V.i y1.1)), (14, (V.b y1.2)), (15, (V.i n2)), (16, (V.i a)), (17, (V.b (ok1 || ((y1.2 && (decide (x.From = a))) && (ref09_votesFor x1 (⟨id, round, y1.1⟩ : api_Ruling)))))), (18, (V.ptr 1 0 0)), (19, (V.i i))] ?_ ?_
   ·intro hg
    refine X.split (ok1) (fun h_15 => ?_) (fun h_15 => ?_)
    ·refine X.drawc (by kernel_rfl) rfl ?_
     iterate 2 refine X.cop rfl rfl rfl rfl ?_
     iterate 2 refine X.coff (X.off_f rfl rfl rfl h_15) rfl rfl ?_
     iterate 7 refine X.coff rfl rfl rfl ?_
     iterate 2 refine X.coff (X.off_f rfl rfl rfl h_15) rfl rfl ?_
     iterate 6 refine X.coff rfl rfl rfl ?_
     refine X.coff (X.off_f rfl rfl rfl h_15) rfl rfl ?_
     refine X.cop rfl (X.pickor_t (y := ((y1.2 && (decide (x.From = a))) && (ref09_votesFor x1 (⟨id, round, y1.1⟩ : api_Ruling)))) rfl h_15 rfl) rfl rfl ?_
     refine X.cop rfl rfl rfl rfl ?_
     refine X.cnil ?_
     exact X.norm _ hg rfl (sr rfl)
    refine X.split (y1.2) (fun h_16 => ?_) (fun h_16 => ?_)
    ·refine X.split ((y1.2 && (decide (x.From = a)))) (fun h_17 => ?_) (fun h_17 => ?_)
     ·refine X.drawc (by kernel_rfl) rfl ?_
      iterate 2 refine X.cop rfl rfl rfl rfl ?_
      iterate 2 refine X.cop (X.on_f rfl rfl rfl h_15) rfl rfl rfl ?_
      iterate 2 refine X.cop (X.on_t rfl rfl rfl h_16) rfl rfl rfl ?_
      refine X.cop (X.on_t rfl rfl rfl h_16) (X.indexF (f := e_api_Letter) (h_13 (X.and_tt (X.nt h_15) h_16)) (fun _ => rfl) rfl rfl rfl rfl) rfl rfl ?_
      refine X.cop (X.on_t rfl rfl rfl h_16) rfl rfl rfl ?_
      refine X.cop (X.on_t rfl rfl rfl h_16) (X.loadF (h_13 (X.and_tt (X.nt h_15) h_16)) rfl rfl rfl) rfl rfl ?_
      iterate 2 refine X.cop (X.on_t rfl rfl rfl h_16) rfl rfl rfl ?_
      refine X.cop (X.on_f rfl rfl rfl h_15) (X.pickand_t (y := decide (x.From = a)) rfl h_16 rfl) rfl rfl ?_
      refine X.cop (X.on_f rfl rfl rfl h_15) rfl rfl rfl ?_
      iterate 2 refine X.cop (X.on_t rfl rfl rfl h_17) rfl rfl rfl ?_
      refine X.cop (X.on_t rfl rfl rfl h_17) (X.indexF (f := e_api_Letter) (h_14 (X.and_tt (X.nt h_15) h_17)) (fun _ => rfl) rfl rfl rfl rfl) rfl rfl ?_
      refine X.cop (X.on_t rfl rfl rfl h_17) (X.loadF (h_14 (X.and_tt (X.nt h_15) h_17)) rfl rfl rfl) rfl rfl ?_
      refine X.cop (X.on_t rfl rfl rfl h_17) rfl rfl rfl ?_
      refine X.ccall (ok_ref09_votesFor x1 (⟨id, round, y1.1⟩ : api_Ruling)) (X.on_t rfl rfl rfl h_17) rfl rfl rfl (.cons (.shut (n := 9) rfl) (.cons (.shut (n := 9) rfl) .nil)) ?_
      refine X.cop (X.on_f rfl rfl rfl h_15) (X.pickand_t (y := (ref09_votesFor x1 (⟨id, round, y1.1⟩ : api_Ruling))) rfl h_17 rfl) rfl rfl ?_
      refine X.cop rfl (X.pickor_f (y := ((y1.2 && (decide (x.From = a))) && (ref09_votesFor x1 (⟨id, round, y1.1⟩ : api_Ruling)))) rfl h_15 rfl) rfl rfl ?_
      refine X.cop rfl rfl rfl rfl ?_
      refine X.cnil ?_
      exact X.norm _ hg rfl (sr rfl)
     refine X.drawc (by kernel_rfl) rfl ?_
     iterate 2 refine X.cop rfl rfl rfl rfl ?_
     iterate 2 refine X.cop (X.on_f rfl rfl rfl h_15) rfl rfl rfl ?_
     iterate 2 refine X.cop (X.on_t rfl rfl rfl h_16) rfl rfl rfl ?_
     refine X.cop (X.on_t rfl rfl rfl h_16) (X.indexF (f := e_api_Letter) (h_13 (X.and_tt (X.nt h_15) h_16)) (fun _ => rfl) rfl rfl rfl rfl) rfl rfl ?_
     refine X.cop (X.on_t rfl rfl rfl h_16) rfl rfl rfl ?_
     refine X.cop (X.on_t rfl rfl rfl h_16) (X.loadF (h_13 (X.and_tt (X.nt h_15) h_16)) rfl rfl rfl) rfl rfl ?_
     iterate 2 refine X.cop (X.on_t rfl rfl rfl h_16) rfl rfl rfl ?_
     refine X.cop (X.on_f rfl rfl rfl h_15) (X.pickand_t (y := decide (x.From = a)) rfl h_16 rfl) rfl rfl ?_
     refine X.cop (X.on_f rfl rfl rfl h_15) rfl rfl rfl ?_
     iterate 6 refine X.coff (X.off_t rfl rfl rfl h_17) rfl rfl ?_
     refine X.cop (X.on_f rfl rfl rfl h_15) (X.pickand_f (y := (ref09_votesFor x1 (⟨id, round, y1.1⟩ : api_Ruling))) rfl h_17 rfl) rfl rfl ?_
     refine X.cop rfl (X.pickor_f (y := ((y1.2 && (decide (x.From = a))) && (ref09_votesFor x1 (⟨id, round, y1.1⟩ : api_Ruling)))) rfl h_15 rfl) rfl rfl ?_
     refine X.cop rfl rfl rfl rfl ?_
     refine X.cnil ?_
     exact X.norm _ hg rfl (sr rfl)
    refine X.drawc (by kernel_rfl) rfl ?_
    iterate 2 refine X.cop rfl rfl rfl rfl ?_
    iterate 2 refine X.cop (X.on_f rfl rfl rfl h_15) rfl rfl rfl ?_
    iterate 7 refine X.coff (X.off_t rfl rfl rfl h_16) rfl rfl ?_
    refine X.cop (X.on_f rfl rfl rfl h_15) (X.pickand_f (y := decide (x.From = a)) rfl h_16 rfl) rfl rfl ?_
    refine X.cop (X.on_f rfl rfl rfl h_15) rfl rfl rfl ?_
    iterate 6 refine X.coff (X.off_t rfl rfl rfl (X.and_ff h_16)) rfl rfl ?_
    refine X.cop (X.on_f rfl rfl rfl h_15) (X.pickand_f (y := (ref09_votesFor x1 (⟨id, round, y1.1⟩ : api_Ruling))) rfl (X.and_ff h_16) rfl) rfl rfl ?_
    refine X.cop rfl (X.pickor_f (y := ((y1.2 && (decide (x.From = a))) && (ref09_votesFor x1 (⟨id, round, y1.1⟩ : api_Ruling)))) rfl h_15 rfl) rfl rfl ?_
    refine X.cop rfl rfl rfl rfl ?_
    refine X.cnil ?_
    exact X.norm _ hg rfl (sr rfl)
   refine GS.endB (GS.region (X.q rfl ?_))
   refine X.opR rfl (X.addE rfl rfl) rfl (X.q rfl (GS.opsNil ?_))
   have hE := Option.some.inj hM
   exact X.gc [some 0, some 1] (hc_5 ((ok1 || ((y1.2 && (decide (x.From = a))) && (ref09_votesFor x1 (⟨id, round, y1.1⟩ : api_Ruling)))), w64 (i + 1)) hE.symm) rfl rfl rfl (ga rfl rfl) (gb9 rfl rfl rfl (gb9 rfl rfl rfl gb_nil))
  replace hM := ite_f h_12 hM
  refine GS.exit rfl ?_
  obtain ⟨y_2, hM, hy⟩ := map_of hM
  rw [hr_2 _ hy.symm] at hM
  exact X.gc [some 0] (hj_4 ok1 hM) rfl rfl rfl (ga rfl rfl) (gb9 rfl rfl rfl gb_nil)
 replace hM := ite_f h_9 hM
 refine GS.exit rfl ?_
 obtain ⟨y_1, hM, hy⟩ := map_of hM
 rw [hr_1 _ hy.symm] at hM
 exact X.gc [some 0] (hj_1 n2 hM) rfl rfl rfl (ga rfl rfl) (gb9 rfl rfl rfl gb_nil)
theorem ok_ref09_SameRulings {a : (List api_Ruling)} {b : (List api_Ruling)} {r : Bool} (hM : ref09_SameRulings a b = some r) : Ct Try.prog 21 [(V.sl (List.map e_api_Ruling a)), (V.sl (List.map e_api_Ruling b))] (V.b r) := by
 refine ct_of_gs CC_ok rfl ?_
 unfold ref09_SameRulings at hM
 refine X.sq (X.q rfl (GS.opsNil (GS.seq (X.sq (X.q rfl ?_)))))
 refine X.opR rfl (X.lenF rfl rfl rfl) rfl (X.q rfl ?_)
 refine X.opR rfl (X.lenF rfl rfl rfl) rfl (X.q rfl (GS.opsNil ?_))
 refine X.cond rfl (fun h_1 => ?_) (fun h_1 => ?_)
 ·replace hM := ite_t h_1 hM
  refine X.sq (X.q rfl (GS.opsNil ?_))
  cases hM
  exact GS.ret ⟨_, rfl, ⟨30, rfl⟩⟩
 replace hM := ite_f h_1 hM
 refine GS.skip (GS.seq (X.sq (X.q rfl (GS.opsNil ?_))))
 refine X.join (τ := Unit) (fun v => ref09_SameRulings_j1 = some r) (fun v => ⟨[], [], 0, none, 26⟩) ?_ ?_
 ·intro _ hM
  replace hM : ref09_SameRulings_j1 = some r := hM
  unfold ref09_SameRulings_j1 at hM
  refine X.sq (X.q rfl (GS.opsNil ?_))
  cases hM
  exact GS.ret ⟨_, rfl, ⟨30, rfl⟩⟩
 intro hj_1
 refine GS.block ?_
 refine X.gc [] (X.loop (σ := Int) (fun v => ⟨[(0, (V.sl (List.map e_api_Ruling a))), (1, (V.sl (List.map e_api_Ruling b))), (5, (V.i v))], [], 0, none, 26⟩) hM ?_ rfl) rfl rfl rfl (ga rfl rfl) (gb_nil)
 intro i b_1 hM hc_2 hr_1
 rw [ref09_SameRulings_b2] at hM
 refine GS.seq (X.sq (X.q rfl (X.q rfl ?_)))
 refine X.opR rfl (X.lenF rfl rfl rfl) rfl (X.q rfl (GS.opsNil ?_))
 refine X.cond rfl (fun h_2 => ?_) (fun h_2 => ?_)
 ·replace hM := ite_t h_2 hM
  refine GS.skip (GS.seq (GS.block (GS.seq ?_)))
  obtain ⟨x, h_3, hM⟩ := bind_of hM
  obtain ⟨x1, h_4, hM⟩ := bind_of hM
  refine X.drawc (by kernel_rfl) rfl ?_
  iterate 2 refine X.cop rfl rfl rfl rfl ?_
  refine X.cop rfl (X.indexF (f := e_api_Ruling) h_3 (fun _ => rfl) rfl rfl rfl rfl) rfl rfl ?_
  refine X.cop rfl (X.loadF h_3 rfl rfl rfl) rfl rfl ?_
  iterate 2 refine X.cop rfl rfl rfl rfl ?_
  refine X.cop rfl (X.indexF (f := e_api_Ruling) h_4 (fun _ => rfl) rfl rfl rfl rfl) rfl rfl ?_
  refine X.cop rfl (X.loadF h_4 rfl rfl rfl) rfl rfl ?_
  refine X.cop rfl (X.neqE (eq_api_Ruling x x1) rfl rfl) rfl rfl ?_
  refine X.cnil ?_
  refine X.norm [(0, (V.sl (List.map e_api_Ruling a))), (1, (V.sl (List.map e_api_Ruling b))), (5, (V.i i)), (25, (V.b (!decide (x = x1))))] ?_ rfl (sr rfl)
  refine X.cond rfl (fun h_5 => ?_) (fun h_5 => ?_)
  ·replace hM := ite_t h_5 hM
   refine X.sq (X.q rfl (GS.opsNil ?_))
   have hE := Option.some.inj hM
   replace hE := hr_1 _ hE.symm
   subst hE
   exact GS.ret ⟨_, rfl, ⟨30, rfl⟩⟩
  replace hM := ite_f h_5 hM
  refine GS.skip ?_
  refine GS.endB (GS.region (X.q rfl ?_))
  refine X.opR rfl (X.addE rfl rfl) rfl (X.q rfl (GS.opsNil ?_))
  have hE := Option.some.inj hM
  exact X.gc [] (hc_2 (w64 (i + 1)) hE.symm) rfl rfl rfl (ga rfl rfl) (gb_nil)
 replace hM := ite_f h_2 hM
 refine GS.exit rfl ?_
 obtain ⟨y_1, hM, hy⟩ := map_of hM
 rw [hr_1 _ hy.symm] at hM
 exact X.gc [] (hj_1 () hM) rfl rfl rfl (gk_nil) (gb_nil)
theorem eq_api_Letter (a b : api_Letter) : eqA CC.ty 37 (e_api_Letter a) (e_api_Letter b) = some (decide (a = b)) := by
 refine (X.eqa rfl rfl (X.eqp rfl rfl rfl (X.eqp rfl rfl rfl (X.eqp rfl rfl rfl (X.eqp rfl rfl rfl (X.eqp rfl rfl rfl (X.eqp rfl rfl rfl (X.eqp rfl rfl rfl (X.eqp rfl rfl rfl X.eqn'))))))))).trans ?_
 congr 1
 rw [Bool.eq_iff_iff]
 simp only [Bool.and_eq_true, decide_eq_true_eq, beq_iff_eq, and_true]
 constructor
 ·intro h
  obtain ⟨a1, a2, a3, a4, a5, a6, a7, a8⟩ := a
  obtain ⟨b9, b10, b11, b12, b13, b14, b15, b16⟩ := b
  simp at h
  simp [h]
 ·rintro rfl
  simp
theorem ok_ref09_SameLetters {a : (List api_Letter)} {b : (List api_Letter)} {r : Bool} (hM : ref09_SameLetters a b = some r) : Ct Try.prog 42 [(V.sl (List.map e_api_Letter a)), (V.sl (List.map e_api_Letter b))] (V.b r) := by
 refine ct_of_gs CC_ok rfl ?_
 unfold ref09_SameLetters at hM
 refine X.sq (X.q rfl (GS.opsNil (GS.seq (X.sq (X.q rfl ?_)))))
 refine X.opR rfl (X.lenF rfl rfl rfl) rfl (X.q rfl ?_)
 refine X.opR rfl (X.lenF rfl rfl rfl) rfl (X.q rfl (GS.opsNil ?_))
 refine X.cond rfl (fun h_1 => ?_) (fun h_1 => ?_)
 ·replace hM := ite_t h_1 hM
  refine X.sq (X.q rfl (GS.opsNil ?_))
  cases hM
  exact GS.ret ⟨_, rfl, ⟨30, rfl⟩⟩
 replace hM := ite_f h_1 hM
 refine GS.skip (GS.seq (X.sq (X.q rfl (GS.opsNil ?_))))
 refine X.join (τ := Unit) (fun v => ref09_SameLetters_j1 = some r) (fun v => ⟨[], [], 0, none, 26⟩) ?_ ?_
 ·intro _ hM
  replace hM : ref09_SameLetters_j1 = some r := hM
  unfold ref09_SameLetters_j1 at hM
  refine X.sq (X.q rfl (GS.opsNil ?_))
  cases hM
  exact GS.ret ⟨_, rfl, ⟨30, rfl⟩⟩
 intro hj_1
 refine GS.block ?_
 refine X.gc [] (X.loop (σ := Int) (fun v => ⟨[(0, (V.sl (List.map e_api_Letter a))), (1, (V.sl (List.map e_api_Letter b))), (5, (V.i v))], [], 0, none, 26⟩) hM ?_ rfl) rfl rfl rfl (ga rfl rfl) (gb_nil)
 intro i b_1 hM hc_2 hr_1
 rw [ref09_SameLetters_b2] at hM
 refine GS.seq (X.sq (X.q rfl (X.q rfl ?_)))
 refine X.opR rfl (X.lenF rfl rfl rfl) rfl (X.q rfl (GS.opsNil ?_))
 refine X.cond rfl (fun h_2 => ?_) (fun h_2 => ?_)
 ·replace hM := ite_t h_2 hM
  refine GS.skip (GS.seq (GS.block (GS.seq ?_)))
  obtain ⟨x, h_3, hM⟩ := bind_of hM
  obtain ⟨x1, h_4, hM⟩ := bind_of hM
  refine X.drawc (by kernel_rfl) rfl ?_
  iterate 2 refine X.cop rfl rfl rfl rfl ?_
  refine X.cop rfl (X.indexF (f := e_api_Letter) h_3 (fun _ => rfl) rfl rfl rfl rfl) rfl rfl ?_
  refine X.cop rfl (X.loadF h_3 rfl rfl rfl) rfl rfl ?_
  iterate 2 refine X.cop rfl rfl rfl rfl ?_
  refine X.cop rfl (X.indexF (f := e_api_Letter) h_4 (fun _ => rfl) rfl rfl rfl rfl) rfl rfl ?_
  refine X.cop rfl (X.loadF h_4 rfl rfl rfl) rfl rfl ?_
  refine X.cop rfl (X.neqE (eq_api_Letter x x1) rfl rfl) rfl rfl ?_
  refine X.cnil ?_
  refine X.norm [(0, (V.sl (List.map e_api_Letter a))), (1, (V.sl (List.map e_api_Letter b))), (5, (V.i i)), (25, (V.b (!decide (x = x1))))] ?_ rfl (sr rfl)
  refine X.cond rfl (fun h_5 => ?_) (fun h_5 => ?_)
  ·replace hM := ite_t h_5 hM
   refine X.sq (X.q rfl (GS.opsNil ?_))
   have hE := Option.some.inj hM
   replace hE := hr_1 _ hE.symm
   subst hE
   exact GS.ret ⟨_, rfl, ⟨30, rfl⟩⟩
  replace hM := ite_f h_5 hM
  refine GS.skip ?_
  refine GS.endB (GS.region (X.q rfl ?_))
  refine X.opR rfl (X.addE rfl rfl) rfl (X.q rfl (GS.opsNil ?_))
  have hE := Option.some.inj hM
  exact X.gc [] (hc_2 (w64 (i + 1)) hE.symm) rfl rfl rfl (ga rfl rfl) (gb_nil)
 replace hM := ite_f h_2 hM
 refine GS.exit rfl ?_
 obtain ⟨y_1, hM, hy⟩ := map_of hM
 rw [hr_1 _ hy.symm] at hM
 exact X.gc [] (hj_1 () hM) rfl rfl rfl (gk_nil) (gb_nil)
set_option maxHeartbeats 4000000 in
theorem ok_law09_ArbiterTells {c : api_Court} {l : (List api_Letter)} {who : Int} {id : Int} {round : Int} {r : Bool} (hM : law09_ArbiterTells c l who id round = some r) : Ct Try.prog 11 [(e_api_Court c), (V.sl (List.map e_api_Letter l)), (V.i who), (V.i id), (V.i round)] (V.b r) := by
 refine ct_of_gs CC_ok rfl ?_
 unfold law09_ArbiterTells at hM
 refine X.sq ?_
 refine X.opW rfl rfl rfl rfl (X.q rfl (GS.opsNil (GS.seq (X.sq (X.q rfl ?_)))))
 refine X.call (ok_law09_few l 60) rfl rfl rfl (.cons (.shut (n := 9) rfl) (.cons (.shut (n := 9) rfl) .nil)) (X.q rfl (GS.opsNil ?_))
 refine X.cond rfl (fun h_1 => ?_) (fun h_1 => ?_)
 ·replace hM := ite_t h_1 hM
  refine GS.seq ?_
  obtain ⟨y, h_2, hM⟩ := bind_of hM
  refine GS.region ?_
  refine X.call (ok_law09_sanity h_2) rfl rfl rfl .nil (X.q rfl (GS.opsNil ?_))
  cases hM
  exact GS.ret ⟨_, rfl, ⟨30, rfl⟩⟩
 replace hM := ite_f h_1 hM
 refine GS.skip (GS.seq ?_)
 obtain ⟨y1, h_3, hM⟩ := bind_of hM
 refine GS.region (X.q rfl (X.q rfl ?_))
 refine X.call (ok_arbiter_Rulings h_3) rfl rfl rfl (.cons (.shut (n := 9) rfl) (.cons (.shut (n := 9) rfl) .nil)) ?_
 iterate 5 refine X.q rfl ?_
 refine GS.opsNil (GS.seq ?_)
 obtain ⟨y2, h_4, hM⟩ := bind_of hM
 refine GS.region (X.q rfl (X.q rfl ?_))
 refine X.call (ok_ref09_Rulings h_4) rfl rfl rfl (.cons (.shut (n := 9) rfl) (.cons (.shut (n := 9) rfl) .nil)) ?_
 refine X.opW rfl rfl rfl rfl ?_
 refine X.op0W rfl rfl rfl (GS.opsNil (GS.seq ?_))
 obtain ⟨y3, h_5, hM⟩ := bind_of hM
 refine GS.region ?_
 iterate 4 refine X.q rfl ?_
 refine X.call (ok_arbiter_Voted h_5) rfl rfl rfl (.cons (.shut (n := 9) rfl) (.cons (.shut (n := 9) rfl) (.cons (.shut (n := 9) rfl) (.cons (.shut (n := 9) rfl) .nil)))) ?_
 iterate 7 refine X.q rfl ?_
 refine GS.opsNil (GS.seq ?_)
 obtain ⟨y4, h_6, hM⟩ := bind_of hM
 refine GS.region ?_
 iterate 4 refine X.q rfl ?_
 refine X.call (ok_ref09_Voted h_6) rfl rfl rfl (.cons (.shut (n := 9) rfl) (.cons (.shut (n := 9) rfl) (.cons (.shut (n := 9) rfl) (.cons (.shut (n := 9) rfl) .nil)))) ?_
 iterate 7 refine X.q rfl ?_
 refine GS.opsNil (GS.seq ?_)
 obtain ⟨y5, h_7, hM⟩ := bind_of hM
 refine GS.region (X.q rfl (X.q rfl (X.q rfl ?_)))
 refine X.call (ok_arbiter_Proof h_7) rfl rfl rfl (.cons (.shut (n := 9) rfl) (.cons (.shut (n := 9) rfl) (.cons (.shut (n := 9) rfl) .nil))) ?_
 iterate 5 refine X.q rfl ?_
 refine GS.opsNil (GS.seq ?_)
 obtain ⟨y6, h_8, hM⟩ := bind_of hM
 refine GS.region (X.q rfl (X.q rfl (X.q rfl ?_)))
 refine X.call (ok_ref09_Proof h_8) rfl rfl rfl (.cons (.shut (n := 9) rfl) (.cons (.shut (n := 9) rfl) (.cons (.shut (n := 9) rfl) .nil))) ?_
 refine X.opW rfl rfl rfl rfl ?_
 refine X.op0W rfl rfl rfl (GS.opsNil (GS.seq ?_))
 obtain ⟨y7, h_9, hM⟩ := bind_of hM
 refine GS.region ?_
 iterate 4 refine X.q rfl ?_
 refine X.call (ok_arbiter_Can h_9) rfl rfl rfl (.cons (.shut (n := 9) rfl) (.cons (.shut (n := 9) rfl) (.cons (.shut (n := 9) rfl) (.cons (.shut (n := 9) rfl) .nil)))) ?_
 iterate 9 refine X.q rfl ?_
 refine GS.opsNil (GS.seq ?_)
 obtain ⟨y8, h_10, hM⟩ := bind_of hM
 refine GS.region ?_
 iterate 4 refine X.q rfl ?_
 refine X.call (ok_ref09_Can h_10) rfl rfl rfl (.cons (.shut (n := 9) rfl) (.cons (.shut (n := 9) rfl) (.cons (.shut (n := 9) rfl) (.cons (.shut (n := 9) rfl) .nil)))) ?_
 iterate 9 refine X.q rfl ?_
 refine GS.opsNil ?_
 iterate 2 refine GS.seq ?_
 obtain ⟨y9, h_11, hM⟩ := gb_of hM
 obtain ⟨y10, h_12, hM⟩ := gb_of hM
 refine GS.region ?_
 refine X.mid [(23, (V.i y7.1)), (24, (V.b y7.2.1)), (25, (V.b y7.2.2.1)), (26, (V.i y7.2.2.2)), (27, (V.i y8.1)), (28, (V.b y8.2.1)), (29, (V.b y8.2.2.1)), (30, (V.i y8.2.2.2)), (131, (V.b (((((((!decide (y1.2 = y2.E)) || (!y9)) || (!decide (y3.1 = y4.1))) || (!decide (y3.2.1 = y4.2.1))) || (!decide (y3.2.2 = y4.2.2))) || (!decide (y5.2 = y6.E))) || (!y10))))] ?_ ?_
 ·intro hg
  refine X.split (!decide (y1.2 = y2.E)) (fun h_13 => ?_) (fun h_13 => ?_)
  ·iterate 5 refine X.q rfl ?_
   iterate 5 refine X.off (X.off_f rfl rfl rfl h_13) rfl ?_
   refine X.opR rfl (X.pickor_t (y := !y9) rfl h_13 rfl) rfl (X.q rfl ?_)
   iterate 3 refine X.off (X.off_f rfl rfl rfl (X.or_tt h_13)) rfl ?_
   refine X.opR rfl (X.pickor_t (y := !decide (y3.1 = y4.1)) rfl (X.or_tt h_13) rfl) rfl (X.q rfl ?_)
   iterate 3 refine X.off (X.off_f rfl rfl rfl (X.or_tt (X.or_tt h_13))) rfl ?_
   refine X.opR rfl (X.pickor_t (y := !decide (y3.2.1 = y4.2.1)) rfl (X.or_tt (X.or_tt h_13)) rfl) rfl (X.q rfl ?_)
   iterate 3 refine X.off (X.off_f rfl rfl rfl (X.or_tt (X.or_tt (X.or_tt h_13)))) rfl ?_
   refine X.opR rfl (X.pickor_t (y := !decide (y3.2.2 = y4.2.2)) rfl (X.or_tt (X.or_tt (X.or_tt h_13))) rfl) rfl (X.q rfl ?_)
   iterate 4 refine X.off (X.off_f rfl rfl rfl (X.or_tt (X.or_tt (X.or_tt (X.or_tt h_13))))) rfl ?_
   refine X.opR rfl (X.pickor_t (y := !decide (y5.2 = y6.E)) rfl (X.or_tt (X.or_tt (X.or_tt (X.or_tt h_13)))) rfl) rfl (X.q rfl ?_)
   iterate 5 refine X.off (X.off_f rfl rfl rfl (X.or_tt (X.or_tt (X.or_tt (X.or_tt (X.or_tt h_13)))))) rfl ?_
   refine X.opR rfl (X.pickor_t (y := !y10) rfl (X.or_tt (X.or_tt (X.or_tt (X.or_tt (X.or_tt h_13))))) rfl) rfl (GS.opsNil ?_)
   exact X.norm _ hg rfl (sr rfl)
  refine X.split (((!decide (y1.2 = y2.E)) || (!y9))) (fun h_14 => ?_) (fun h_14 => ?_)
  ·iterate 5 refine X.q rfl ?_
   iterate 3 refine X.opR (X.on_f rfl rfl rfl h_13) rfl rfl ?_
   refine X.call (ok_ref09_SameRulings (h_11 (X.nt h_13))) (X.on_f rfl rfl rfl h_13) rfl rfl (.cons (.shut (n := 9) rfl) (.cons (.shut (n := 9) rfl) .nil)) ?_
   refine X.opR (X.on_f rfl rfl rfl h_13) rfl rfl ?_
   refine X.opR rfl (X.pickor_f (y := !y9) rfl h_13 rfl) rfl (X.q rfl ?_)
   iterate 3 refine X.off (X.off_f rfl rfl rfl h_14) rfl ?_
   refine X.opR rfl (X.pickor_t (y := !decide (y3.1 = y4.1)) rfl h_14 rfl) rfl (X.q rfl ?_)
   iterate 3 refine X.off (X.off_f rfl rfl rfl (X.or_tt h_14)) rfl ?_
   refine X.opR rfl (X.pickor_t (y := !decide (y3.2.1 = y4.2.1)) rfl (X.or_tt h_14) rfl) rfl (X.q rfl ?_)
   iterate 3 refine X.off (X.off_f rfl rfl rfl (X.or_tt (X.or_tt h_14))) rfl ?_
   refine X.opR rfl (X.pickor_t (y := !decide (y3.2.2 = y4.2.2)) rfl (X.or_tt (X.or_tt h_14)) rfl) rfl (X.q rfl ?_)
   iterate 4 refine X.off (X.off_f rfl rfl rfl (X.or_tt (X.or_tt (X.or_tt h_14)))) rfl ?_
   refine X.opR rfl (X.pickor_t (y := !decide (y5.2 = y6.E)) rfl (X.or_tt (X.or_tt (X.or_tt h_14))) rfl) rfl (X.q rfl ?_)
   iterate 5 refine X.off (X.off_f rfl rfl rfl (X.or_tt (X.or_tt (X.or_tt (X.or_tt h_14))))) rfl ?_
   refine X.opR rfl (X.pickor_t (y := !y10) rfl (X.or_tt (X.or_tt (X.or_tt (X.or_tt h_14)))) rfl) rfl (GS.opsNil ?_)
   exact X.norm _ hg rfl (sr rfl)
  refine X.split ((((!decide (y1.2 = y2.E)) || (!y9)) || (!decide (y3.1 = y4.1)))) (fun h_15 => ?_) (fun h_15 => ?_)
  ·iterate 5 refine X.q rfl ?_
   iterate 3 refine X.opR (X.on_f rfl rfl rfl h_13) rfl rfl ?_
   refine X.call (ok_ref09_SameRulings (h_11 (X.nt h_13))) (X.on_f rfl rfl rfl h_13) rfl rfl (.cons (.shut (n := 9) rfl) (.cons (.shut (n := 9) rfl) .nil)) ?_
   refine X.opR (X.on_f rfl rfl rfl h_13) rfl rfl ?_
   refine X.opR rfl (X.pickor_f (y := !y9) rfl h_13 rfl) rfl (X.q rfl ?_)
   iterate 3 refine X.opR (X.on_f rfl rfl rfl h_14) rfl rfl ?_
   refine X.opR rfl (X.pickor_f (y := !decide (y3.1 = y4.1)) rfl h_14 rfl) rfl (X.q rfl ?_)
   iterate 3 refine X.off (X.off_f rfl rfl rfl h_15) rfl ?_
   refine X.opR rfl (X.pickor_t (y := !decide (y3.2.1 = y4.2.1)) rfl h_15 rfl) rfl (X.q rfl ?_)
   iterate 3 refine X.off (X.off_f rfl rfl rfl (X.or_tt h_15)) rfl ?_
   refine X.opR rfl (X.pickor_t (y := !decide (y3.2.2 = y4.2.2)) rfl (X.or_tt h_15) rfl) rfl (X.q rfl ?_)
   iterate 4 refine X.off (X.off_f rfl rfl rfl (X.or_tt (X.or_tt h_15))) rfl ?_
   refine X.opR rfl (X.pickor_t (y := !decide (y5.2 = y6.E)) rfl (X.or_tt (X.or_tt h_15)) rfl) rfl (X.q rfl ?_)
   iterate 5 refine X.off (X.off_f rfl rfl rfl (X.or_tt (X.or_tt (X.or_tt h_15)))) rfl ?_
   refine X.opR rfl (X.pickor_t (y := !y10) rfl (X.or_tt (X.or_tt (X.or_tt h_15))) rfl) rfl (GS.opsNil ?_)
   exact X.norm _ hg rfl (sr rfl)
  refine X.split (((((!decide (y1.2 = y2.E)) || (!y9)) || (!decide (y3.1 = y4.1))) || (!decide (y3.2.1 = y4.2.1)))) (fun h_16 => ?_) (fun h_16 => ?_)
  ·iterate 5 refine X.q rfl ?_
   iterate 3 refine X.opR (X.on_f rfl rfl rfl h_13) rfl rfl ?_
   refine X.call (ok_ref09_SameRulings (h_11 (X.nt h_13))) (X.on_f rfl rfl rfl h_13) rfl rfl (.cons (.shut (n := 9) rfl) (.cons (.shut (n := 9) rfl) .nil)) ?_
   refine X.opR (X.on_f rfl rfl rfl h_13) rfl rfl ?_
   refine X.opR rfl (X.pickor_f (y := !y9) rfl h_13 rfl) rfl (X.q rfl ?_)
   iterate 3 refine X.opR (X.on_f rfl rfl rfl h_14) rfl rfl ?_
   refine X.opR rfl (X.pickor_f (y := !decide (y3.1 = y4.1)) rfl h_14 rfl) rfl (X.q rfl ?_)
   iterate 3 refine X.opR (X.on_f rfl rfl rfl h_15) rfl rfl ?_
   refine X.opR rfl (X.pickor_f (y := !decide (y3.2.1 = y4.2.1)) rfl h_15 rfl) rfl (X.q rfl ?_)
   iterate 3 refine X.off (X.off_f rfl rfl rfl h_16) rfl ?_
   refine X.opR rfl (X.pickor_t (y := !decide (y3.2.2 = y4.2.2)) rfl h_16 rfl) rfl (X.q rfl ?_)
   iterate 4 refine X.off (X.off_f rfl rfl rfl (X.or_tt h_16)) rfl ?_
   refine X.opR rfl (X.pickor_t (y := !decide (y5.2 = y6.E)) rfl (X.or_tt h_16) rfl) rfl (X.q rfl ?_)
   iterate 5 refine X.off (X.off_f rfl rfl rfl (X.or_tt (X.or_tt h_16))) rfl ?_
   refine X.opR rfl (X.pickor_t (y := !y10) rfl (X.or_tt (X.or_tt h_16)) rfl) rfl (GS.opsNil ?_)
   exact X.norm _ hg rfl (sr rfl)
  refine X.split ((((((!decide (y1.2 = y2.E)) || (!y9)) || (!decide (y3.1 = y4.1))) || (!decide (y3.2.1 = y4.2.1))) || (!decide (y3.2.2 = y4.2.2)))) (fun h_17 => ?_) (fun h_17 => ?_)
  ·iterate 5 refine X.q rfl ?_
   iterate 3 refine X.opR (X.on_f rfl rfl rfl h_13) rfl rfl ?_
   refine X.call (ok_ref09_SameRulings (h_11 (X.nt h_13))) (X.on_f rfl rfl rfl h_13) rfl rfl (.cons (.shut (n := 9) rfl) (.cons (.shut (n := 9) rfl) .nil)) ?_
   refine X.opR (X.on_f rfl rfl rfl h_13) rfl rfl ?_
   refine X.opR rfl (X.pickor_f (y := !y9) rfl h_13 rfl) rfl (X.q rfl ?_)
   iterate 3 refine X.opR (X.on_f rfl rfl rfl h_14) rfl rfl ?_
   refine X.opR rfl (X.pickor_f (y := !decide (y3.1 = y4.1)) rfl h_14 rfl) rfl (X.q rfl ?_)
   iterate 3 refine X.opR (X.on_f rfl rfl rfl h_15) rfl rfl ?_
   refine X.opR rfl (X.pickor_f (y := !decide (y3.2.1 = y4.2.1)) rfl h_15 rfl) rfl (X.q rfl ?_)
   iterate 3 refine X.opR (X.on_f rfl rfl rfl h_16) rfl rfl ?_
   refine X.opR rfl (X.pickor_f (y := !decide (y3.2.2 = y4.2.2)) rfl h_16 rfl) rfl (X.q rfl ?_)
   iterate 4 refine X.off (X.off_f rfl rfl rfl h_17) rfl ?_
   refine X.opR rfl (X.pickor_t (y := !decide (y5.2 = y6.E)) rfl h_17 rfl) rfl (X.q rfl ?_)
   iterate 5 refine X.off (X.off_f rfl rfl rfl (X.or_tt h_17)) rfl ?_
   refine X.opR rfl (X.pickor_t (y := !y10) rfl (X.or_tt h_17) rfl) rfl (GS.opsNil ?_)
   exact X.norm _ hg rfl (sr rfl)
  refine X.split (((((((!decide (y1.2 = y2.E)) || (!y9)) || (!decide (y3.1 = y4.1))) || (!decide (y3.2.1 = y4.2.1))) || (!decide (y3.2.2 = y4.2.2))) || (!decide (y5.2 = y6.E)))) (fun h_18 => ?_) (fun h_18 => ?_)
  ·iterate 5 refine X.q rfl ?_
   iterate 3 refine X.opR (X.on_f rfl rfl rfl h_13) rfl rfl ?_
   refine X.call (ok_ref09_SameRulings (h_11 (X.nt h_13))) (X.on_f rfl rfl rfl h_13) rfl rfl (.cons (.shut (n := 9) rfl) (.cons (.shut (n := 9) rfl) .nil)) ?_
   refine X.opR (X.on_f rfl rfl rfl h_13) rfl rfl ?_
   refine X.opR rfl (X.pickor_f (y := !y9) rfl h_13 rfl) rfl (X.q rfl ?_)
   iterate 3 refine X.opR (X.on_f rfl rfl rfl h_14) rfl rfl ?_
   refine X.opR rfl (X.pickor_f (y := !decide (y3.1 = y4.1)) rfl h_14 rfl) rfl (X.q rfl ?_)
   iterate 3 refine X.opR (X.on_f rfl rfl rfl h_15) rfl rfl ?_
   refine X.opR rfl (X.pickor_f (y := !decide (y3.2.1 = y4.2.1)) rfl h_15 rfl) rfl (X.q rfl ?_)
   iterate 3 refine X.opR (X.on_f rfl rfl rfl h_16) rfl rfl ?_
   refine X.opR rfl (X.pickor_f (y := !decide (y3.2.2 = y4.2.2)) rfl h_16 rfl) rfl (X.q rfl ?_)
   iterate 4 refine X.opR (X.on_f rfl rfl rfl h_17) rfl rfl ?_
   refine X.opR rfl (X.pickor_f (y := !decide (y5.2 = y6.E)) rfl h_17 rfl) rfl (X.q rfl ?_)
   iterate 5 refine X.off (X.off_f rfl rfl rfl h_18) rfl ?_
   refine X.opR rfl (X.pickor_t (y := !y10) rfl h_18 rfl) rfl (GS.opsNil ?_)
   exact X.norm _ hg rfl (sr rfl)
  iterate 5 refine X.q rfl ?_
  iterate 3 refine X.opR (X.on_f rfl rfl rfl h_13) rfl rfl ?_
  refine X.call (ok_ref09_SameRulings (h_11 (X.nt h_13))) (X.on_f rfl rfl rfl h_13) rfl rfl (.cons (.shut (n := 9) rfl) (.cons (.shut (n := 9) rfl) .nil)) ?_
  refine X.opR (X.on_f rfl rfl rfl h_13) rfl rfl ?_
  refine X.opR rfl (X.pickor_f (y := !y9) rfl h_13 rfl) rfl (X.q rfl ?_)
  iterate 3 refine X.opR (X.on_f rfl rfl rfl h_14) rfl rfl ?_
  refine X.opR rfl (X.pickor_f (y := !decide (y3.1 = y4.1)) rfl h_14 rfl) rfl (X.q rfl ?_)
  iterate 3 refine X.opR (X.on_f rfl rfl rfl h_15) rfl rfl ?_
  refine X.opR rfl (X.pickor_f (y := !decide (y3.2.1 = y4.2.1)) rfl h_15 rfl) rfl (X.q rfl ?_)
  iterate 3 refine X.opR (X.on_f rfl rfl rfl h_16) rfl rfl ?_
  refine X.opR rfl (X.pickor_f (y := !decide (y3.2.2 = y4.2.2)) rfl h_16 rfl) rfl (X.q rfl ?_)
  iterate 4 refine X.opR (X.on_f rfl rfl rfl h_17) rfl rfl ?_
  refine X.opR rfl (X.pickor_f (y := !decide (y5.2 = y6.E)) rfl h_17 rfl) rfl (X.q rfl ?_)
  iterate 3 refine X.opR (X.on_f rfl rfl rfl h_18) rfl rfl ?_
  refine X.call (ok_ref09_SameLetters (h_12 (X.nt h_18))) (X.on_f rfl rfl rfl h_18) rfl rfl (.cons (.shut (n := 9) rfl) (.cons (.shut (n := 9) rfl) .nil)) ?_
  refine X.opR (X.on_f rfl rfl rfl h_18) rfl rfl ?_
  refine X.opR rfl (X.pickor_f (y := !y10) rfl h_18 rfl) rfl (GS.opsNil ?_)
  exact X.norm _ hg rfl (sr rfl)
 refine X.cond rfl (fun h_19 => ?_) (fun h_19 => ?_)
 ·replace hM := ite_t h_19 hM
  refine X.sq (X.q rfl (GS.opsNil ?_))
  cases hM
  exact GS.ret ⟨_, rfl, ⟨30, rfl⟩⟩
 replace hM := ite_f h_19 hM
 refine GS.skip (GS.seq ?_)
 obtain ⟨y11, h_20, hM⟩ := bind_of hM
 refine GS.region ?_
 refine X.mid [(10, (V.b ((((y11 && (decide (y7.1 = y8.1))) && (y7.2.1 == y8.2.1)) && (y7.2.2.1 == y8.2.2.1)) && (decide (y7.2.2.2 = y8.2.2.2)))))] ?_ ?_
 ·intro hg
  refine X.split (y11) (fun h_21 => ?_) (fun h_21 => ?_)
  ·refine X.split ((y11 && (decide (y7.1 = y8.1)))) (fun h_22 => ?_) (fun h_22 => ?_)
   ·refine X.split (((y11 && (decide (y7.1 = y8.1))) && (y7.2.1 == y8.2.1))) (fun h_23 => ?_) (fun h_23 => ?_)
    ·refine X.split ((((y11 && (decide (y7.1 = y8.1))) && (y7.2.1 == y8.2.1)) && (y7.2.2.1 == y8.2.2.1))) (fun h_24 => ?_) (fun h_24 => ?_)
     ·refine X.call (ok_law09_sanity h_20) rfl rfl rfl .nil (X.q rfl ?_)
      iterate 3 refine X.opR (X.on_t rfl rfl rfl h_21) rfl rfl ?_
      refine X.opR rfl (X.pickand_t (y := decide (y7.1 = y8.1)) rfl h_21 rfl) rfl (X.q rfl ?_)
      iterate 3 refine X.opR (X.on_t rfl rfl rfl h_22) rfl rfl ?_
      refine X.opR rfl (X.pickand_t (y := (y7.2.1 == y8.2.1)) rfl h_22 rfl) rfl (X.q rfl ?_)
      iterate 3 refine X.opR (X.on_t rfl rfl rfl h_23) rfl rfl ?_
      refine X.opR rfl (X.pickand_t (y := (y7.2.2.1 == y8.2.2.1)) rfl h_23 rfl) rfl (X.q rfl ?_)
      iterate 3 refine X.opR (X.on_t rfl rfl rfl h_24) rfl rfl ?_
      refine X.opR rfl (X.pickand_t (y := decide (y7.2.2.2 = y8.2.2.2)) rfl h_24 rfl) rfl (X.q rfl (GS.opsNil ?_))
      exact X.norm _ hg rfl (sr rfl)
     refine X.call (ok_law09_sanity h_20) rfl rfl rfl .nil (X.q rfl ?_)
     iterate 3 refine X.opR (X.on_t rfl rfl rfl h_21) rfl rfl ?_
     refine X.opR rfl (X.pickand_t (y := decide (y7.1 = y8.1)) rfl h_21 rfl) rfl (X.q rfl ?_)
     iterate 3 refine X.opR (X.on_t rfl rfl rfl h_22) rfl rfl ?_
     refine X.opR rfl (X.pickand_t (y := (y7.2.1 == y8.2.1)) rfl h_22 rfl) rfl (X.q rfl ?_)
     iterate 3 refine X.opR (X.on_t rfl rfl rfl h_23) rfl rfl ?_
     refine X.opR rfl (X.pickand_t (y := (y7.2.2.1 == y8.2.2.1)) rfl h_23 rfl) rfl (X.q rfl ?_)
     iterate 3 refine X.off (X.off_t rfl rfl rfl h_24) rfl ?_
     refine X.opR rfl (X.pickand_f (y := decide (y7.2.2.2 = y8.2.2.2)) rfl h_24 rfl) rfl (X.q rfl (GS.opsNil ?_))
     exact X.norm _ hg rfl (sr rfl)
    refine X.call (ok_law09_sanity h_20) rfl rfl rfl .nil (X.q rfl ?_)
    iterate 3 refine X.opR (X.on_t rfl rfl rfl h_21) rfl rfl ?_
    refine X.opR rfl (X.pickand_t (y := decide (y7.1 = y8.1)) rfl h_21 rfl) rfl (X.q rfl ?_)
    iterate 3 refine X.opR (X.on_t rfl rfl rfl h_22) rfl rfl ?_
    refine X.opR rfl (X.pickand_t (y := (y7.2.1 == y8.2.1)) rfl h_22 rfl) rfl (X.q rfl ?_)
    iterate 3 refine X.off (X.off_t rfl rfl rfl h_23) rfl ?_
    refine X.opR rfl (X.pickand_f (y := (y7.2.2.1 == y8.2.2.1)) rfl h_23 rfl) rfl (X.q rfl ?_)
    iterate 3 refine X.off (X.off_t rfl rfl rfl (X.and_ff h_23)) rfl ?_
    refine X.opR rfl (X.pickand_f (y := decide (y7.2.2.2 = y8.2.2.2)) rfl (X.and_ff h_23) rfl) rfl (X.q rfl (GS.opsNil ?_))
    exact X.norm _ hg rfl (sr rfl)
   refine X.call (ok_law09_sanity h_20) rfl rfl rfl .nil (X.q rfl ?_)
   iterate 3 refine X.opR (X.on_t rfl rfl rfl h_21) rfl rfl ?_
   refine X.opR rfl (X.pickand_t (y := decide (y7.1 = y8.1)) rfl h_21 rfl) rfl (X.q rfl ?_)
   iterate 3 refine X.off (X.off_t rfl rfl rfl h_22) rfl ?_
   refine X.opR rfl (X.pickand_f (y := (y7.2.1 == y8.2.1)) rfl h_22 rfl) rfl (X.q rfl ?_)
   iterate 3 refine X.off (X.off_t rfl rfl rfl (X.and_ff h_22)) rfl ?_
   refine X.opR rfl (X.pickand_f (y := (y7.2.2.1 == y8.2.2.1)) rfl (X.and_ff h_22) rfl) rfl (X.q rfl ?_)
   iterate 3 refine X.off (X.off_t rfl rfl rfl (X.and_ff (X.and_ff h_22))) rfl ?_
   refine X.opR rfl (X.pickand_f (y := decide (y7.2.2.2 = y8.2.2.2)) rfl (X.and_ff (X.and_ff h_22)) rfl) rfl (X.q rfl (GS.opsNil ?_))
   exact X.norm _ hg rfl (sr rfl)
  refine X.call (ok_law09_sanity h_20) rfl rfl rfl .nil (X.q rfl ?_)
  iterate 3 refine X.off (X.off_t rfl rfl rfl h_21) rfl ?_
  refine X.opR rfl (X.pickand_f (y := decide (y7.1 = y8.1)) rfl h_21 rfl) rfl (X.q rfl ?_)
  iterate 3 refine X.off (X.off_t rfl rfl rfl (X.and_ff h_21)) rfl ?_
  refine X.opR rfl (X.pickand_f (y := (y7.2.1 == y8.2.1)) rfl (X.and_ff h_21) rfl) rfl (X.q rfl ?_)
  iterate 3 refine X.off (X.off_t rfl rfl rfl (X.and_ff (X.and_ff h_21))) rfl ?_
  refine X.opR rfl (X.pickand_f (y := (y7.2.2.1 == y8.2.2.1)) rfl (X.and_ff (X.and_ff h_21)) rfl) rfl (X.q rfl ?_)
  iterate 3 refine X.off (X.off_t rfl rfl rfl (X.and_ff (X.and_ff (X.and_ff h_21)))) rfl ?_
  refine X.opR rfl (X.pickand_f (y := decide (y7.2.2.2 = y8.2.2.2)) rfl (X.and_ff (X.and_ff (X.and_ff h_21))) rfl) rfl (X.q rfl (GS.opsNil ?_))
  exact X.norm _ hg rfl (sr rfl)
 cases hM
 exact GS.ret ⟨_, rfl, ⟨30, rfl⟩⟩
end Go.Proofs.Ytkomoedegnckhaa
