/- The program's functions compute the plain ones. Conditions: none. Printed by a program (wip/tools/xg.py). -/
import Derived.Test.YtkomoedegnckhaaTok
import Derived.Test.YtkomoedegnckhaaSrt
import Derived.Test.YtkomoedegnckhaaM
set_option linter.unusedVariables false
set_option linter.unusedSimpArgs false
namespace Go.Proofs.Ytkomoedegnckhaa
open Go Go.Am Go.Proofs Go.Mx
noncomputable def CC : Cfg := cfg (Ct Try.prog)
theorem CC_ok : CC.OK := cfg_ok fun f args v h => h
abbrev e_api_Court (x : api_Court) : V := .agg [(V.i x.Arbiters)]
abbrev e_api_Letter (x : api_Letter) : V := .agg [(V.i x.ID), (V.i x.Case), (V.i x.Kind), (V.i x.Round), (V.i x.From), (V.i x.To), (V.i x.Voted), (V.i x.Finding)]
theorem ok_law09_three {r : (List api_Letter)} (hM : law09_three = some r) : Ct Try.prog 50 [] (V.sl (List.map e_api_Letter r)) := by
 refine ct_of_gs CC_ok rfl ?_
 unfold law09_three at hM
 refine X.sq (X.q rfl (X.nq ?_))
 iterate 6 refine X.q rfl ?_
 refine X.opW rfl rfl rfl rfl (X.q rfl (GS.opsNil ?_))
 cases hM
 exact GS.ret ⟨_, rfl, ⟨30, rfl⟩⟩
theorem ok_arbiter_within (n : Int) (lo : Int) (hi : Int) : Ct Try.prog 60 [(V.i n), (V.i lo), (V.i hi)] (V.b (arbiter_within n lo hi)) := by
 refine ct_of_gs CC_ok rfl ?_
 generalize hM : arbiter_within n lo hi = r
 unfold arbiter_within at hM
 refine X.sq (X.q rfl (X.nq ?_))
 refine X.mid [(6, (V.b ((decide (lo ≤ n)) && (decide (n ≤ hi)))))] ?_ ?_
 ·intro hg
  refine X.split (decide (lo ≤ n)) (fun h_1 => ?_) (fun h_1 => ?_)
  ·iterate 4 refine X.q rfl ?_
   iterate 3 refine X.opR (X.on_t rfl rfl rfl h_1) rfl rfl ?_
   refine X.opR rfl (X.pickand_t (y := decide (n ≤ hi)) rfl h_1 rfl) rfl (X.q rfl (GS.opsNil ?_))
   exact X.norm _ hg rfl (sr rfl)
  iterate 4 refine X.q rfl ?_
  iterate 3 refine X.off (X.off_t rfl rfl rfl h_1) rfl ?_
  refine X.opR rfl (X.pickand_f (y := decide (n ≤ hi)) rfl h_1 rfl) rfl (X.q rfl (GS.opsNil ?_))
  exact X.norm _ hg rfl (sr rfl)
 subst hM
 exact GS.ret ⟨_, rfl, ⟨30, rfl⟩⟩
theorem ok_arbiter_Check (c : api_Court) : Ct Try.prog 24 [(e_api_Court c)] (V.i (arbiter_Check c)) := by
 refine ct_of_gs CC_ok rfl ?_
 generalize hM : arbiter_Check c = r
 unfold arbiter_Check at hM
 refine X.sq ?_
 refine X.opW rfl rfl rfl rfl (X.q rfl (GS.opsNil (GS.seq (X.sq (X.q rfl (X.q rfl ?_))))))
 refine X.call (ok_arbiter_within c.Arbiters 3 7) rfl rfl rfl (.cons (.shut (n := 9) rfl) (.cons (.shut (n := 9) rfl) (.cons (.shut (n := 9) rfl) .nil))) (X.q rfl (GS.opsNil ?_))
 refine X.cond rfl (fun h_1 => ?_) (fun h_1 => ?_)
 ·replace hM := ite_t h_1 hM
  refine X.sq (X.q rfl (GS.opsNil ?_))
  subst hM
  exact GS.ret ⟨_, rfl, ⟨30, rfl⟩⟩
 replace hM := ite_f h_1 hM
 refine GS.skip (X.sq (X.q rfl (GS.opsNil ?_)))
 subst hM
 exact GS.ret ⟨_, rfl, ⟨30, rfl⟩⟩
theorem ok_arbiter_topic (id : Int) : Ct Try.prog 59 [(V.i id)] (V.b (arbiter_topic id)) := by
 refine ct_of_gs CC_ok rfl ?_
 generalize hM : arbiter_topic id = r
 unfold arbiter_topic at hM
 refine X.sq (X.q rfl (X.nq (X.q rfl ?_)))
 refine X.call (ok_arbiter_within id 1 1099511627776) rfl rfl rfl (.cons (.shut (n := 9) rfl) (.cons (.shut (n := 9) rfl) (.cons (.shut (n := 9) rfl) .nil))) (X.q rfl (GS.opsNil ?_))
 subst hM
 exact GS.ret ⟨_, rfl, ⟨30, rfl⟩⟩
theorem ok_arbiter_judge (c : api_Court) (a : Int) : Ct Try.prog 70 [(e_api_Court c), (V.i a)] (V.b (arbiter_judge c a)) := by
 refine ct_of_gs CC_ok rfl ?_
 generalize hM : arbiter_judge c a = r
 unfold arbiter_judge at hM
 refine X.sq ?_
 refine X.opW rfl rfl rfl rfl (X.q rfl (X.nq (X.q rfl (X.q rfl (X.q rfl ?_)))))
 refine X.opR rfl (X.subE rfl rfl) rfl ?_
 refine X.call (ok_arbiter_within a 0 (w64 (c.Arbiters - 1))) rfl rfl rfl (.cons (.shut (n := 9) rfl) (.cons (.shut (n := 9) rfl) (.cons (.shut (n := 9) rfl) .nil))) (X.q rfl (GS.opsNil ?_))
 subst hM
 exact GS.ret ⟨_, rfl, ⟨30, rfl⟩⟩
theorem ok_arbiter_finding (n : Int) : Ct Try.prog 73 [(V.i n)] (V.b (arbiter_finding n)) := by
 refine ct_of_gs CC_ok rfl ?_
 generalize hM : arbiter_finding n = r
 unfold arbiter_finding at hM
 refine X.sq (X.q rfl (X.nq (X.q rfl ?_)))
 refine X.call (ok_arbiter_within n 0 65536) rfl rfl rfl (.cons (.shut (n := 9) rfl) (.cons (.shut (n := 9) rfl) (.cons (.shut (n := 9) rfl) .nil))) (X.q rfl (GS.opsNil ?_))
 subst hM
 exact GS.ret ⟨_, rfl, ⟨30, rfl⟩⟩
theorem ok_arbiter_Chair {c : api_Court} {round : Int} {r : Int} (hM : arbiter_Chair c round = some r) : Ct Try.prog 28 [(e_api_Court c), (V.i round)] (V.i r) := by
 refine ct_of_gs CC_ok rfl ?_
 unfold arbiter_Chair at hM
 refine X.sq ?_
 refine X.opW rfl rfl rfl rfl (X.q rfl (GS.opsNil (GS.seq (X.sq ?_))))
 refine X.mid [(1, (V.i round)), (2, (V.ptr 0 0 0)), (12, (V.b ((!decide ((arbiter_Check c) = 0)) || (!(arbiter_within round 1 1048576)))))] ?_ ?_
 ·intro hg
  refine X.split (!decide ((arbiter_Check c) = 0)) (fun h_1 => ?_) (fun h_1 => ?_)
  ·refine X.q rfl ?_
   refine X.call (ok_arbiter_Check c) rfl rfl rfl (.cons (.shut (n := 9) rfl) .nil) (X.q rfl (X.q rfl ?_))
   iterate 3 refine X.off (X.off_f rfl rfl rfl h_1) rfl ?_
   refine X.opR rfl (X.pickor_t (y := !(arbiter_within round 1 1048576)) rfl h_1 rfl) rfl (GS.opsNil ?_)
   exact X.norm _ hg rfl (sr rfl)
  refine X.q rfl ?_
  refine X.call (ok_arbiter_Check c) rfl rfl rfl (.cons (.shut (n := 9) rfl) .nil) (X.q rfl (X.q rfl ?_))
  refine X.opR (X.on_f rfl rfl rfl h_1) rfl rfl ?_
  refine X.call (ok_arbiter_within round 1 1048576) (X.on_f rfl rfl rfl h_1) rfl rfl (.cons (.shut (n := 9) rfl) (.cons (.shut (n := 9) rfl) (.cons (.shut (n := 9) rfl) .nil))) ?_
  refine X.opR (X.on_f rfl rfl rfl h_1) rfl rfl ?_
  refine X.opR rfl (X.pickor_f (y := !(arbiter_within round 1 1048576)) rfl h_1 rfl) rfl (GS.opsNil ?_)
  exact X.norm _ hg rfl (sr rfl)
 refine X.cond rfl (fun h_2 => ?_) (fun h_2 => ?_)
 ·replace hM := ite_t h_2 hM
  refine X.sq (X.q rfl (GS.opsNil ?_))
  cases hM
  exact GS.ret ⟨_, rfl, ⟨30, rfl⟩⟩
 replace hM := ite_f h_2 hM
 refine GS.skip (GS.seq ?_)
 obtain ⟨q, h_3, hM⟩ := bind_of hM
 refine GS.region (X.q rfl ?_)
 refine X.opR rfl (X.subE rfl rfl) rfl (X.q rfl (X.q rfl ?_))
 refine X.opR rfl (X.remE h_3 rfl rfl) rfl (X.q rfl (GS.opsNil ?_))
 cases hM
 exact GS.ret ⟨_, rfl, ⟨30, rfl⟩⟩
set_option maxHeartbeats 4000000 in
theorem ok_arbiter_Formed {c : api_Court} {l : api_Letter} {r : Bool} (hM : arbiter_Formed c l = some r) : Ct Try.prog 30 [(e_api_Court c), (e_api_Letter l)] (V.b r) := by
 refine ct_of_gs CC_ok rfl ?_
 unfold arbiter_Formed at hM
 refine X.sq ?_
 iterate 2 refine X.opW rfl rfl rfl rfl ?_
 refine X.q rfl (GS.opsNil (GS.seq (X.sq ?_)))
 refine X.mid [(2, (V.ptr 0 0 0)), (3, (V.ptr 1 0 0)), (46, (V.b (((((((!decide ((arbiter_Check c) = 0)) || (!(arbiter_topic l.Case))) || (!(arbiter_within l.Round 1 1048576))) || (!(arbiter_judge c l.From))) || (!(arbiter_judge c l.To))) || (!(arbiter_within l.ID 0 1099511627776))) || (!(arbiter_finding l.Finding)))))] ?_ ?_
 ·intro hg
  refine X.split (!decide ((arbiter_Check c) = 0)) (fun h_1 => ?_) (fun h_1 => ?_)
  ·refine X.q rfl ?_
   refine X.call (ok_arbiter_Check c) rfl rfl rfl (.cons (.shut (n := 9) rfl) .nil) (X.q rfl (X.q rfl ?_))
   iterate 4 refine X.off (X.off_f rfl rfl rfl h_1) rfl ?_
   refine X.opR rfl (X.pickor_t (y := !(arbiter_topic l.Case)) rfl h_1 rfl) rfl (X.q rfl ?_)
   iterate 4 refine X.off (X.off_f rfl rfl rfl (X.or_tt h_1)) rfl ?_
   refine X.opR rfl (X.pickor_t (y := !(arbiter_within l.Round 1 1048576)) rfl (X.or_tt h_1) rfl) rfl (X.q rfl ?_)
   iterate 5 refine X.off (X.off_f rfl rfl rfl (X.or_tt (X.or_tt h_1))) rfl ?_
   refine X.opR rfl (X.pickor_t (y := !(arbiter_judge c l.From)) rfl (X.or_tt (X.or_tt h_1)) rfl) rfl (X.q rfl ?_)
   iterate 5 refine X.off (X.off_f rfl rfl rfl (X.or_tt (X.or_tt (X.or_tt h_1)))) rfl ?_
   refine X.opR rfl (X.pickor_t (y := !(arbiter_judge c l.To)) rfl (X.or_tt (X.or_tt (X.or_tt h_1))) rfl) rfl (X.q rfl ?_)
   iterate 4 refine X.off (X.off_f rfl rfl rfl (X.or_tt (X.or_tt (X.or_tt (X.or_tt h_1))))) rfl ?_
   refine X.opR rfl (X.pickor_t (y := !(arbiter_within l.ID 0 1099511627776)) rfl (X.or_tt (X.or_tt (X.or_tt (X.or_tt h_1)))) rfl) rfl (X.q rfl ?_)
   iterate 4 refine X.off (X.off_f rfl rfl rfl (X.or_tt (X.or_tt (X.or_tt (X.or_tt (X.or_tt h_1)))))) rfl ?_
   refine X.opR rfl (X.pickor_t (y := !(arbiter_finding l.Finding)) rfl (X.or_tt (X.or_tt (X.or_tt (X.or_tt (X.or_tt h_1))))) rfl) rfl (GS.opsNil ?_)
   exact X.norm _ hg rfl (sr rfl)
  refine X.split (((!decide ((arbiter_Check c) = 0)) || (!(arbiter_topic l.Case)))) (fun h_2 => ?_) (fun h_2 => ?_)
  ·refine X.q rfl ?_
   refine X.call (ok_arbiter_Check c) rfl rfl rfl (.cons (.shut (n := 9) rfl) .nil) (X.q rfl (X.q rfl ?_))
   iterate 2 refine X.opR (X.on_f rfl rfl rfl h_1) rfl rfl ?_
   refine X.call (ok_arbiter_topic l.Case) (X.on_f rfl rfl rfl h_1) rfl rfl (.cons (.shut (n := 9) rfl) .nil) ?_
   refine X.opR (X.on_f rfl rfl rfl h_1) rfl rfl ?_
   refine X.opR rfl (X.pickor_f (y := !(arbiter_topic l.Case)) rfl h_1 rfl) rfl (X.q rfl ?_)
   iterate 4 refine X.off (X.off_f rfl rfl rfl h_2) rfl ?_
   refine X.opR rfl (X.pickor_t (y := !(arbiter_within l.Round 1 1048576)) rfl h_2 rfl) rfl (X.q rfl ?_)
   iterate 5 refine X.off (X.off_f rfl rfl rfl (X.or_tt h_2)) rfl ?_
   refine X.opR rfl (X.pickor_t (y := !(arbiter_judge c l.From)) rfl (X.or_tt h_2) rfl) rfl (X.q rfl ?_)
   iterate 5 refine X.off (X.off_f rfl rfl rfl (X.or_tt (X.or_tt h_2))) rfl ?_
   refine X.opR rfl (X.pickor_t (y := !(arbiter_judge c l.To)) rfl (X.or_tt (X.or_tt h_2)) rfl) rfl (X.q rfl ?_)
   iterate 4 refine X.off (X.off_f rfl rfl rfl (X.or_tt (X.or_tt (X.or_tt h_2)))) rfl ?_
   refine X.opR rfl (X.pickor_t (y := !(arbiter_within l.ID 0 1099511627776)) rfl (X.or_tt (X.or_tt (X.or_tt h_2))) rfl) rfl (X.q rfl ?_)
   iterate 4 refine X.off (X.off_f rfl rfl rfl (X.or_tt (X.or_tt (X.or_tt (X.or_tt h_2))))) rfl ?_
   refine X.opR rfl (X.pickor_t (y := !(arbiter_finding l.Finding)) rfl (X.or_tt (X.or_tt (X.or_tt (X.or_tt h_2)))) rfl) rfl (GS.opsNil ?_)
   exact X.norm _ hg rfl (sr rfl)
  refine X.split ((((!decide ((arbiter_Check c) = 0)) || (!(arbiter_topic l.Case))) || (!(arbiter_within l.Round 1 1048576)))) (fun h_3 => ?_) (fun h_3 => ?_)
  ·refine X.q rfl ?_
   refine X.call (ok_arbiter_Check c) rfl rfl rfl (.cons (.shut (n := 9) rfl) .nil) (X.q rfl (X.q rfl ?_))
   iterate 2 refine X.opR (X.on_f rfl rfl rfl h_1) rfl rfl ?_
   refine X.call (ok_arbiter_topic l.Case) (X.on_f rfl rfl rfl h_1) rfl rfl (.cons (.shut (n := 9) rfl) .nil) ?_
   refine X.opR (X.on_f rfl rfl rfl h_1) rfl rfl ?_
   refine X.opR rfl (X.pickor_f (y := !(arbiter_topic l.Case)) rfl h_1 rfl) rfl (X.q rfl ?_)
   iterate 2 refine X.opR (X.on_f rfl rfl rfl h_2) rfl rfl ?_
   refine X.call (ok_arbiter_within l.Round 1 1048576) (X.on_f rfl rfl rfl h_2) rfl rfl (.cons (.shut (n := 9) rfl) (.cons (.shut (n := 9) rfl) (.cons (.shut (n := 9) rfl) .nil))) ?_
   refine X.opR (X.on_f rfl rfl rfl h_2) rfl rfl ?_
   refine X.opR rfl (X.pickor_f (y := !(arbiter_within l.Round 1 1048576)) rfl h_2 rfl) rfl (X.q rfl ?_)
   iterate 5 refine X.off (X.off_f rfl rfl rfl h_3) rfl ?_
   refine X.opR rfl (X.pickor_t (y := !(arbiter_judge c l.From)) rfl h_3 rfl) rfl (X.q rfl ?_)
   iterate 5 refine X.off (X.off_f rfl rfl rfl (X.or_tt h_3)) rfl ?_
   refine X.opR rfl (X.pickor_t (y := !(arbiter_judge c l.To)) rfl (X.or_tt h_3) rfl) rfl (X.q rfl ?_)
   iterate 4 refine X.off (X.off_f rfl rfl rfl (X.or_tt (X.or_tt h_3))) rfl ?_
   refine X.opR rfl (X.pickor_t (y := !(arbiter_within l.ID 0 1099511627776)) rfl (X.or_tt (X.or_tt h_3)) rfl) rfl (X.q rfl ?_)
   iterate 4 refine X.off (X.off_f rfl rfl rfl (X.or_tt (X.or_tt (X.or_tt h_3)))) rfl ?_
   refine X.opR rfl (X.pickor_t (y := !(arbiter_finding l.Finding)) rfl (X.or_tt (X.or_tt (X.or_tt h_3))) rfl) rfl (GS.opsNil ?_)
   exact X.norm _ hg rfl (sr rfl)
  refine X.split (((((!decide ((arbiter_Check c) = 0)) || (!(arbiter_topic l.Case))) || (!(arbiter_within l.Round 1 1048576))) || (!(arbiter_judge c l.From)))) (fun h_4 => ?_) (fun h_4 => ?_)
  ·refine X.q rfl ?_
   refine X.call (ok_arbiter_Check c) rfl rfl rfl (.cons (.shut (n := 9) rfl) .nil) (X.q rfl (X.q rfl ?_))
   iterate 2 refine X.opR (X.on_f rfl rfl rfl h_1) rfl rfl ?_
   refine X.call (ok_arbiter_topic l.Case) (X.on_f rfl rfl rfl h_1) rfl rfl (.cons (.shut (n := 9) rfl) .nil) ?_
   refine X.opR (X.on_f rfl rfl rfl h_1) rfl rfl ?_
   refine X.opR rfl (X.pickor_f (y := !(arbiter_topic l.Case)) rfl h_1 rfl) rfl (X.q rfl ?_)
   iterate 2 refine X.opR (X.on_f rfl rfl rfl h_2) rfl rfl ?_
   refine X.call (ok_arbiter_within l.Round 1 1048576) (X.on_f rfl rfl rfl h_2) rfl rfl (.cons (.shut (n := 9) rfl) (.cons (.shut (n := 9) rfl) (.cons (.shut (n := 9) rfl) .nil))) ?_
   refine X.opR (X.on_f rfl rfl rfl h_2) rfl rfl ?_
   refine X.opR rfl (X.pickor_f (y := !(arbiter_within l.Round 1 1048576)) rfl h_2 rfl) rfl (X.q rfl ?_)
   iterate 3 refine X.opR (X.on_f rfl rfl rfl h_3) rfl rfl ?_
   refine X.call (ok_arbiter_judge c l.From) (X.on_f rfl rfl rfl h_3) rfl rfl (.cons (.shut (n := 9) rfl) (.cons (.shut (n := 9) rfl) .nil)) ?_
   refine X.opR (X.on_f rfl rfl rfl h_3) rfl rfl ?_
   refine X.opR rfl (X.pickor_f (y := !(arbiter_judge c l.From)) rfl h_3 rfl) rfl (X.q rfl ?_)
   iterate 5 refine X.off (X.off_f rfl rfl rfl h_4) rfl ?_
   refine X.opR rfl (X.pickor_t (y := !(arbiter_judge c l.To)) rfl h_4 rfl) rfl (X.q rfl ?_)
   iterate 4 refine X.off (X.off_f rfl rfl rfl (X.or_tt h_4)) rfl ?_
   refine X.opR rfl (X.pickor_t (y := !(arbiter_within l.ID 0 1099511627776)) rfl (X.or_tt h_4) rfl) rfl (X.q rfl ?_)
   iterate 4 refine X.off (X.off_f rfl rfl rfl (X.or_tt (X.or_tt h_4))) rfl ?_
   refine X.opR rfl (X.pickor_t (y := !(arbiter_finding l.Finding)) rfl (X.or_tt (X.or_tt h_4)) rfl) rfl (GS.opsNil ?_)
   exact X.norm _ hg rfl (sr rfl)
  refine X.split ((((((!decide ((arbiter_Check c) = 0)) || (!(arbiter_topic l.Case))) || (!(arbiter_within l.Round 1 1048576))) || (!(arbiter_judge c l.From))) || (!(arbiter_judge c l.To)))) (fun h_5 => ?_) (fun h_5 => ?_)
  ·refine X.q rfl ?_
   refine X.call (ok_arbiter_Check c) rfl rfl rfl (.cons (.shut (n := 9) rfl) .nil) (X.q rfl (X.q rfl ?_))
   iterate 2 refine X.opR (X.on_f rfl rfl rfl h_1) rfl rfl ?_
   refine X.call (ok_arbiter_topic l.Case) (X.on_f rfl rfl rfl h_1) rfl rfl (.cons (.shut (n := 9) rfl) .nil) ?_
   refine X.opR (X.on_f rfl rfl rfl h_1) rfl rfl ?_
   refine X.opR rfl (X.pickor_f (y := !(arbiter_topic l.Case)) rfl h_1 rfl) rfl (X.q rfl ?_)
   iterate 2 refine X.opR (X.on_f rfl rfl rfl h_2) rfl rfl ?_
   refine X.call (ok_arbiter_within l.Round 1 1048576) (X.on_f rfl rfl rfl h_2) rfl rfl (.cons (.shut (n := 9) rfl) (.cons (.shut (n := 9) rfl) (.cons (.shut (n := 9) rfl) .nil))) ?_
   refine X.opR (X.on_f rfl rfl rfl h_2) rfl rfl ?_
   refine X.opR rfl (X.pickor_f (y := !(arbiter_within l.Round 1 1048576)) rfl h_2 rfl) rfl (X.q rfl ?_)
   iterate 3 refine X.opR (X.on_f rfl rfl rfl h_3) rfl rfl ?_
   refine X.call (ok_arbiter_judge c l.From) (X.on_f rfl rfl rfl h_3) rfl rfl (.cons (.shut (n := 9) rfl) (.cons (.shut (n := 9) rfl) .nil)) ?_
   refine X.opR (X.on_f rfl rfl rfl h_3) rfl rfl ?_
   refine X.opR rfl (X.pickor_f (y := !(arbiter_judge c l.From)) rfl h_3 rfl) rfl (X.q rfl ?_)
   iterate 3 refine X.opR (X.on_f rfl rfl rfl h_4) rfl rfl ?_
   refine X.call (ok_arbiter_judge c l.To) (X.on_f rfl rfl rfl h_4) rfl rfl (.cons (.shut (n := 9) rfl) (.cons (.shut (n := 9) rfl) .nil)) ?_
   refine X.opR (X.on_f rfl rfl rfl h_4) rfl rfl ?_
   refine X.opR rfl (X.pickor_f (y := !(arbiter_judge c l.To)) rfl h_4 rfl) rfl (X.q rfl ?_)
   iterate 4 refine X.off (X.off_f rfl rfl rfl h_5) rfl ?_
   refine X.opR rfl (X.pickor_t (y := !(arbiter_within l.ID 0 1099511627776)) rfl h_5 rfl) rfl (X.q rfl ?_)
   iterate 4 refine X.off (X.off_f rfl rfl rfl (X.or_tt h_5)) rfl ?_
   refine X.opR rfl (X.pickor_t (y := !(arbiter_finding l.Finding)) rfl (X.or_tt h_5) rfl) rfl (GS.opsNil ?_)
   exact X.norm _ hg rfl (sr rfl)
  refine X.split (((((((!decide ((arbiter_Check c) = 0)) || (!(arbiter_topic l.Case))) || (!(arbiter_within l.Round 1 1048576))) || (!(arbiter_judge c l.From))) || (!(arbiter_judge c l.To))) || (!(arbiter_within l.ID 0 1099511627776)))) (fun h_6 => ?_) (fun h_6 => ?_)
  ·refine X.q rfl ?_
   refine X.call (ok_arbiter_Check c) rfl rfl rfl (.cons (.shut (n := 9) rfl) .nil) (X.q rfl (X.q rfl ?_))
   iterate 2 refine X.opR (X.on_f rfl rfl rfl h_1) rfl rfl ?_
   refine X.call (ok_arbiter_topic l.Case) (X.on_f rfl rfl rfl h_1) rfl rfl (.cons (.shut (n := 9) rfl) .nil) ?_
   refine X.opR (X.on_f rfl rfl rfl h_1) rfl rfl ?_
   refine X.opR rfl (X.pickor_f (y := !(arbiter_topic l.Case)) rfl h_1 rfl) rfl (X.q rfl ?_)
   iterate 2 refine X.opR (X.on_f rfl rfl rfl h_2) rfl rfl ?_
   refine X.call (ok_arbiter_within l.Round 1 1048576) (X.on_f rfl rfl rfl h_2) rfl rfl (.cons (.shut (n := 9) rfl) (.cons (.shut (n := 9) rfl) (.cons (.shut (n := 9) rfl) .nil))) ?_
   refine X.opR (X.on_f rfl rfl rfl h_2) rfl rfl ?_
   refine X.opR rfl (X.pickor_f (y := !(arbiter_within l.Round 1 1048576)) rfl h_2 rfl) rfl (X.q rfl ?_)
   iterate 3 refine X.opR (X.on_f rfl rfl rfl h_3) rfl rfl ?_
   refine X.call (ok_arbiter_judge c l.From) (X.on_f rfl rfl rfl h_3) rfl rfl (.cons (.shut (n := 9) rfl) (.cons (.shut (n := 9) rfl) .nil)) ?_
   refine X.opR (X.on_f rfl rfl rfl h_3) rfl rfl ?_
   refine X.opR rfl (X.pickor_f (y := !(arbiter_judge c l.From)) rfl h_3 rfl) rfl (X.q rfl ?_)
   iterate 3 refine X.opR (X.on_f rfl rfl rfl h_4) rfl rfl ?_
   refine X.call (ok_arbiter_judge c l.To) (X.on_f rfl rfl rfl h_4) rfl rfl (.cons (.shut (n := 9) rfl) (.cons (.shut (n := 9) rfl) .nil)) ?_
   refine X.opR (X.on_f rfl rfl rfl h_4) rfl rfl ?_
   refine X.opR rfl (X.pickor_f (y := !(arbiter_judge c l.To)) rfl h_4 rfl) rfl (X.q rfl ?_)
   iterate 2 refine X.opR (X.on_f rfl rfl rfl h_5) rfl rfl ?_
   refine X.call (ok_arbiter_within l.ID 0 1099511627776) (X.on_f rfl rfl rfl h_5) rfl rfl (.cons (.shut (n := 9) rfl) (.cons (.shut (n := 9) rfl) (.cons (.shut (n := 9) rfl) .nil))) ?_
   refine X.opR (X.on_f rfl rfl rfl h_5) rfl rfl ?_
   refine X.opR rfl (X.pickor_f (y := !(arbiter_within l.ID 0 1099511627776)) rfl h_5 rfl) rfl (X.q rfl ?_)
   iterate 4 refine X.off (X.off_f rfl rfl rfl h_6) rfl ?_
   refine X.opR rfl (X.pickor_t (y := !(arbiter_finding l.Finding)) rfl h_6 rfl) rfl (GS.opsNil ?_)
   exact X.norm _ hg rfl (sr rfl)
  refine X.q rfl ?_
  refine X.call (ok_arbiter_Check c) rfl rfl rfl (.cons (.shut (n := 9) rfl) .nil) (X.q rfl (X.q rfl ?_))
  iterate 2 refine X.opR (X.on_f rfl rfl rfl h_1) rfl rfl ?_
  refine X.call (ok_arbiter_topic l.Case) (X.on_f rfl rfl rfl h_1) rfl rfl (.cons (.shut (n := 9) rfl) .nil) ?_
  refine X.opR (X.on_f rfl rfl rfl h_1) rfl rfl ?_
  refine X.opR rfl (X.pickor_f (y := !(arbiter_topic l.Case)) rfl h_1 rfl) rfl (X.q rfl ?_)
  iterate 2 refine X.opR (X.on_f rfl rfl rfl h_2) rfl rfl ?_
  refine X.call (ok_arbiter_within l.Round 1 1048576) (X.on_f rfl rfl rfl h_2) rfl rfl (.cons (.shut (n := 9) rfl) (.cons (.shut (n := 9) rfl) (.cons (.shut (n := 9) rfl) .nil))) ?_
  refine X.opR (X.on_f rfl rfl rfl h_2) rfl rfl ?_
  refine X.opR rfl (X.pickor_f (y := !(arbiter_within l.Round 1 1048576)) rfl h_2 rfl) rfl (X.q rfl ?_)
  iterate 3 refine X.opR (X.on_f rfl rfl rfl h_3) rfl rfl ?_
  refine X.call (ok_arbiter_judge c l.From) (X.on_f rfl rfl rfl h_3) rfl rfl (.cons (.shut (n := 9) rfl) (.cons (.shut (n := 9) rfl) .nil)) ?_
  refine X.opR (X.on_f rfl rfl rfl h_3) rfl rfl ?_
  refine X.opR rfl (X.pickor_f (y := !(arbiter_judge c l.From)) rfl h_3 rfl) rfl (X.q rfl ?_)
  iterate 3 refine X.opR (X.on_f rfl rfl rfl h_4) rfl rfl ?_
  refine X.call (ok_arbiter_judge c l.To) (X.on_f rfl rfl rfl h_4) rfl rfl (.cons (.shut (n := 9) rfl) (.cons (.shut (n := 9) rfl) .nil)) ?_
  refine X.opR (X.on_f rfl rfl rfl h_4) rfl rfl ?_
  refine X.opR rfl (X.pickor_f (y := !(arbiter_judge c l.To)) rfl h_4 rfl) rfl (X.q rfl ?_)
  iterate 2 refine X.opR (X.on_f rfl rfl rfl h_5) rfl rfl ?_
  refine X.call (ok_arbiter_within l.ID 0 1099511627776) (X.on_f rfl rfl rfl h_5) rfl rfl (.cons (.shut (n := 9) rfl) (.cons (.shut (n := 9) rfl) (.cons (.shut (n := 9) rfl) .nil))) ?_
  refine X.opR (X.on_f rfl rfl rfl h_5) rfl rfl ?_
  refine X.opR rfl (X.pickor_f (y := !(arbiter_within l.ID 0 1099511627776)) rfl h_5 rfl) rfl (X.q rfl ?_)
  iterate 2 refine X.opR (X.on_f rfl rfl rfl h_6) rfl rfl ?_
  refine X.call (ok_arbiter_finding l.Finding) (X.on_f rfl rfl rfl h_6) rfl rfl (.cons (.shut (n := 9) rfl) .nil) ?_
  refine X.opR (X.on_f rfl rfl rfl h_6) rfl rfl ?_
  refine X.opR rfl (X.pickor_f (y := !(arbiter_finding l.Finding)) rfl h_6 rfl) rfl (GS.opsNil ?_)
  exact X.norm _ hg rfl (sr rfl)
 refine X.cond rfl (fun h_7 => ?_) (fun h_7 => ?_)
 ·replace hM := ite_t h_7 hM
  refine X.sq (X.q rfl (GS.opsNil ?_))
  cases hM
  exact GS.ret ⟨_, rfl, ⟨30, rfl⟩⟩
 replace hM := ite_f h_7 hM
 refine GS.skip (GS.seq ?_)
 obtain ⟨y, h_8, hM⟩ := bind_of hM
 refine GS.region (X.q rfl (X.q rfl (X.q rfl ?_)))
 refine X.call (ok_arbiter_Chair h_8) rfl rfl rfl (.cons (.shut (n := 9) rfl) (.cons (.shut (n := 9) rfl) .nil)) (X.q rfl (GS.opsNil (GS.seq (X.sq (X.q rfl (X.q rfl ?_))))))
 refine GS.opsNil (GS.block (X.sq (X.q rfl (X.q rfl ?_))))
 refine GS.opsNil ?_
 refine X.cond rfl (fun h_9 => ?_) (fun h_9 => ?_)
 ·replace hM := ite_t h_9 hM
  refine X.sq ?_
  refine X.mid [(4, (V.b (((decide (l.From = y)) && (decide (l.Voted = 0))) && (decide (l.Finding = 0)))))] ?_ ?_
  ·intro hg
   refine X.split (decide (l.From = y)) (fun h_10 => ?_) (fun h_10 => ?_)
   ·refine X.split (((decide (l.From = y)) && (decide (l.Voted = 0)))) (fun h_11 => ?_) (fun h_11 => ?_)
    ·iterate 5 refine X.q rfl ?_
     iterate 3 refine X.opR (X.on_t rfl rfl rfl h_10) rfl rfl ?_
     refine X.opR rfl (X.pickand_t (y := decide (l.Voted = 0)) rfl h_10 rfl) rfl (X.q rfl ?_)
     iterate 3 refine X.opR (X.on_t rfl rfl rfl h_11) rfl rfl ?_
     refine X.opR rfl (X.pickand_t (y := decide (l.Finding = 0)) rfl h_11 rfl) rfl (X.q rfl (GS.opsNil ?_))
     exact X.norm _ hg rfl (sr rfl)
    iterate 5 refine X.q rfl ?_
    iterate 3 refine X.opR (X.on_t rfl rfl rfl h_10) rfl rfl ?_
    refine X.opR rfl (X.pickand_t (y := decide (l.Voted = 0)) rfl h_10 rfl) rfl (X.q rfl ?_)
    iterate 3 refine X.off (X.off_t rfl rfl rfl h_11) rfl ?_
    refine X.opR rfl (X.pickand_f (y := decide (l.Finding = 0)) rfl h_11 rfl) rfl (X.q rfl (GS.opsNil ?_))
    exact X.norm _ hg rfl (sr rfl)
   iterate 5 refine X.q rfl ?_
   iterate 3 refine X.off (X.off_t rfl rfl rfl h_10) rfl ?_
   refine X.opR rfl (X.pickand_f (y := decide (l.Voted = 0)) rfl h_10 rfl) rfl (X.q rfl ?_)
   iterate 3 refine X.off (X.off_t rfl rfl rfl (X.and_ff h_10)) rfl ?_
   refine X.opR rfl (X.pickand_f (y := decide (l.Finding = 0)) rfl (X.and_ff h_10) rfl) rfl (X.q rfl (GS.opsNil ?_))
   exact X.norm _ hg rfl (sr rfl)
  cases hM
  exact GS.ret ⟨_, rfl, ⟨30, rfl⟩⟩
 replace hM := ite_f h_9 hM
 refine X.sq (X.q rfl (X.q rfl ?_))
 refine GS.opsNil ?_
 refine X.cond rfl (fun h_12 => ?_) (fun h_12 => ?_)
 ·replace hM := ite_t h_12 hM
  refine X.sq ?_
  refine X.mid [(4, (V.b (((decide (l.To = y)) && (arbiter_within l.Voted 0 (w64 (l.Round - 1)))) && ((decide (0 < l.Voted)) || (decide (l.Finding = 0))))))] ?_ ?_
  ·intro hg
   refine X.split (decide (l.To = y)) (fun h_13 => ?_) (fun h_13 => ?_)
   ·refine X.split (((decide (l.To = y)) && (arbiter_within l.Voted 0 (w64 (l.Round - 1))))) (fun h_14 => ?_) (fun h_14 => ?_)
    ·refine X.split (decide (0 < l.Voted)) (fun h_15 => ?_) (fun h_15 => ?_)
     ·iterate 5 refine X.q rfl ?_
      iterate 4 refine X.opR (X.on_t rfl rfl rfl h_13) rfl rfl ?_
      refine X.opR (X.on_t rfl rfl rfl h_13) (X.subE rfl rfl) rfl ?_
      refine X.call (ok_arbiter_within l.Voted 0 (w64 (l.Round - 1))) (X.on_t rfl rfl rfl h_13) rfl rfl (.cons (.shut (n := 9) rfl) (.cons (.shut (n := 9) rfl) (.cons (.shut (n := 9) rfl) .nil))) ?_
      refine X.opR rfl (X.pickand_t (y := (arbiter_within l.Voted 0 (w64 (l.Round - 1)))) rfl h_13 rfl) rfl (X.q rfl ?_)
      iterate 4 refine X.opR (X.on_t rfl rfl rfl h_14) rfl rfl ?_
      iterate 3 refine X.off (X.off_f rfl rfl rfl h_15) rfl ?_
      refine X.opR (X.on_t rfl rfl rfl h_14) (X.pickor_t (y := decide (l.Finding = 0)) rfl h_15 rfl) rfl ?_
      refine X.opR rfl (X.pickand_t (y := ((decide (0 < l.Voted)) || (decide (l.Finding = 0)))) rfl h_14 rfl) rfl (X.q rfl (GS.opsNil ?_))
      exact X.norm _ hg rfl (sr rfl)
     iterate 5 refine X.q rfl ?_
     iterate 4 refine X.opR (X.on_t rfl rfl rfl h_13) rfl rfl ?_
     refine X.opR (X.on_t rfl rfl rfl h_13) (X.subE rfl rfl) rfl ?_
     refine X.call (ok_arbiter_within l.Voted 0 (w64 (l.Round - 1))) (X.on_t rfl rfl rfl h_13) rfl rfl (.cons (.shut (n := 9) rfl) (.cons (.shut (n := 9) rfl) (.cons (.shut (n := 9) rfl) .nil))) ?_
     refine X.opR rfl (X.pickand_t (y := (arbiter_within l.Voted 0 (w64 (l.Round - 1)))) rfl h_13 rfl) rfl (X.q rfl ?_)
     iterate 4 refine X.opR (X.on_t rfl rfl rfl h_14) rfl rfl ?_
     iterate 3 refine X.opR (X.on_f rfl rfl rfl h_15) rfl rfl ?_
     refine X.opR (X.on_t rfl rfl rfl h_14) (X.pickor_f (y := decide (l.Finding = 0)) rfl h_15 rfl) rfl ?_
     refine X.opR rfl (X.pickand_t (y := ((decide (0 < l.Voted)) || (decide (l.Finding = 0)))) rfl h_14 rfl) rfl (X.q rfl (GS.opsNil ?_))
     exact X.norm _ hg rfl (sr rfl)
    iterate 5 refine X.q rfl ?_
    iterate 4 refine X.opR (X.on_t rfl rfl rfl h_13) rfl rfl ?_
    refine X.opR (X.on_t rfl rfl rfl h_13) (X.subE rfl rfl) rfl ?_
    refine X.call (ok_arbiter_within l.Voted 0 (w64 (l.Round - 1))) (X.on_t rfl rfl rfl h_13) rfl rfl (.cons (.shut (n := 9) rfl) (.cons (.shut (n := 9) rfl) (.cons (.shut (n := 9) rfl) .nil))) ?_
    refine X.opR rfl (X.pickand_t (y := (arbiter_within l.Voted 0 (w64 (l.Round - 1)))) rfl h_13 rfl) rfl (X.q rfl ?_)
    iterate 4 refine X.off (X.off_t rfl rfl rfl h_14) rfl ?_
    iterate 3 refine X.off rfl rfl ?_
    refine X.off (X.off_t rfl rfl rfl h_14) rfl ?_
    refine X.opR rfl (X.pickand_f (y := ((decide (0 < l.Voted)) || (decide (l.Finding = 0)))) rfl h_14 rfl) rfl (X.q rfl (GS.opsNil ?_))
    exact X.norm _ hg rfl (sr rfl)
   iterate 5 refine X.q rfl ?_
   iterate 6 refine X.off (X.off_t rfl rfl rfl h_13) rfl ?_
   refine X.opR rfl (X.pickand_f (y := (arbiter_within l.Voted 0 (w64 (l.Round - 1)))) rfl h_13 rfl) rfl (X.q rfl ?_)
   iterate 4 refine X.off (X.off_t rfl rfl rfl (X.and_ff h_13)) rfl ?_
   iterate 3 refine X.off rfl rfl ?_
   refine X.off (X.off_t rfl rfl rfl (X.and_ff h_13)) rfl ?_
   refine X.opR rfl (X.pickand_f (y := ((decide (0 < l.Voted)) || (decide (l.Finding = 0)))) rfl (X.and_ff h_13) rfl) rfl (X.q rfl (GS.opsNil ?_))
   exact X.norm _ hg rfl (sr rfl)
  cases hM
  exact GS.ret ⟨_, rfl, ⟨30, rfl⟩⟩
 replace hM := ite_f h_12 hM
 refine X.sq (X.q rfl (X.q rfl ?_))
 refine GS.opsNil ?_
 refine X.cond rfl (fun h_16 => ?_) (fun h_16 => ?_)
 ·replace hM := ite_t h_16 hM
  refine X.sq ?_
  refine X.mid [(4, (V.b ((decide (l.From = y)) && (decide (l.Voted = 0)))))] ?_ ?_
  ·intro hg
   refine X.split (decide (l.From = y)) (fun h_17 => ?_) (fun h_17 => ?_)
   ·iterate 5 refine X.q rfl ?_
    iterate 3 refine X.opR (X.on_t rfl rfl rfl h_17) rfl rfl ?_
    refine X.opR rfl (X.pickand_t (y := decide (l.Voted = 0)) rfl h_17 rfl) rfl (X.q rfl (GS.opsNil ?_))
    exact X.norm _ hg rfl (sr rfl)
   iterate 5 refine X.q rfl ?_
   iterate 3 refine X.off (X.off_t rfl rfl rfl h_17) rfl ?_
   refine X.opR rfl (X.pickand_f (y := decide (l.Voted = 0)) rfl h_17 rfl) rfl (X.q rfl (GS.opsNil ?_))
   exact X.norm _ hg rfl (sr rfl)
  cases hM
  exact GS.ret ⟨_, rfl, ⟨30, rfl⟩⟩
 replace hM := ite_f h_16 hM
 refine X.sq (X.q rfl (X.q rfl ?_))
 refine GS.opsNil ?_
 refine X.cond rfl (fun h_18 => ?_) (fun h_18 => ?_)
 ·replace hM := ite_t h_18 hM
  refine X.sq ?_
  iterate 4 refine X.q rfl ?_
  refine GS.opsNil ?_
  cases hM
  exact GS.ret ⟨_, rfl, ⟨30, rfl⟩⟩
 replace hM := ite_f h_18 hM
 refine GS.skip ?_
 refine GS.endB (X.sq (X.q rfl (GS.opsNil ?_)))
 cases hM
 exact GS.ret ⟨_, rfl, ⟨30, rfl⟩⟩
theorem ok_arbiter_read_1 {x : api_Letter} {c : api_Court} {r : Bool} (hM : arbiter_read_1 x c = some r) : Ct Try.prog 92 [(e_api_Letter x), (V.fptr [(e_api_Court c)] 0 0)] (V.b r) := by
 refine ct_of_gs CC_ok rfl ?_
 unfold arbiter_read_1 at hM
 refine X.sq ?_
 refine X.opW rfl rfl rfl rfl (X.q rfl (GS.opsNil (GS.seq ?_)))
 obtain ⟨y, h_1, hM⟩ := bind_of hM
 refine GS.region (X.q rfl (X.q rfl ?_))
 refine X.call (ok_arbiter_Formed h_1) rfl rfl rfl (.cons (.shut (n := 9) rfl) (.cons (.shut (n := 9) rfl) .nil)) (X.q rfl (X.q rfl ?_))
 refine GS.opsNil ?_
 cases hM
 exact GS.ret ⟨_, rfl, ⟨30, rfl⟩⟩
theorem ok_slices_IndexFunc_api_Letter__arbiter_read_1 {s : (List api_Letter)} {c : api_Court} {r : Int} (hM : slices_IndexFunc_api_Letter__arbiter_read_1 s c = some r) : Ct Try.prog 67 [(V.sl (List.map e_api_Letter s)), (V.fn 92 [(V.fptr [(e_api_Court c)] 0 0)])] (V.i r) := by
 refine ct_of_gs CC_ok rfl ?_
 unfold slices_IndexFunc_api_Letter__arbiter_read_1 at hM
 refine X.sq (X.q rfl (GS.opsNil (GS.seq (X.sq (X.q rfl ?_)))))
 refine X.opR rfl (X.lenF rfl rfl rfl) rfl (X.q rfl (GS.opsNil ?_))
 refine X.join (τ := Unit) (fun v => slices_IndexFunc_api_Letter__arbiter_read_1_j1 = some r) (fun v => ⟨[], [], 0, none, 19⟩) ?_ ?_
 ·intro _ hM
  replace hM : slices_IndexFunc_api_Letter__arbiter_read_1_j1 = some r := hM
  unfold slices_IndexFunc_api_Letter__arbiter_read_1_j1 at hM
  refine X.sq (X.q rfl (GS.opsNil ?_))
  cases hM
  exact GS.ret ⟨_, rfl, ⟨30, rfl⟩⟩
 intro hj_1
 refine GS.block ?_
 refine X.gc [] (X.loop (σ := Int) (fun v => ⟨[(0, (V.sl (List.map e_api_Letter s))), (1, (V.fn 92 [(V.fptr [(e_api_Court c)] 0 0)])), (7, (V.i (s.length : Int))), (8, (V.i v))], [], 0, none, 19⟩) hM ?_ rfl) rfl rfl rfl (ga rfl rfl) (gb_nil)
 intro x1 b_1 hM hc_2 hr_1
 rw [slices_IndexFunc_api_Letter__arbiter_read_1_b2] at hM
 refine X.sq (X.q rfl (GS.opsNil (GS.seq ?_)))
 refine X.cond rfl (fun h_1 => ?_) (fun h_1 => ?_)
 ·replace hM := ite_t h_1 hM
  refine GS.skip (GS.seq (GS.block (X.sq (X.q rfl (X.q rfl ?_)))))
  refine GS.opsNil (GS.seq ?_)
  obtain ⟨x, h_2, hM⟩ := bind_of hM
  obtain ⟨y, h_3, hM⟩ := bind_of hM
  refine GS.region (X.q rfl (X.q rfl (X.q rfl ?_)))
  refine X.opR rfl (X.indexF (f := e_api_Letter) h_2 (fun _ => rfl) rfl rfl rfl rfl) rfl ?_
  refine X.opR rfl (X.loadF h_2 rfl rfl rfl) rfl ?_
  refine X.call (ok_arbiter_read_1 h_3) rfl rfl rfl (.cons (.shut (n := 9) rfl) (.cons (.shut (n := 9) rfl) .nil)) (GS.opsNil ?_)
  refine X.cond rfl (fun h_4 => ?_) (fun h_4 => ?_)
  ·replace hM := ite_t h_4 hM
   refine X.sq (X.q rfl (X.q rfl ?_))
   refine GS.opsNil ?_
   have hE := Option.some.inj hM
   replace hE := hr_1 _ hE.symm
   subst hE
   exact GS.ret ⟨_, rfl, ⟨30, rfl⟩⟩
  replace hM := ite_f h_4 hM
  refine GS.skip ?_
  refine GS.endB (GS.region ?_)
  refine X.opR rfl (X.addE rfl rfl) rfl (X.q rfl (GS.opsNil ?_))
  have hE := Option.some.inj hM
  exact X.gc [] (hc_2 (w64 (x1 + 1)) hE.symm) rfl rfl rfl (ga rfl rfl) (gb_nil)
 replace hM := ite_f h_1 hM
 refine GS.exit rfl ?_
 obtain ⟨y_1, hM, hy⟩ := map_of hM
 rw [hr_1 _ hy.symm] at hM
 exact X.gc [] (hj_1 () hM) rfl rfl rfl (gk_nil) (gb_nil)
theorem ok_slices_ContainsFunc_api_Letter__arbiter_read_1 {s : (List api_Letter)} {c : api_Court} {r : Bool} (hM : slices_ContainsFunc_api_Letter__arbiter_read_1 s c = some r) : Ct Try.prog 64 [(V.sl (List.map e_api_Letter s)), (V.fn 92 [(V.fptr [(e_api_Court c)] 0 0)])] (V.b r) := by
 refine ct_of_gs CC_ok rfl ?_
 unfold slices_ContainsFunc_api_Letter__arbiter_read_1 at hM
 refine X.sq (X.q rfl (GS.opsNil (GS.seq ?_)))
 obtain ⟨y, h_1, hM⟩ := bind_of hM
 refine GS.region (X.q rfl (X.q rfl ?_))
 refine X.call (ok_slices_IndexFunc_api_Letter__arbiter_read_1 h_1) rfl rfl rfl (.cons (.shut (n := 9) rfl) (.cons (.shut (n := 9) rfl) .nil)) (X.q rfl (X.q rfl ?_))
 refine GS.opsNil ?_
 cases hM
 exact GS.ret ⟨_, rfl, ⟨30, rfl⟩⟩
theorem ok_arbiter_read {c : api_Court} {l : (List api_Letter)} {r : Int} (hM : arbiter_read c l = some r) : Ct Try.prog 51 [(e_api_Court c), (V.sl (List.map e_api_Letter l))] (V.i r) := by
 refine ct_of_gs CC_ok rfl ?_
 unfold arbiter_read at hM
 refine X.sq ?_
 refine X.opW rfl rfl rfl rfl (X.q rfl (GS.opsNil (GS.seq (X.sq (X.q rfl ?_)))))
 refine X.call (ok_arbiter_Check c) rfl rfl rfl (.cons (.shut (n := 9) rfl) .nil) (X.q rfl (X.nq (X.q rfl (X.q rfl ?_))))
 refine GS.opsNil ?_
 refine X.cond rfl (fun h_1 => ?_) (fun h_1 => ?_)
 ·replace hM := ite_t h_1 hM
  refine X.sq (X.q rfl (X.q rfl ?_))
  refine GS.opsNil ?_
  cases hM
  exact GS.ret ⟨_, rfl, ⟨30, rfl⟩⟩
 replace hM := ite_f h_1 hM
 refine GS.skip (GS.seq (X.sq (X.q rfl ?_)))
 refine X.opR rfl (X.lenF rfl rfl rfl) rfl (X.q rfl (GS.opsNil ?_))
 refine X.cond rfl (fun h_2 => ?_) (fun h_2 => ?_)
 ·replace hM := ite_t h_2 hM
  refine X.sq (X.q rfl (GS.opsNil ?_))
  cases hM
  exact GS.ret ⟨_, rfl, ⟨30, rfl⟩⟩
 replace hM := ite_f h_2 hM
 refine GS.skip ?_
 iterate 2 refine GS.seq ?_
 obtain ⟨y, h_3, hM⟩ := bind_of hM
 refine GS.region (X.q rfl (X.q rfl ?_))
 refine X.callF (ok_slices_ContainsFunc_api_Letter__arbiter_read_1 h_3) rfl rfl rfl (m := 9) rfl (.cons (.shut (n := 9) rfl) (.cons (FR.arg ⟨30, rfl⟩) .nil)) (GS.opsNil ?_)
 refine X.cond rfl (fun h_4 => ?_) (fun h_4 => ?_)
 ·replace hM := ite_t h_4 hM
  refine X.sq (X.q rfl (GS.opsNil ?_))
  cases hM
  exact GS.ret ⟨_, rfl, ⟨30, rfl⟩⟩
 replace hM := ite_f h_4 hM
 refine GS.skip (X.sq (X.q rfl (GS.opsNil ?_)))
 cases hM
 exact GS.ret ⟨_, rfl, ⟨30, rfl⟩⟩
abbrev fk_85 : FK Int (List api_Letter) := fkS V.i (fun _ _ _ => rfl) 8 e_api_Letter (fun _ _ _ => rfl)
theorem ok_arbiter_said (l : api_Letter) : Ct Try.prog 55 [(e_api_Letter l)] (e_api_Letter (arbiter_said l)) := by
 refine ct_of_gs CC_ok rfl ?_
 generalize hM : arbiter_said l = r
 unfold arbiter_said at hM
 refine X.sq ?_
 iterate 2 refine X.opW rfl rfl rfl rfl ?_
 refine X.nq (X.q rfl ?_)
 refine X.op0W rfl rfl rfl (X.q rfl ?_)
 refine X.op0W rfl rfl rfl (X.nq (X.q rfl ?_))
 refine X.op0W rfl rfl rfl (GS.opsNil ?_)
 subst hM
 exact GS.ret ⟨_, rfl, ⟨30, rfl⟩⟩
theorem key_api_Letter (a b : api_Letter) : keyEq (e_api_Letter a) (e_api_Letter b) = some (decide (a = b)) := by
 have h : keyEq (e_api_Letter a) (e_api_Letter b) = some (decide ([(IntKind.i64, a.ID), (IntKind.i64, a.Case), (IntKind.i64, a.Kind), (IntKind.i64, a.Round), (IntKind.i64, a.From), (IntKind.i64, a.To), (IntKind.i64, a.Voted), (IntKind.i64, a.Finding)] = [(IntKind.i64, b.ID), (IntKind.i64, b.Case), (IntKind.i64, b.Kind), (IntKind.i64, b.Round), (IntKind.i64, b.From), (IntKind.i64, b.To), (IntKind.i64, b.Voted), (IntKind.i64, b.Finding)])) := rfl
 rw [h]
 congr 1
 cases a
 cases b
 simp
theorem ok_arbiter_last {l : (List api_Letter)} {arbiter : Int} {r : api_Letter} (hM : arbiter_last l arbiter = some r) : Ct Try.prog 79 [(V.sl (List.map e_api_Letter l)), (V.i arbiter)] (e_api_Letter r) := by
 refine ct_of_gs CC_ok rfl ?_
 unfold arbiter_last at hM
 refine X.sq ?_
 refine X.opW rfl rfl rfl rfl (X.nq ?_)
 refine X.opW rfl rfl rfl rfl (GS.opsNil (GS.seq (X.sq (X.q rfl ?_))))
 refine X.opR rfl (X.lenF rfl rfl rfl) rfl (X.q rfl (GS.opsNil ?_))
 refine X.join (τ := Int × Int × Int × Int × Int × Int × Int × Int) (fun v => arbiter_last_j1 v.1 v.2.1 v.2.2.1 v.2.2.2.1 v.2.2.2.2.1 v.2.2.2.2.2.1 v.2.2.2.2.2.2.1 v.2.2.2.2.2.2.2 = some r) (fun v => ⟨[(4, (V.ptr 0 0 0)), (5, (V.ptr 1 0 0))], [.rows 8 [(V.agg [(V.i 0), (V.i 0), (V.i 0), (V.i 0), (V.i 0), (V.i 0), (V.i 0), (V.i 0)])], .rows 8 [(V.agg [(V.i v.1), (V.i v.2.1), (V.i v.2.2.1), (V.i v.2.2.2.1), (V.i v.2.2.2.2.1), (V.i v.2.2.2.2.2.1), (V.i v.2.2.2.2.2.2.1), (V.i v.2.2.2.2.2.2.2)])]], 0, none, 33⟩) ?_ ?_
 ·rintro ⟨ID, Case, Kind, Round, From, To, Voted, Finding⟩ hM
  replace hM : arbiter_last_j1 ID Case Kind Round From To Voted Finding = some r := hM
  unfold arbiter_last_j1 at hM
  refine X.sq (X.q rfl ?_)
  refine X.op0W rfl rfl rfl (GS.opsNil ?_)
  cases hM
  exact GS.ret ⟨_, rfl, ⟨30, rfl⟩⟩
 intro hj_1
 refine GS.block ?_
 refine X.gc [some 0, some 1] (X.loop (σ := (Int × Int × Int × Int × Int × Int × Int × Int × Int)) (fun v => ⟨[(1, (V.i arbiter)), (4, (V.ptr 0 0 0)), (5, (V.ptr 1 0 0)), (8, (V.sl (List.map e_api_Letter l))), (9, (V.i (l.length : Int))), (10, (V.i v.1))], [.rows 8 [(V.agg [(V.i 0), (V.i 0), (V.i 0), (V.i 0), (V.i 0), (V.i 0), (V.i 0), (V.i 0)])], .rows 8 [(V.agg [(V.i v.2.1), (V.i v.2.2.1), (V.i v.2.2.2.1), (V.i v.2.2.2.2.1), (V.i v.2.2.2.2.2.1), (V.i v.2.2.2.2.2.2.1), (V.i v.2.2.2.2.2.2.2.1), (V.i v.2.2.2.2.2.2.2.2)])]], 0, none, 33⟩) hM ?_ rfl) rfl rfl rfl (ga rfl rfl) (gb9 rfl rfl rfl (gb9 rfl rfl rfl gb_nil))
 rintro ⟨x1, ID2, Case2, Kind2, Round2, From2, To2, Voted2, Finding2⟩ b_1 hM hc_2 hr_1
 rw [arbiter_last_b2] at hM
 refine X.sq (X.q rfl (GS.opsNil (GS.seq ?_)))
 refine X.cond rfl (fun h_1 => ?_) (fun h_1 => ?_)
 ·replace hM := ite_t h_1 hM
  refine GS.skip (GS.seq ?_)
  refine X.join (τ := Int × Int × Int × Int × Int × Int × Int × Int) (fun v => arbiter_last_j3 x1 v.1 v.2.1 v.2.2.1 v.2.2.2.1 v.2.2.2.2.1 v.2.2.2.2.2.1 v.2.2.2.2.2.2.1 v.2.2.2.2.2.2.2 = some b_1) (fun v => ⟨[(1, (V.i arbiter)), (4, (V.ptr 0 0 0)), (5, (V.ptr 1 0 0)), (8, (V.sl (List.map e_api_Letter l))), (9, (V.i (l.length : Int))), (10, (V.i x1))], [.rows 8 [(V.agg [(V.i 0), (V.i 0), (V.i 0), (V.i 0), (V.i 0), (V.i 0), (V.i 0), (V.i 0)])], .rows 8 [(V.agg [(V.i v.1), (V.i v.2.1), (V.i v.2.2.1), (V.i v.2.2.2.1), (V.i v.2.2.2.2.1), (V.i v.2.2.2.2.2.1), (V.i v.2.2.2.2.2.2.1), (V.i v.2.2.2.2.2.2.2)])]], 0, none, 33⟩) ?_ ?_
  ·rintro ⟨ID1, Case1, Kind1, Round1, From1, To1, Voted1, Finding1⟩ hM
   replace hM : arbiter_last_j3 x1 ID1 Case1 Kind1 Round1 From1 To1 Voted1 Finding1 = some b_1 := hM
   unfold arbiter_last_j3 at hM
   refine GS.region ?_
   refine X.opR rfl (X.addE rfl rfl) rfl (X.q rfl (GS.opsNil ?_))
   have hE := Option.some.inj hM
   exact X.gc [some 0, some 1] (hc_2 (w64 (x1 + 1), ID1, Case1, Kind1, Round1, From1, To1, Voted1, Finding1) hE.symm) rfl rfl rfl (ga rfl rfl) (gb9 rfl rfl rfl (gb9 rfl rfl rfl gb_nil))
  intro hj_3
  refine GS.block (GS.seq ?_)
  obtain ⟨x, h_2, hM⟩ := bind_of hM
  refine GS.region ?_
  refine X.opR rfl (X.indexF (f := e_api_Letter) h_2 (fun _ => rfl) rfl rfl rfl rfl) rfl ?_
  refine X.opR rfl (X.loadF h_2 rfl rfl rfl) rfl ?_
  refine X.opW rfl rfl rfl rfl ?_
  refine X.op0W rfl rfl rfl (X.nq ?_)
  refine X.mid [(1, (V.i arbiter)), (4, (V.ptr 0 0 0)), (5, (V.ptr 1 0 0)), (7, (V.ptr 2 0 0)), (8, (V.sl (List.map e_api_Letter l))), (9, (V.i (l.length : Int))), (10, (V.i x1)), (29, (V.b (((decide (x.Kind = 4)) && (decide (x.From = arbiter))) && (decide (Round2 < x.Round)))))] ?_ ?_
  ·intro hg
   refine X.split (decide (x.Kind = 4)) (fun h_3 => ?_) (fun h_3 => ?_)
   ·refine X.split (((decide (x.Kind = 4)) && (decide (x.From = arbiter)))) (fun h_4 => ?_) (fun h_4 => ?_)
    ·iterate 4 refine X.q rfl ?_
     iterate 4 refine X.opR (X.on_t rfl rfl rfl h_3) rfl rfl ?_
     refine X.opR rfl (X.pickand_t (y := decide (x.From = arbiter)) rfl h_3 rfl) rfl (X.q rfl ?_)
     iterate 5 refine X.opR (X.on_t rfl rfl rfl h_4) rfl rfl ?_
     refine X.opR rfl (X.pickand_t (y := decide (Round2 < x.Round)) rfl h_4 rfl) rfl (GS.opsNil ?_)
     exact X.norm _ hg rfl (sr rfl)
    iterate 4 refine X.q rfl ?_
    iterate 4 refine X.opR (X.on_t rfl rfl rfl h_3) rfl rfl ?_
    refine X.opR rfl (X.pickand_t (y := decide (x.From = arbiter)) rfl h_3 rfl) rfl (X.q rfl ?_)
    iterate 5 refine X.off (X.off_t rfl rfl rfl h_4) rfl ?_
    refine X.opR rfl (X.pickand_f (y := decide (Round2 < x.Round)) rfl h_4 rfl) rfl (GS.opsNil ?_)
    exact X.norm _ hg rfl (sr rfl)
   iterate 4 refine X.q rfl ?_
   iterate 4 refine X.off (X.off_t rfl rfl rfl h_3) rfl ?_
   refine X.opR rfl (X.pickand_f (y := decide (x.From = arbiter)) rfl h_3 rfl) rfl (X.q rfl ?_)
   iterate 5 refine X.off (X.off_t rfl rfl rfl (X.and_ff h_3)) rfl ?_
   refine X.opR rfl (X.pickand_f (y := decide (Round2 < x.Round)) rfl (X.and_ff h_3) rfl) rfl (GS.opsNil ?_)
   exact X.norm _ hg rfl (sr rfl)
  refine X.cond rfl (fun h_5 => ?_) (fun h_5 => ?_)
  ·replace hM := ite_t h_5 hM
   refine GS.region (X.q rfl ?_)
   refine X.op0W rfl rfl rfl (GS.opsNil ?_)
   refine GS.endB ?_
   exact X.gc [some 0, some 1] (hj_3 (x.ID, x.Case, x.Kind, x.Round, x.From, x.To, x.Voted, x.Finding) hM) rfl rfl rfl (ga rfl rfl) (gb9 rfl rfl rfl (gb9 rfl rfl rfl gb_nil))
  replace hM := ite_f h_5 hM
  refine GS.skip ?_
  refine GS.endB ?_
  exact X.gc [some 0, some 1] (hj_3 (ID2, Case2, Kind2, Round2, From2, To2, Voted2, Finding2) hM) rfl rfl rfl (ga rfl rfl) (gb9 rfl rfl rfl (gb9 rfl rfl rfl gb_nil))
 replace hM := ite_f h_1 hM
 refine GS.exit rfl ?_
 obtain ⟨y_1, hM, hy⟩ := map_of hM
 rw [hr_1 _ hy.symm] at hM
 exact X.gc [some 0, some 1] (hj_1 (ID2, Case2, Kind2, Round2, From2, To2, Voted2, Finding2) hM) rfl rfl rfl (ga rfl rfl) (gb9 rfl rfl rfl (gb9 rfl rfl rfl gb_nil))
theorem ok_arbiter_lawful_2 (y : api_Letter) (c : api_Letter) : Ct Try.prog 94 [(e_api_Letter y), (V.fptr [(e_api_Letter c)] 0 0)] (V.b (arbiter_lawful_2 y c)) := by
 refine ct_of_gs CC_ok rfl ?_
 generalize hM : arbiter_lawful_2 y c = r
 unfold arbiter_lawful_2 at hM
 refine X.sq ?_
 refine X.opW rfl rfl rfl rfl (X.q rfl (X.nq ?_))
 refine X.mid [(3, (V.b ((decide (y.Kind = 1)) && (decide (y.Round = c.Round)))))] ?_ ?_
 ·intro hg
  refine X.split (decide (y.Kind = 1)) (fun h_1 => ?_) (fun h_1 => ?_)
  ·iterate 4 refine X.q rfl ?_
   iterate 5 refine X.opR (X.on_t rfl rfl rfl h_1) rfl rfl ?_
   refine X.opR rfl (X.pickand_t (y := decide (y.Round = c.Round)) rfl h_1 rfl) rfl (X.q rfl (GS.opsNil ?_))
   exact X.norm _ hg rfl (sr rfl)
  iterate 4 refine X.q rfl ?_
  iterate 5 refine X.off (X.off_t rfl rfl rfl h_1) rfl ?_
  refine X.opR rfl (X.pickand_f (y := decide (y.Round = c.Round)) rfl h_1 rfl) rfl (X.q rfl (GS.opsNil ?_))
  exact X.norm _ hg rfl (sr rfl)
 subst hM
 exact GS.ret ⟨_, rfl, ⟨30, rfl⟩⟩
theorem ok_slices_IndexFunc_api_Letter__arbiter_lawful_2 {s : (List api_Letter)} {c : api_Letter} {r : Int} (hM : slices_IndexFunc_api_Letter__arbiter_lawful_2 s c = some r) : Ct Try.prog 67 [(V.sl (List.map e_api_Letter s)), (V.fn 94 [(V.fptr [(e_api_Letter c)] 0 0)])] (V.i r) := by
 refine ct_of_gs CC_ok rfl ?_
 unfold slices_IndexFunc_api_Letter__arbiter_lawful_2 at hM
 refine X.sq (X.q rfl (GS.opsNil (GS.seq (X.sq (X.q rfl ?_)))))
 refine X.opR rfl (X.lenF rfl rfl rfl) rfl (X.q rfl (GS.opsNil ?_))
 refine X.join (τ := Unit) (fun v => slices_IndexFunc_api_Letter__arbiter_lawful_2_j1 = some r) (fun v => ⟨[], [], 0, none, 19⟩) ?_ ?_
 ·intro _ hM
  replace hM : slices_IndexFunc_api_Letter__arbiter_lawful_2_j1 = some r := hM
  unfold slices_IndexFunc_api_Letter__arbiter_lawful_2_j1 at hM
  refine X.sq (X.q rfl (GS.opsNil ?_))
  cases hM
  exact GS.ret ⟨_, rfl, ⟨30, rfl⟩⟩
 intro hj_1
 refine GS.block ?_
 refine X.gc [] (X.loop (σ := Int) (fun v => ⟨[(0, (V.sl (List.map e_api_Letter s))), (1, (V.fn 94 [(V.fptr [(e_api_Letter c)] 0 0)])), (7, (V.i (s.length : Int))), (8, (V.i v))], [], 0, none, 19⟩) hM ?_ rfl) rfl rfl rfl (ga rfl rfl) (gb_nil)
 intro x1 b_1 hM hc_2 hr_1
 rw [slices_IndexFunc_api_Letter__arbiter_lawful_2_b2] at hM
 refine X.sq (X.q rfl (GS.opsNil (GS.seq ?_)))
 refine X.cond rfl (fun h_1 => ?_) (fun h_1 => ?_)
 ·replace hM := ite_t h_1 hM
  refine GS.skip (GS.seq (GS.block (X.sq (X.q rfl (X.q rfl ?_)))))
  refine GS.opsNil (GS.seq ?_)
  obtain ⟨x, h_2, hM⟩ := bind_of hM
  refine GS.region (X.q rfl (X.q rfl (X.q rfl ?_)))
  refine X.opR rfl (X.indexF (f := e_api_Letter) h_2 (fun _ => rfl) rfl rfl rfl rfl) rfl ?_
  refine X.opR rfl (X.loadF h_2 rfl rfl rfl) rfl ?_
  refine X.call (ok_arbiter_lawful_2 x c) rfl rfl rfl (.cons (.shut (n := 9) rfl) (.cons (.shut (n := 9) rfl) .nil)) (GS.opsNil ?_)
  refine X.cond rfl (fun h_3 => ?_) (fun h_3 => ?_)
  ·replace hM := ite_t h_3 hM
   refine X.sq (X.q rfl (X.q rfl ?_))
   refine GS.opsNil ?_
   have hE := Option.some.inj hM
   replace hE := hr_1 _ hE.symm
   subst hE
   exact GS.ret ⟨_, rfl, ⟨30, rfl⟩⟩
  replace hM := ite_f h_3 hM
  refine GS.skip ?_
  refine GS.endB (GS.region ?_)
  refine X.opR rfl (X.addE rfl rfl) rfl (X.q rfl (GS.opsNil ?_))
  have hE := Option.some.inj hM
  exact X.gc [] (hc_2 (w64 (x1 + 1)) hE.symm) rfl rfl rfl (ga rfl rfl) (gb_nil)
 replace hM := ite_f h_1 hM
 refine GS.exit rfl ?_
 obtain ⟨y_1, hM, hy⟩ := map_of hM
 rw [hr_1 _ hy.symm] at hM
 exact X.gc [] (hj_1 () hM) rfl rfl rfl (gk_nil) (gb_nil)
theorem ok_slices_ContainsFunc_api_Letter__arbiter_lawful_2 {s : (List api_Letter)} {c : api_Letter} {r : Bool} (hM : slices_ContainsFunc_api_Letter__arbiter_lawful_2 s c = some r) : Ct Try.prog 64 [(V.sl (List.map e_api_Letter s)), (V.fn 94 [(V.fptr [(e_api_Letter c)] 0 0)])] (V.b r) := by
 refine ct_of_gs CC_ok rfl ?_
 unfold slices_ContainsFunc_api_Letter__arbiter_lawful_2 at hM
 refine X.sq (X.q rfl (GS.opsNil (GS.seq ?_)))
 obtain ⟨y, h_1, hM⟩ := bind_of hM
 refine GS.region (X.q rfl (X.q rfl ?_))
 refine X.call (ok_slices_IndexFunc_api_Letter__arbiter_lawful_2 h_1) rfl rfl rfl (.cons (.shut (n := 9) rfl) (.cons (.shut (n := 9) rfl) .nil)) (X.q rfl (X.q rfl ?_))
 refine GS.opsNil ?_
 cases hM
 exact GS.ret ⟨_, rfl, ⟨30, rfl⟩⟩
theorem ok_arbiter_lawful_1__arbiter_lawful_2 {c : api_Letter} {c1 : (List api_Letter)} {r : Bool} (hM : arbiter_lawful_1__arbiter_lawful_2 c c1 = some r) : Ct Try.prog 93 [(V.fn 94 [(V.fptr [(e_api_Letter c)] 0 0)]), (V.fptr [(V.sl (List.map e_api_Letter c1))] 0 0)] (V.b r) := by
 refine ct_of_gs CC_ok rfl ?_
 unfold arbiter_lawful_1__arbiter_lawful_2 at hM
 refine X.sq (X.q rfl (GS.opsNil (GS.seq ?_)))
 obtain ⟨y, h_1, hM⟩ := bind_of hM
 refine GS.region (X.q rfl (X.q rfl ?_))
 refine X.call (ok_slices_ContainsFunc_api_Letter__arbiter_lawful_2 h_1) rfl rfl rfl (.cons (.shut (n := 9) rfl) (.cons (.shut (n := 9) rfl) .nil)) (X.q rfl (GS.opsNil ?_))
 cases hM
 exact GS.ret ⟨_, rfl, ⟨30, rfl⟩⟩
theorem ok_arbiter_word (l : api_Letter) : Ct Try.prog 66 [(e_api_Letter l)] (V.b (arbiter_word l)) := by
 refine ct_of_gs CC_ok rfl ?_
 generalize hM : arbiter_word l = r
 unfold arbiter_word at hM
 refine X.sq ?_
 refine X.opW rfl rfl rfl rfl (X.q rfl (X.nq ?_))
 refine X.mid [(2, (V.b ((decide (l.Kind = 2)) || (decide (l.Kind = 4)))))] ?_ ?_
 ·intro hg
  refine X.split (decide (l.Kind = 2)) (fun h_1 => ?_) (fun h_1 => ?_)
  ·iterate 4 refine X.q rfl ?_
   iterate 3 refine X.off (X.off_f rfl rfl rfl h_1) rfl ?_
   refine X.opR rfl (X.pickor_t (y := decide (l.Kind = 4)) rfl h_1 rfl) rfl (X.q rfl (GS.opsNil ?_))
   exact X.norm _ hg rfl (sr rfl)
  iterate 4 refine X.q rfl ?_
  iterate 3 refine X.opR (X.on_f rfl rfl rfl h_1) rfl rfl ?_
  refine X.opR rfl (X.pickor_f (y := decide (l.Kind = 4)) rfl h_1 rfl) rfl (X.q rfl (GS.opsNil ?_))
  exact X.norm _ hg rfl (sr rfl)
 subst hM
 exact GS.ret ⟨_, rfl, ⟨30, rfl⟩⟩
theorem ok_arbiter_lawful_3 (y : api_Letter) (c : api_Letter) : Ct Try.prog 95 [(e_api_Letter y), (V.fptr [(e_api_Letter c)] 0 0)] (V.b (arbiter_lawful_3 y c)) := by
 refine ct_of_gs CC_ok rfl ?_
 generalize hM : arbiter_lawful_3 y c = r
 unfold arbiter_lawful_3 at hM
 refine X.sq ?_
 refine X.opW rfl rfl rfl rfl (X.q rfl (X.nq ?_))
 refine X.mid [(3, (V.b (((arbiter_word y) && (decide (y.From = c.From))) && (decide (c.Round ≤ y.Round)))))] ?_ ?_
 ·intro hg
  refine X.split ((arbiter_word y)) (fun h_1 => ?_) (fun h_1 => ?_)
  ·refine X.split (((arbiter_word y) && (decide (y.From = c.From)))) (fun h_2 => ?_) (fun h_2 => ?_)
   ·refine X.q rfl ?_
    refine X.call (ok_arbiter_word y) rfl rfl rfl (.cons (.shut (n := 9) rfl) .nil) (X.q rfl ?_)
    iterate 5 refine X.opR (X.on_t rfl rfl rfl h_1) rfl rfl ?_
    refine X.opR rfl (X.pickand_t (y := decide (y.From = c.From)) rfl h_1 rfl) rfl (X.q rfl ?_)
    iterate 5 refine X.opR (X.on_t rfl rfl rfl h_2) rfl rfl ?_
    refine X.opR rfl (X.pickand_t (y := decide (c.Round ≤ y.Round)) rfl h_2 rfl) rfl (X.q rfl (GS.opsNil ?_))
    exact X.norm _ hg rfl (sr rfl)
   refine X.q rfl ?_
   refine X.call (ok_arbiter_word y) rfl rfl rfl (.cons (.shut (n := 9) rfl) .nil) (X.q rfl ?_)
   iterate 5 refine X.opR (X.on_t rfl rfl rfl h_1) rfl rfl ?_
   refine X.opR rfl (X.pickand_t (y := decide (y.From = c.From)) rfl h_1 rfl) rfl (X.q rfl ?_)
   iterate 5 refine X.off (X.off_t rfl rfl rfl h_2) rfl ?_
   refine X.opR rfl (X.pickand_f (y := decide (c.Round ≤ y.Round)) rfl h_2 rfl) rfl (X.q rfl (GS.opsNil ?_))
   exact X.norm _ hg rfl (sr rfl)
  refine X.q rfl ?_
  refine X.call (ok_arbiter_word y) rfl rfl rfl (.cons (.shut (n := 9) rfl) .nil) (X.q rfl ?_)
  iterate 5 refine X.off (X.off_t rfl rfl rfl h_1) rfl ?_
  refine X.opR rfl (X.pickand_f (y := decide (y.From = c.From)) rfl h_1 rfl) rfl (X.q rfl ?_)
  iterate 5 refine X.off (X.off_t rfl rfl rfl (X.and_ff h_1)) rfl ?_
  refine X.opR rfl (X.pickand_f (y := decide (c.Round ≤ y.Round)) rfl (X.and_ff h_1) rfl) rfl (X.q rfl (GS.opsNil ?_))
  exact X.norm _ hg rfl (sr rfl)
 subst hM
 exact GS.ret ⟨_, rfl, ⟨30, rfl⟩⟩
theorem ok_slices_IndexFunc_api_Letter__arbiter_lawful_3 {s : (List api_Letter)} {c : api_Letter} {r : Int} (hM : slices_IndexFunc_api_Letter__arbiter_lawful_3 s c = some r) : Ct Try.prog 67 [(V.sl (List.map e_api_Letter s)), (V.fn 95 [(V.fptr [(e_api_Letter c)] 0 0)])] (V.i r) := by
 refine ct_of_gs CC_ok rfl ?_
 unfold slices_IndexFunc_api_Letter__arbiter_lawful_3 at hM
 refine X.sq (X.q rfl (GS.opsNil (GS.seq (X.sq (X.q rfl ?_)))))
 refine X.opR rfl (X.lenF rfl rfl rfl) rfl (X.q rfl (GS.opsNil ?_))
 refine X.join (τ := Unit) (fun v => slices_IndexFunc_api_Letter__arbiter_lawful_3_j1 = some r) (fun v => ⟨[], [], 0, none, 19⟩) ?_ ?_
 ·intro _ hM
  replace hM : slices_IndexFunc_api_Letter__arbiter_lawful_3_j1 = some r := hM
  unfold slices_IndexFunc_api_Letter__arbiter_lawful_3_j1 at hM
  refine X.sq (X.q rfl (GS.opsNil ?_))
  cases hM
  exact GS.ret ⟨_, rfl, ⟨30, rfl⟩⟩
 intro hj_1
 refine GS.block ?_
 refine X.gc [] (X.loop (σ := Int) (fun v => ⟨[(0, (V.sl (List.map e_api_Letter s))), (1, (V.fn 95 [(V.fptr [(e_api_Letter c)] 0 0)])), (7, (V.i (s.length : Int))), (8, (V.i v))], [], 0, none, 19⟩) hM ?_ rfl) rfl rfl rfl (ga rfl rfl) (gb_nil)
 intro x1 b_1 hM hc_2 hr_1
 rw [slices_IndexFunc_api_Letter__arbiter_lawful_3_b2] at hM
 refine X.sq (X.q rfl (GS.opsNil (GS.seq ?_)))
 refine X.cond rfl (fun h_1 => ?_) (fun h_1 => ?_)
 ·replace hM := ite_t h_1 hM
  refine GS.skip (GS.seq (GS.block (X.sq (X.q rfl (X.q rfl ?_)))))
  refine GS.opsNil (GS.seq ?_)
  obtain ⟨x, h_2, hM⟩ := bind_of hM
  refine GS.region (X.q rfl (X.q rfl (X.q rfl ?_)))
  refine X.opR rfl (X.indexF (f := e_api_Letter) h_2 (fun _ => rfl) rfl rfl rfl rfl) rfl ?_
  refine X.opR rfl (X.loadF h_2 rfl rfl rfl) rfl ?_
  refine X.call (ok_arbiter_lawful_3 x c) rfl rfl rfl (.cons (.shut (n := 9) rfl) (.cons (.shut (n := 9) rfl) .nil)) (GS.opsNil ?_)
  refine X.cond rfl (fun h_3 => ?_) (fun h_3 => ?_)
  ·replace hM := ite_t h_3 hM
   refine X.sq (X.q rfl (X.q rfl ?_))
   refine GS.opsNil ?_
   have hE := Option.some.inj hM
   replace hE := hr_1 _ hE.symm
   subst hE
   exact GS.ret ⟨_, rfl, ⟨30, rfl⟩⟩
  replace hM := ite_f h_3 hM
  refine GS.skip ?_
  refine GS.endB (GS.region ?_)
  refine X.opR rfl (X.addE rfl rfl) rfl (X.q rfl (GS.opsNil ?_))
  have hE := Option.some.inj hM
  exact X.gc [] (hc_2 (w64 (x1 + 1)) hE.symm) rfl rfl rfl (ga rfl rfl) (gb_nil)
 replace hM := ite_f h_1 hM
 refine GS.exit rfl ?_
 obtain ⟨y_1, hM, hy⟩ := map_of hM
 rw [hr_1 _ hy.symm] at hM
 exact X.gc [] (hj_1 () hM) rfl rfl rfl (gk_nil) (gb_nil)
theorem ok_slices_ContainsFunc_api_Letter__arbiter_lawful_3 {s : (List api_Letter)} {c : api_Letter} {r : Bool} (hM : slices_ContainsFunc_api_Letter__arbiter_lawful_3 s c = some r) : Ct Try.prog 64 [(V.sl (List.map e_api_Letter s)), (V.fn 95 [(V.fptr [(e_api_Letter c)] 0 0)])] (V.b r) := by
 refine ct_of_gs CC_ok rfl ?_
 unfold slices_ContainsFunc_api_Letter__arbiter_lawful_3 at hM
 refine X.sq (X.q rfl (GS.opsNil (GS.seq ?_)))
 obtain ⟨y, h_1, hM⟩ := bind_of hM
 refine GS.region (X.q rfl (X.q rfl ?_))
 refine X.call (ok_slices_IndexFunc_api_Letter__arbiter_lawful_3 h_1) rfl rfl rfl (.cons (.shut (n := 9) rfl) (.cons (.shut (n := 9) rfl) .nil)) (X.q rfl (X.q rfl ?_))
 refine GS.opsNil ?_
 cases hM
 exact GS.ret ⟨_, rfl, ⟨30, rfl⟩⟩
theorem ok_arbiter_lawful_1__arbiter_lawful_3 {c : api_Letter} {c1 : (List api_Letter)} {r : Bool} (hM : arbiter_lawful_1__arbiter_lawful_3 c c1 = some r) : Ct Try.prog 93 [(V.fn 95 [(V.fptr [(e_api_Letter c)] 0 0)]), (V.fptr [(V.sl (List.map e_api_Letter c1))] 0 0)] (V.b r) := by
 refine ct_of_gs CC_ok rfl ?_
 unfold arbiter_lawful_1__arbiter_lawful_3 at hM
 refine X.sq (X.q rfl (GS.opsNil (GS.seq ?_)))
 obtain ⟨y, h_1, hM⟩ := bind_of hM
 refine GS.region (X.q rfl (X.q rfl ?_))
 refine X.call (ok_slices_ContainsFunc_api_Letter__arbiter_lawful_3 h_1) rfl rfl rfl (.cons (.shut (n := 9) rfl) (.cons (.shut (n := 9) rfl) .nil)) (X.q rfl (GS.opsNil ?_))
 cases hM
 exact GS.ret ⟨_, rfl, ⟨30, rfl⟩⟩
theorem ok_arbiter_promises (l : (List api_Letter)) (round : Int) : Ct Try.prog 122 [(V.sl (List.map e_api_Letter l)), (V.i round)] (V.fn 134 [(V.fptr [(V.sl (List.map e_api_Letter ((arbiter_promises l round).1)))] 0 0), (V.fptr [(V.i ((arbiter_promises l round).2))] 0 0)]) := by
 refine ct_of_gs CC_ok rfl ?_
 generalize hM : arbiter_promises l round = r
 unfold arbiter_promises at hM
 refine X.sq ?_
 iterate 2 refine X.opW rfl rfl rfl rfl ?_
 refine X.q rfl (X.nq (X.q rfl (X.q rfl ?_)))
 refine GS.opsNil ?_
 subst hM
 exact GS.ret ⟨_, rfl, ⟨30, rfl⟩⟩
theorem ok_arbiter_Majority {c : api_Court} {r : Int} (hM : arbiter_Majority c = some r) : Ct Try.prog 26 [(e_api_Court c)] (V.i r) := by
 refine ct_of_gs CC_ok rfl ?_
 unfold arbiter_Majority at hM
 refine X.sq ?_
 refine X.opW rfl rfl rfl rfl (X.q rfl (GS.opsNil (GS.seq (X.sq (X.q rfl ?_)))))
 refine X.call (ok_arbiter_Check c) rfl rfl rfl (.cons (.shut (n := 9) rfl) .nil) (X.q rfl (GS.opsNil ?_))
 refine X.cond rfl (fun h_1 => ?_) (fun h_1 => ?_)
 ·replace hM := ite_t h_1 hM
  refine X.sq (X.q rfl (GS.opsNil ?_))
  cases hM
  exact GS.ret ⟨_, rfl, ⟨30, rfl⟩⟩
 replace hM := ite_f h_1 hM
 refine GS.skip (GS.seq ?_)
 obtain ⟨q, h_2, hM⟩ := bind_of hM
 refine GS.region (X.q rfl (X.q rfl ?_))
 refine X.opR rfl (X.quoE h_2 rfl rfl) rfl ?_
 refine X.opR rfl (X.addE rfl rfl) rfl (X.q rfl (GS.opsNil ?_))
 cases hM
 exact GS.ret ⟨_, rfl, ⟨30, rfl⟩⟩
set_option maxHeartbeats 4000000 in
theorem ok_arbiter_proposable {c : api_Court} {l : (List api_Letter)} {round : Int} {n : Int} {r : Bool} (hM : arbiter_proposable c l round n = some r) : Ct Try.prog 96 [(e_api_Court c), (V.sl (List.map e_api_Letter l)), (V.i round), (V.i n)] (V.b r) := by
 refine ct_of_gs CC_ok rfl ?_
 unfold arbiter_proposable at hM
 refine X.sq ?_
 iterate 3 refine X.opW rfl rfl rfl rfl ?_
 refine X.opW (H' := [.rows 1 [(e_api_Court c)], .rows 1 [(V.sl (List.map e_api_Letter l))], .rows 1 [(V.i round)], .rows 1 [(V.i n)]]) rfl rfl rfl rfl ?_
 refine X.opW (H' := [.rows 1 [(e_api_Court c)], .rows 1 [(V.sl (List.map e_api_Letter l))], .rows 1 [(V.i round)], .rows 1 [(V.i n)], .rows 1 [(V.b false)]]) rfl rfl rfl rfl (X.nq ?_)
 refine X.opW (H' := [.rows 1 [(e_api_Court c)], .rows 1 [(V.sl (List.map e_api_Letter l))], .rows 1 [(V.i round)], .rows 1 [(V.i n)], .rows 1 [(V.b false)], .rows 1 [(V.i 0)]]) rfl rfl rfl rfl ?_
 refine X.op0W (H' := [.rows 1 [(e_api_Court c)], .rows 1 [(V.sl (List.map e_api_Letter l))], .rows 1 [(V.i round)], .rows 1 [(V.i n)], .rows 1 [(V.b false)], .rows 1 [(V.i 0)]]) rfl rfl rfl (GS.opsNil (GS.seq (X.sq (X.q rfl (X.q rfl ?_)))))
 refine X.call (ok_arbiter_promises l round) rfl rfl rfl (.cons (.shut (n := 9) rfl) (.cons (.shut (n := 9) rfl) .nil)) (GS.opsNil (GS.block ?_))
 refine X.gc [some 0, some 1, some 2, some 3, some 4, some 5] (H' := [.rows 1 [(e_api_Court c)], .rows 1 [(V.sl (List.map e_api_Letter l))], .rows 1 [(V.i round)], .rows 1 [(V.i n)], .rows 1 [(V.b false)], .rows 1 [(V.i 0)]]) (K' := [(4, (V.ptr 0 0 0)), (5, (V.ptr 1 0 0)), (6, (V.ptr 2 0 0)), (7, (V.ptr 3 0 0)), (8, (V.ptr 4 0 0)), (9, (V.ptr 5 0 0)), (15, (V.fn 134 [(V.fptr [(V.sl (List.map e_api_Letter ((arbiter_promises l round).1)))] 0 0), (V.fptr [(V.i ((arbiter_promises l round).2))] 0 0)]))]) ?_ rfl rfl rfl (ga rfl rfl) (gb9 rfl rfl rfl (gb9 rfl rfl rfl (gb9 rfl rfl rfl (gb9 rfl rfl rfl (gb9 rfl rfl rfl (gb9 rfl rfl rfl gb_nil))))))
 refine X.range rfl rfl (lowK_cons ⟨9, rfl⟩ (lowK_cons ⟨9, rfl⟩ (lowK_cons ⟨9, rfl⟩ (lowK_cons ⟨9, rfl⟩ (lowK_cons ⟨9, rfl⟩ (lowK_cons ⟨9, rfl⟩ (lowK_cons ⟨9, rfl⟩ lowK_nil))))))) rfl ?_
 intro R_1 hrn_1 hrK_1 hrp_1 hra_1 hrb_1 hlow_1
 refine X.sq ?_
 refine X.opW (H' := [.rows 1 [(e_api_Court c)], .rows 1 [(V.sl (List.map e_api_Letter l))], .rows 1 [(V.i round)], .rows 1 [(V.i n)], .rows 1 [(V.b false)], .rows 1 [(V.i 0)], lr R_1 .ready none, .map (List.map (fun p : Int × Bool => V.i p.1) []) (List.map (fun p : Int × Bool => V.b p.2) [])]) rfl rfl rfl rfl (X.q rfl (X.nq (X.q rfl ?_)))
 refine X.opR rfl (X.lenF rfl rfl rfl) rfl (X.q rfl (GS.opsNil (GS.block ?_)))
 refine X.gc [some 7] (X.loop (σ := (Int × (List (Int × Bool)) × Int)) (fun v => ⟨[(0, (V.yld 6)), (2, (V.fptr [(V.i ((arbiter_promises l round).2))] 0 0)), (4, (V.map 7)), (8, (V.sl (List.map e_api_Letter ((arbiter_promises l round).1)))), (9, (V.i (((arbiter_promises l round).1).length : Int))), (10, (V.i v.1))], [.rows 1 [(e_api_Court c)], .rows 1 [(V.sl (List.map e_api_Letter l))], .rows 1 [(V.i round)], .rows 1 [(V.i n)], .rows 1 [(V.b false)], .rows 1 [(V.i v.2.2)], lr R_1 .ready none, .map (List.map (fun p : Int × Bool => V.i p.1) v.2.1) (List.map (fun p : Int × Bool => V.b p.2) v.2.1)], 0, none, 37⟩) hM ?_ rfl) rfl rfl rfl (ga rfl rfl) (gb9 rfl rfl rfl (gb9 rfl rfl rfl (gb9 rfl rfl rfl (gb9 rfl rfl rfl (gb9 rfl rfl rfl (gb9 rfl rfl rfl (gb_loop hlow_1 rfl rfl rfl (X.gb_mapK 9 rfl rfl (fun _ => rfl) (fun _ => rfl) gb_nil))))))))
 rintro ⟨x3, m3, fresh1⟩ b_1 hM hc_1 hr_1
 rw [arbiter_proposable_b1] at hM
 refine X.sq (X.q rfl (GS.opsNil (GS.seq ?_)))
 refine X.cond rfl (fun h_2 => ?_) (fun h_2 => ?_)
 ·replace hM := ite_t h_2 hM
  refine GS.skip (GS.seq ?_)
  refine X.join (τ := (List (Int × Bool)) × Int) (fun v => arbiter_proposable_j2 x3 v.1 v.2 = some b_1) (fun v => ⟨[(0, (V.yld 6)), (2, (V.fptr [(V.i ((arbiter_promises l round).2))] 0 0)), (4, (V.map 7)), (8, (V.sl (List.map e_api_Letter ((arbiter_promises l round).1)))), (9, (V.i (((arbiter_promises l round).1).length : Int))), (10, (V.i x3))], [.rows 1 [(e_api_Court c)], .rows 1 [(V.sl (List.map e_api_Letter l))], .rows 1 [(V.i round)], .rows 1 [(V.i n)], .rows 1 [(V.b false)], .rows 1 [(V.i v.2)], lr R_1 .ready none, .map (List.map (fun p : Int × Bool => V.i p.1) v.1) (List.map (fun p : Int × Bool => V.b p.2) v.1)], 0, none, 37⟩) ?_ ?_
  ·rintro ⟨m, fresh⟩ hM
   replace hM : arbiter_proposable_j2 x3 m fresh = some b_1 := hM
   unfold arbiter_proposable_j2 at hM
   refine GS.region ?_
   refine X.opR rfl (X.addE rfl rfl) rfl (X.q rfl (GS.opsNil ?_))
   have hE := Option.some.inj hM
   exact X.gc [some 7] (hc_1 (w64 (x3 + 1), m, fresh) hE.symm) rfl rfl rfl (ga rfl rfl) (gb9 rfl rfl rfl (gb9 rfl rfl rfl (gb9 rfl rfl rfl (gb9 rfl rfl rfl (gb9 rfl rfl rfl (gb9 rfl rfl rfl (gb_loop hlow_1 rfl rfl rfl (X.gb_mapK 9 rfl rfl (fun _ => rfl) (fun _ => rfl) gb_nil))))))))
  intro hj_2
  refine GS.block (GS.seq ?_)
  obtain ⟨x, h_3, hM⟩ := bind_of hM
  refine GS.region ?_
  refine X.opR rfl (X.indexF (f := e_api_Letter) h_3 (fun _ => rfl) rfl rfl rfl rfl) rfl ?_
  refine X.opR rfl (X.loadF h_3 rfl rfl rfl) rfl ?_
  refine X.opW (H' := [.rows 1 [(e_api_Court c)], .rows 1 [(V.sl (List.map e_api_Letter l))], .rows 1 [(V.i round)], .rows 1 [(V.i n)], .rows 1 [(V.b false)], .rows 1 [(V.i fresh1)], lr R_1 .ready none, .map (List.map (fun p : Int × Bool => V.i p.1) m3) (List.map (fun p : Int × Bool => V.b p.2) m3), .rows 8 [(V.agg [(V.i 0), (V.i 0), (V.i 0), (V.i 0), (V.i 0), (V.i 0), (V.i 0), (V.i 0)])]]) rfl rfl rfl rfl ?_
  refine X.op0W (H' := [.rows 1 [(e_api_Court c)], .rows 1 [(V.sl (List.map e_api_Letter l))], .rows 1 [(V.i round)], .rows 1 [(V.i n)], .rows 1 [(V.b false)], .rows 1 [(V.i fresh1)], lr R_1 .ready none, .map (List.map (fun p : Int × Bool => V.i p.1) m3) (List.map (fun p : Int × Bool => V.b p.2) m3), .rows 8 [(e_api_Letter x)]]) rfl rfl rfl (GS.opsNil (GS.seq (X.sq ?_)))
  refine X.mid [(0, (V.yld 6)), (2, (V.fptr [(V.i ((arbiter_promises l round).2))] 0 0)), (4, (V.map 7)), (6, (V.ptr 8 0 0)), (8, (V.sl (List.map e_api_Letter ((arbiter_promises l round).1)))), (9, (V.i (((arbiter_promises l round).1).length : Int))), (10, (V.i x3)), (28, (V.b (((!decide (x.Kind = 2)) || (!decide (x.Round = ((arbiter_promises l round).2)))) || ((lookM x.From m3).getD false))))] ?_ ?_
  ·intro hg
   refine X.split (!decide (x.Kind = 2)) (fun h_4 => ?_) (fun h_4 => ?_)
   ·iterate 4 refine X.q rfl ?_
    iterate 4 refine X.off (X.off_f rfl rfl rfl h_4) rfl ?_
    refine X.opR rfl (X.pickor_t (y := !decide (x.Round = ((arbiter_promises l round).2))) rfl h_4 rfl) rfl (X.q rfl ?_)
    iterate 4 refine X.off (X.off_f rfl rfl rfl (X.or_tt h_4)) rfl ?_
    refine X.opR rfl (X.pickor_t (y := ((lookM x.From m3).getD false)) rfl (X.or_tt h_4) rfl) rfl (GS.opsNil ?_)
    exact X.norm _ hg rfl (sr rfl)
   refine X.split (((!decide (x.Kind = 2)) || (!decide (x.Round = ((arbiter_promises l round).2))))) (fun h_5 => ?_) (fun h_5 => ?_)
   ·iterate 4 refine X.q rfl ?_
    iterate 4 refine X.opR (X.on_f rfl rfl rfl h_4) rfl rfl ?_
    refine X.opR rfl (X.pickor_f (y := !decide (x.Round = ((arbiter_promises l round).2))) rfl h_4 rfl) rfl (X.q rfl ?_)
    iterate 4 refine X.off (X.off_f rfl rfl rfl h_5) rfl ?_
    refine X.opR rfl (X.pickor_t (y := ((lookM x.From m3).getD false)) rfl h_5 rfl) rfl (GS.opsNil ?_)
    exact X.norm _ hg rfl (sr rfl)
   iterate 4 refine X.q rfl ?_
   iterate 4 refine X.opR (X.on_f rfl rfl rfl h_4) rfl rfl ?_
   refine X.opR rfl (X.pickor_f (y := !decide (x.Round = ((arbiter_promises l round).2))) rfl h_4 rfl) rfl (X.q rfl ?_)
   iterate 3 refine X.opR (X.on_f rfl rfl rfl h_5) rfl rfl ?_
   refine X.opR (X.on_f rfl rfl rfl h_5) (X.lookW (f := V.i) (g := V.b) (k := x.From) (l := m3) (z := false) (ok := false) X.keyEq_i rfl rfl rfl rfl rfl rfl) rfl ?_
   refine X.opR rfl (X.pickor_f (y := ((lookM x.From m3).getD false)) rfl h_5 rfl) rfl (GS.opsNil ?_)
   exact X.norm _ hg rfl (sr rfl)
  refine X.cond rfl (fun h_6 => ?_) (fun h_6 => ?_)
  ·replace hM := ite_t h_6 hM
   refine GS.exit rfl ?_
   exact X.gc [some 7] (hj_2 (m3, fresh1) hM) rfl rfl rfl (ga rfl rfl) (gb9 rfl rfl rfl (gb9 rfl rfl rfl (gb9 rfl rfl rfl (gb9 rfl rfl rfl (gb9 rfl rfl rfl (gb9 rfl rfl rfl (gb_loop hlow_1 rfl rfl rfl (X.gb_mapK 9 rfl rfl (fun _ => rfl) (fun _ => rfl) gb_nil))))))))
  replace hM := ite_f h_6 hM
  refine GS.skip (X.sq (X.q rfl (X.q rfl (X.q rfl ?_))))
  refine X.op0W (H' := [.rows 1 [(e_api_Court c)], .rows 1 [(V.sl (List.map e_api_Letter l))], .rows 1 [(V.i round)], .rows 1 [(V.i n)], .rows 1 [(V.b false)], .rows 1 [(V.i fresh1)], lr R_1 .ready none, .map (List.map (fun p : Int × Bool => V.i p.1) (putM posI m3 x.From true)) (List.map (fun p : Int × Bool => V.b p.2) (putM posI m3 x.From true)), .rows 8 [(e_api_Letter x)]]) rfl (X.putW (f := V.i) (g := V.b) (pos := posI) (k := x.From) (v := true) (l := m3) X.keyEq_i (X.posI_ok _) rfl rfl rfl rfl rfl rfl rfl) rfl (X.nq ?_)
  refine X.q rfl (X.q rfl ?_)
  refine X.yld hrn_1 hrK_1 hrp_1 hra_1 hrb_1 rfl rfl rfl rfl rfl rfl (GS.region ?_)
  refine X.opW (H' := [.rows 1 [(e_api_Court c)], .rows 1 [(V.sl (List.map e_api_Letter l))], .rows 1 [(V.i round)], .rows 1 [(V.i n)], .rows 1 [(V.b false)], .rows 1 [(V.i fresh1)], lr R_1 .ready none, .map (List.map (fun p : Int × Bool => V.i p.1) (putM posI m3 x.From true)) (List.map (fun p : Int × Bool => V.b p.2) (putM posI m3 x.From true)), .rows 8 [(e_api_Letter x)], .rows 8 [(V.agg [(V.i 0), (V.i 0), (V.i 0), (V.i 0), (V.i 0), (V.i 0), (V.i 0), (V.i 0)])]]) rfl rfl rfl rfl ?_
  refine X.op0W (H' := [.rows 1 [(e_api_Court c)], .rows 1 [(V.sl (List.map e_api_Letter l))], .rows 1 [(V.i round)], .rows 1 [(V.i n)], .rows 1 [(V.b false)], .rows 1 [(V.i fresh1)], lr R_1 .ready none, .map (List.map (fun p : Int × Bool => V.i p.1) (putM posI m3 x.From true)) (List.map (fun p : Int × Bool => V.b p.2) (putM posI m3 x.From true)), .rows 8 [(e_api_Letter x)], .rows 8 [(e_api_Letter x)]]) rfl rfl rfl (GS.opsNil ?_)
  refine GS.nil (X.begin' rfl rfl ?_ rfl)
  refine GS.block (GS.seq (X.sq (X.q rfl (X.q rfl (X.q rfl ?_)))))
  refine GS.opsNil ?_
  refine X.cond rfl (fun h_7 => ?_) (fun h_7 => ?_)
  ·replace hM := ite_t h_7 hM
   refine X.sq (X.q rfl ?_)
   refine X.opR rfl (X.addE rfl rfl) rfl ?_
   refine X.op0W (H' := [.rows 1 [(e_api_Court c)], .rows 1 [(V.sl (List.map e_api_Letter l))], .rows 1 [(V.i round)], .rows 1 [(V.i n)], .rows 1 [(V.b false)], .rows 1 [(V.i (w64 (fresh1 + 1)))], lr R_1 .busy none, .map (List.map (fun p : Int × Bool => V.i p.1) (putM posI m3 x.From true)) (List.map (fun p : Int × Bool => V.b p.2) (putM posI m3 x.From true)), .rows 8 [(e_api_Letter x)], .rows 8 [(e_api_Letter x)]]) rfl rfl rfl (GS.opsNil ?_)
   refine GS.exit rfl ?_
   refine GS.nil ⟨_, rfl, ?_⟩
   refine X.norm (H' := [.rows 1 [(e_api_Court c)], .rows 1 [(V.sl (List.map e_api_Letter l))], .rows 1 [(V.i round)], .rows 1 [(V.i n)], .rows 1 [(V.b false)], .rows 1 [(V.i (w64 (fresh1 + 1)))], lr R_1 .ready none, .map (List.map (fun p : Int × Bool => V.i p.1) (putM posI m3 x.From true)) (List.map (fun p : Int × Bool => V.b p.2) (putM posI m3 x.From true)), .rows 8 [(e_api_Letter x)], .rows 8 [(e_api_Letter x)]]) [(0, (V.yld 6)), (2, (V.fptr [(V.i ((arbiter_promises l round).2))] 0 0)), (4, (V.map 7)), (8, (V.sl (List.map e_api_Letter ((arbiter_promises l round).1)))), (9, (V.i (((arbiter_promises l round).1).length : Int))), (10, (V.i x3)), (34, (V.b true))] ?_ rfl (sr rfl)
   refine X.q rfl (GS.opsNil ?_)
   refine GS.condF rfl (GS.skip ?_)
   refine GS.endB ?_
   exact X.gc [some 7] (hj_2 ((putM posI m3 x.From true), w64 (fresh1 + 1)) hM) rfl rfl rfl (ga rfl rfl) (gb9 rfl rfl rfl (gb9 rfl rfl rfl (gb9 rfl rfl rfl (gb9 rfl rfl rfl (gb9 rfl rfl rfl (gb9 rfl rfl rfl (gb_loop hlow_1 rfl rfl rfl (X.gb_mapK 9 rfl rfl (fun _ => rfl) (fun _ => rfl) gb_nil))))))))
  replace hM := ite_f h_7 hM
  refine GS.skip (X.sq ?_)
  refine X.opW (H' := [.rows 1 [(e_api_Court c)], .rows 1 [(V.sl (List.map e_api_Letter l))], .rows 1 [(V.i round)], .rows 1 [(V.i n)], .rows 1 [(V.b false)], .rows 1 [(V.i fresh1)], lr R_1 .busy none, .map (List.map (fun p : Int × Bool => V.i p.1) (putM posI m3 x.From true)) (List.map (fun p : Int × Bool => V.b p.2) (putM posI m3 x.From true)), .rows 8 [(e_api_Letter x)], .rows 8 [(e_api_Letter x)], .rows 1 [(V.i 0)]]) rfl rfl rfl rfl ?_
  refine X.op0W (H' := [.rows 1 [(e_api_Court c)], .rows 1 [(V.sl (List.map e_api_Letter l))], .rows 1 [(V.i round)], .rows 1 [(V.i n)], .rows 1 [(V.b false)], .rows 1 [(V.i fresh1)], lr R_1 .busy none, .map (List.map (fun p : Int × Bool => V.i p.1) (putM posI m3 x.From true)) (List.map (fun p : Int × Bool => V.b p.2) (putM posI m3 x.From true)), .rows 8 [(e_api_Letter x)], .rows 8 [(e_api_Letter x)], .rows 1 [(V.i 0)]]) rfl rfl rfl (GS.opsNil (GS.seq (X.sq ?_)))
  refine X.q rfl (X.q rfl ?_)
  refine X.call (ok_arbiter_promises l round) rfl rfl rfl (.cons (.shut (n := 9) rfl) (.cons (.shut (n := 9) rfl) .nil)) (GS.opsNil (GS.block ?_))
  refine X.gc [some 10] (H' := [.rows 1 [(e_api_Court c)], .rows 1 [(V.sl (List.map e_api_Letter l))], .rows 1 [(V.i round)], .rows 1 [(V.i n)], .rows 1 [(V.b false)], .rows 1 [(V.i fresh1)], lr R_1 .busy none, .map (List.map (fun p : Int × Bool => V.i p.1) (putM posI m3 x.From true)) (List.map (fun p : Int × Bool => V.b p.2) (putM posI m3 x.From true)), .dead, .rows 8 [(e_api_Letter x)], .rows 1 [(V.i 0)]]) (K' := [(4, (V.ptr 0 0 0)), (7, (V.ptr 3 0 0)), (8, (V.ptr 4 0 0)), (10, (V.ptr 9 0 0)), (11, (V.ptr 10 0 0)), (24, (V.fn 134 [(V.fptr [(V.sl (List.map e_api_Letter ((arbiter_promises l round).1)))] 0 0), (V.fptr [(V.i ((arbiter_promises l round).2))] 0 0)]))]) ?_ rfl rfl rfl (ga rfl rfl) (gb9 rfl rfl rfl (gb9 rfl rfl rfl (gb9 rfl rfl rfl (gb9 rfl rfl rfl (gb9 rfl rfl rfl (gb9 rfl rfl rfl (gb_loop hlow_1 rfl rfl rfl (X.gb_mapK 9 rfl rfl (fun _ => rfl) (fun _ => rfl) (gb_pad (gb9 rfl rfl rfl (gb9 rfl rfl rfl gb_nil)))))))))))
  refine X.range rfl rfl (lowK_cons ⟨9, rfl⟩ (lowK_cons ⟨9, rfl⟩ (lowK_cons ⟨9, rfl⟩ (lowK_cons ⟨9, rfl⟩ (lowK_cons ⟨9, rfl⟩ (lowK_cons ⟨9, rfl⟩ lowK_nil)))))) rfl ?_
  intro R_8 hrn_8 hrK_8 hrp_8 hra_8 hrb_8 hlow_8
  refine X.sq ?_
  refine X.opW (H' := [.rows 1 [(e_api_Court c)], .rows 1 [(V.sl (List.map e_api_Letter l))], .rows 1 [(V.i round)], .rows 1 [(V.i n)], .rows 1 [(V.b false)], .rows 1 [(V.i fresh1)], lr R_1 .busy none, .map (List.map (fun p : Int × Bool => V.i p.1) (putM posI m3 x.From true)) (List.map (fun p : Int × Bool => V.b p.2) (putM posI m3 x.From true)), .dead, .rows 8 [(e_api_Letter x)], .rows 1 [(V.i 0)], lr R_8 .ready none, .map (List.map (fun p : Int × Bool => V.i p.1) []) (List.map (fun p : Int × Bool => V.b p.2) [])]) rfl rfl rfl rfl ?_
  refine X.q rfl (X.nq (X.q rfl ?_))
  refine X.opR rfl (X.lenF rfl rfl rfl) rfl (X.q rfl (GS.opsNil (GS.block ?_)))
  refine X.gc [some 12] (X.loop (σ := (Int × (List (Int × Bool)) × Int)) (fun v => ⟨[(0, (V.yld 11)), (2, (V.fptr [(V.i ((arbiter_promises l round).2))] 0 0)), (4, (V.map 12)), (8, (V.sl (List.map e_api_Letter ((arbiter_promises l round).1)))), (9, (V.i (((arbiter_promises l round).1).length : Int))), (10, (V.i v.1))], [.rows 1 [(e_api_Court c)], .rows 1 [(V.sl (List.map e_api_Letter l))], .rows 1 [(V.i round)], .rows 1 [(V.i n)], .rows 1 [(V.b false)], .rows 1 [(V.i fresh1)], lr R_1 .busy none, .map (List.map (fun p : Int × Bool => V.i p.1) (putM posI m3 x.From true)) (List.map (fun p : Int × Bool => V.b p.2) (putM posI m3 x.From true)), .dead, .rows 8 [(e_api_Letter x)], .rows 1 [(V.i v.2.2)], lr R_8 .ready none, .map (List.map (fun p : Int × Bool => V.i p.1) v.2.1) (List.map (fun p : Int × Bool => V.b p.2) v.2.1)], 0, none, 37⟩) hM ?_ rfl) rfl rfl rfl (ga rfl rfl) (gb9 rfl rfl rfl (gb9 rfl rfl rfl (gb9 rfl rfl rfl (gb9 rfl rfl rfl (gb9 rfl rfl rfl (gb9 rfl rfl rfl (gb_loop hlow_1 rfl rfl rfl (X.gb_mapK 9 rfl rfl (fun _ => rfl) (fun _ => rfl) (gb_pad (gb9 rfl rfl rfl (gb9 rfl rfl rfl (gb_loop hlow_8 rfl rfl rfl (X.gb_mapK 9 rfl rfl (fun _ => rfl) (fun _ => rfl) gb_nil)))))))))))))
  rintro ⟨x2, m2, low2⟩ b_2 hM hc_3 hr_2
  rw [arbiter_proposable_b3] at hM
  refine X.sq (X.q rfl (GS.opsNil (GS.seq ?_)))
  refine X.cond rfl (fun h_9 => ?_) (fun h_9 => ?_)
  ·replace hM := ite_t h_9 hM
   refine GS.skip (GS.seq ?_)
   refine X.join (τ := (List (Int × Bool)) × Int) (fun v => arbiter_proposable_j4 x2 v.1 v.2 = some b_2) (fun v => ⟨[(0, (V.yld 11)), (2, (V.fptr [(V.i ((arbiter_promises l round).2))] 0 0)), (4, (V.map 12)), (8, (V.sl (List.map e_api_Letter ((arbiter_promises l round).1)))), (9, (V.i (((arbiter_promises l round).1).length : Int))), (10, (V.i x2))], [.rows 1 [(e_api_Court c)], .rows 1 [(V.sl (List.map e_api_Letter l))], .rows 1 [(V.i round)], .rows 1 [(V.i n)], .rows 1 [(V.b false)], .rows 1 [(V.i fresh1)], lr R_1 .busy none, .map (List.map (fun p : Int × Bool => V.i p.1) (putM posI m3 x.From true)) (List.map (fun p : Int × Bool => V.b p.2) (putM posI m3 x.From true)), .dead, .rows 8 [(e_api_Letter x)], .rows 1 [(V.i v.2)], lr R_8 .ready none, .map (List.map (fun p : Int × Bool => V.i p.1) v.1) (List.map (fun p : Int × Bool => V.b p.2) v.1)], 0, none, 37⟩) ?_ ?_
   ·rintro ⟨m1, low⟩ hM
    replace hM : arbiter_proposable_j4 x2 m1 low = some b_2 := hM
    unfold arbiter_proposable_j4 at hM
    refine GS.region ?_
    refine X.opR rfl (X.addE rfl rfl) rfl (X.q rfl (GS.opsNil ?_))
    have hE := Option.some.inj hM
    exact X.gc [some 12] (hc_3 (w64 (x2 + 1), m1, low) hE.symm) rfl rfl rfl (ga rfl rfl) (gb9 rfl rfl rfl (gb9 rfl rfl rfl (gb9 rfl rfl rfl (gb9 rfl rfl rfl (gb9 rfl rfl rfl (gb9 rfl rfl rfl (gb_loop hlow_1 rfl rfl rfl (X.gb_mapK 9 rfl rfl (fun _ => rfl) (fun _ => rfl) (gb_pad (gb9 rfl rfl rfl (gb9 rfl rfl rfl (gb_loop hlow_8 rfl rfl rfl (X.gb_mapK 9 rfl rfl (fun _ => rfl) (fun _ => rfl) gb_nil)))))))))))))
   intro hj_4
   refine GS.block (GS.seq ?_)
   obtain ⟨x1, h_10, hM⟩ := bind_of hM
   refine GS.region ?_
   refine X.opR rfl (X.indexF (f := e_api_Letter) h_10 (fun _ => rfl) rfl rfl rfl rfl) rfl ?_
   refine X.opR rfl (X.loadF h_10 rfl rfl rfl) rfl ?_
   refine X.opW (H' := [.rows 1 [(e_api_Court c)], .rows 1 [(V.sl (List.map e_api_Letter l))], .rows 1 [(V.i round)], .rows 1 [(V.i n)], .rows 1 [(V.b false)], .rows 1 [(V.i fresh1)], lr R_1 .busy none, .map (List.map (fun p : Int × Bool => V.i p.1) (putM posI m3 x.From true)) (List.map (fun p : Int × Bool => V.b p.2) (putM posI m3 x.From true)), .dead, .rows 8 [(e_api_Letter x)], .rows 1 [(V.i low2)], lr R_8 .ready none, .map (List.map (fun p : Int × Bool => V.i p.1) m2) (List.map (fun p : Int × Bool => V.b p.2) m2), .rows 8 [(V.agg [(V.i 0), (V.i 0), (V.i 0), (V.i 0), (V.i 0), (V.i 0), (V.i 0), (V.i 0)])]]) rfl rfl rfl rfl ?_
   refine X.op0W (H' := [.rows 1 [(e_api_Court c)], .rows 1 [(V.sl (List.map e_api_Letter l))], .rows 1 [(V.i round)], .rows 1 [(V.i n)], .rows 1 [(V.b false)], .rows 1 [(V.i fresh1)], lr R_1 .busy none, .map (List.map (fun p : Int × Bool => V.i p.1) (putM posI m3 x.From true)) (List.map (fun p : Int × Bool => V.b p.2) (putM posI m3 x.From true)), .dead, .rows 8 [(e_api_Letter x)], .rows 1 [(V.i low2)], lr R_8 .ready none, .map (List.map (fun p : Int × Bool => V.i p.1) m2) (List.map (fun p : Int × Bool => V.b p.2) m2), .rows 8 [(e_api_Letter x1)]]) rfl rfl rfl (GS.opsNil (GS.seq (X.sq ?_)))
   refine X.mid [(0, (V.yld 11)), (2, (V.fptr [(V.i ((arbiter_promises l round).2))] 0 0)), (4, (V.map 12)), (6, (V.ptr 13 0 0)), (8, (V.sl (List.map e_api_Letter ((arbiter_promises l round).1)))), (9, (V.i (((arbiter_promises l round).1).length : Int))), (10, (V.i x2)), (28, (V.b (((!decide (x1.Kind = 2)) || (!decide (x1.Round = ((arbiter_promises l round).2)))) || ((lookM x1.From m2).getD false))))] ?_ ?_
   ·intro hg
    refine X.split (!decide (x1.Kind = 2)) (fun h_11 => ?_) (fun h_11 => ?_)
    ·iterate 4 refine X.q rfl ?_
     iterate 4 refine X.off (X.off_f rfl rfl rfl h_11) rfl ?_
     refine X.opR rfl (X.pickor_t (y := !decide (x1.Round = ((arbiter_promises l round).2))) rfl h_11 rfl) rfl (X.q rfl ?_)
     iterate 4 refine X.off (X.off_f rfl rfl rfl (X.or_tt h_11)) rfl ?_
     refine X.opR rfl (X.pickor_t (y := ((lookM x1.From m2).getD false)) rfl (X.or_tt h_11) rfl) rfl (GS.opsNil ?_)
     exact X.norm _ hg rfl (sr rfl)
    refine X.split (((!decide (x1.Kind = 2)) || (!decide (x1.Round = ((arbiter_promises l round).2))))) (fun h_12 => ?_) (fun h_12 => ?_)
    ·iterate 4 refine X.q rfl ?_
     iterate 4 refine X.opR (X.on_f rfl rfl rfl h_11) rfl rfl ?_
     refine X.opR rfl (X.pickor_f (y := !decide (x1.Round = ((arbiter_promises l round).2))) rfl h_11 rfl) rfl (X.q rfl ?_)
     iterate 4 refine X.off (X.off_f rfl rfl rfl h_12) rfl ?_
     refine X.opR rfl (X.pickor_t (y := ((lookM x1.From m2).getD false)) rfl h_12 rfl) rfl (GS.opsNil ?_)
     exact X.norm _ hg rfl (sr rfl)
    iterate 4 refine X.q rfl ?_
    iterate 4 refine X.opR (X.on_f rfl rfl rfl h_11) rfl rfl ?_
    refine X.opR rfl (X.pickor_f (y := !decide (x1.Round = ((arbiter_promises l round).2))) rfl h_11 rfl) rfl (X.q rfl ?_)
    iterate 3 refine X.opR (X.on_f rfl rfl rfl h_12) rfl rfl ?_
    refine X.opR (X.on_f rfl rfl rfl h_12) (X.lookW (f := V.i) (g := V.b) (k := x1.From) (l := m2) (z := false) (ok := false) X.keyEq_i rfl rfl rfl rfl rfl rfl) rfl ?_
    refine X.opR rfl (X.pickor_f (y := ((lookM x1.From m2).getD false)) rfl h_12 rfl) rfl (GS.opsNil ?_)
    exact X.norm _ hg rfl (sr rfl)
   refine X.cond rfl (fun h_13 => ?_) (fun h_13 => ?_)
   ·replace hM := ite_t h_13 hM
    refine GS.exit rfl ?_
    exact X.gc [some 12] (hj_4 (m2, low2) hM) rfl rfl rfl (ga rfl rfl) (gb9 rfl rfl rfl (gb9 rfl rfl rfl (gb9 rfl rfl rfl (gb9 rfl rfl rfl (gb9 rfl rfl rfl (gb9 rfl rfl rfl (gb_loop hlow_1 rfl rfl rfl (X.gb_mapK 9 rfl rfl (fun _ => rfl) (fun _ => rfl) (gb_pad (gb9 rfl rfl rfl (gb9 rfl rfl rfl (gb_loop hlow_8 rfl rfl rfl (X.gb_mapK 9 rfl rfl (fun _ => rfl) (fun _ => rfl) gb_nil)))))))))))))
   replace hM := ite_f h_13 hM
   refine GS.skip (X.sq (X.q rfl (X.q rfl (X.q rfl ?_))))
   refine X.op0W (H' := [.rows 1 [(e_api_Court c)], .rows 1 [(V.sl (List.map e_api_Letter l))], .rows 1 [(V.i round)], .rows 1 [(V.i n)], .rows 1 [(V.b false)], .rows 1 [(V.i fresh1)], lr R_1 .busy none, .map (List.map (fun p : Int × Bool => V.i p.1) (putM posI m3 x.From true)) (List.map (fun p : Int × Bool => V.b p.2) (putM posI m3 x.From true)), .dead, .rows 8 [(e_api_Letter x)], .rows 1 [(V.i low2)], lr R_8 .ready none, .map (List.map (fun p : Int × Bool => V.i p.1) (putM posI m2 x1.From true)) (List.map (fun p : Int × Bool => V.b p.2) (putM posI m2 x1.From true)), .rows 8 [(e_api_Letter x1)]]) rfl (X.putW (f := V.i) (g := V.b) (pos := posI) (k := x1.From) (v := true) (l := m2) X.keyEq_i (X.posI_ok _) rfl rfl rfl rfl rfl rfl rfl) rfl (X.nq ?_)
   refine X.q rfl (X.q rfl ?_)
   refine X.yld hrn_8 hrK_8 hrp_8 hra_8 hrb_8 rfl rfl rfl rfl rfl rfl (GS.region ?_)
   refine X.opW (H' := [.rows 1 [(e_api_Court c)], .rows 1 [(V.sl (List.map e_api_Letter l))], .rows 1 [(V.i round)], .rows 1 [(V.i n)], .rows 1 [(V.b false)], .rows 1 [(V.i fresh1)], lr R_1 .busy none, .map (List.map (fun p : Int × Bool => V.i p.1) (putM posI m3 x.From true)) (List.map (fun p : Int × Bool => V.b p.2) (putM posI m3 x.From true)), .dead, .rows 8 [(e_api_Letter x)], .rows 1 [(V.i low2)], lr R_8 .ready none, .map (List.map (fun p : Int × Bool => V.i p.1) (putM posI m2 x1.From true)) (List.map (fun p : Int × Bool => V.b p.2) (putM posI m2 x1.From true)), .rows 8 [(e_api_Letter x1)], .rows 8 [(V.agg [(V.i 0), (V.i 0), (V.i 0), (V.i 0), (V.i 0), (V.i 0), (V.i 0), (V.i 0)])]]) rfl rfl rfl rfl ?_
   refine X.op0W (H' := [.rows 1 [(e_api_Court c)], .rows 1 [(V.sl (List.map e_api_Letter l))], .rows 1 [(V.i round)], .rows 1 [(V.i n)], .rows 1 [(V.b false)], .rows 1 [(V.i fresh1)], lr R_1 .busy none, .map (List.map (fun p : Int × Bool => V.i p.1) (putM posI m3 x.From true)) (List.map (fun p : Int × Bool => V.b p.2) (putM posI m3 x.From true)), .dead, .rows 8 [(e_api_Letter x)], .rows 1 [(V.i low2)], lr R_8 .ready none, .map (List.map (fun p : Int × Bool => V.i p.1) (putM posI m2 x1.From true)) (List.map (fun p : Int × Bool => V.b p.2) (putM posI m2 x1.From true)), .rows 8 [(e_api_Letter x1)], .rows 8 [(e_api_Letter x1)]]) rfl rfl rfl (GS.opsNil ?_)
   refine GS.nil (X.begin' rfl rfl ?_ rfl)
   refine GS.block (X.sq ?_)
   iterate 5 refine X.q rfl ?_
   refine GS.opsNil ?_
   refine X.join (τ := Int) (fun v => arbiter_proposable_j5 x2 m2 x1 v = some b_2) (fun v => ⟨[], [.rows 1 [(e_api_Court c)], .rows 1 [(V.sl (List.map e_api_Letter l))], .rows 1 [(V.i round)], .rows 1 [(V.i n)], .rows 1 [(V.b false)], .rows 1 [(V.i fresh1)], lr R_1 .busy none, .map (List.map (fun p : Int × Bool => V.i p.1) (putM posI m3 x.From true)) (List.map (fun p : Int × Bool => V.b p.2) (putM posI m3 x.From true)), .dead, .rows 8 [(e_api_Letter x)], .rows 1 [(V.i v)], lr R_8 .busy none, .map (List.map (fun p : Int × Bool => V.i p.1) (putM posI m2 x1.From true)) (List.map (fun p : Int × Bool => V.b p.2) (putM posI m2 x1.From true)), .dead, .dead], 0, (some 11), 47⟩) ?_ ?_
   ·intro low1 hM
    replace hM : arbiter_proposable_j5 x2 m2 x1 low1 = some b_2 := hM
    unfold arbiter_proposable_j5 at hM
    refine GS.endB ?_
    refine GS.nil ⟨_, rfl, ?_⟩
    refine X.norm (H' := [.rows 1 [(e_api_Court c)], .rows 1 [(V.sl (List.map e_api_Letter l))], .rows 1 [(V.i round)], .rows 1 [(V.i n)], .rows 1 [(V.b false)], .rows 1 [(V.i fresh1)], lr R_1 .busy none, .map (List.map (fun p : Int × Bool => V.i p.1) (putM posI m3 x.From true)) (List.map (fun p : Int × Bool => V.b p.2) (putM posI m3 x.From true)), .dead, .rows 8 [(e_api_Letter x)], .rows 1 [(V.i low1)], lr R_8 .ready none, .map (List.map (fun p : Int × Bool => V.i p.1) (putM posI m2 x1.From true)) (List.map (fun p : Int × Bool => V.b p.2) (putM posI m2 x1.From true)), .dead, .dead]) [(0, (V.yld 11)), (2, (V.fptr [(V.i ((arbiter_promises l round).2))] 0 0)), (4, (V.map 12)), (8, (V.sl (List.map e_api_Letter ((arbiter_promises l round).1)))), (9, (V.i (((arbiter_promises l round).1).length : Int))), (10, (V.i x2)), (34, (V.b true))] ?_ rfl (sr rfl)
    refine X.q rfl (GS.opsNil ?_)
    refine GS.condF rfl (GS.skip ?_)
    refine GS.endB ?_
    exact X.gc [some 12] (hj_4 ((putM posI m2 x1.From true), low1) hM) rfl rfl rfl (ga rfl rfl) (gb9 rfl rfl rfl (gb9 rfl rfl rfl (gb9 rfl rfl rfl (gb9 rfl rfl rfl (gb9 rfl rfl rfl (gb9 rfl rfl rfl (gb_loop hlow_1 rfl rfl rfl (X.gb_mapK 9 rfl rfl (fun _ => rfl) (fun _ => rfl) (gb_pad (gb9 rfl rfl rfl (gb9 rfl rfl rfl (gb_loop hlow_8 rfl rfl rfl (X.gb_mapK 9 rfl rfl (fun _ => rfl) (fun _ => rfl) gb_nil)))))))))))))
   intro hj_5
   refine X.cond rfl (fun h_14 => ?_) (fun h_14 => ?_)
   ·replace hM := ite_t h_14 hM
    refine GS.region (X.q rfl ?_)
    refine X.opR rfl (X.addE rfl rfl) rfl ?_
    refine X.op0W (H' := [.rows 1 [(e_api_Court c)], .rows 1 [(V.sl (List.map e_api_Letter l))], .rows 1 [(V.i round)], .rows 1 [(V.i n)], .rows 1 [(V.b false)], .rows 1 [(V.i fresh1)], lr R_1 .busy none, .map (List.map (fun p : Int × Bool => V.i p.1) (putM posI m3 x.From true)) (List.map (fun p : Int × Bool => V.b p.2) (putM posI m3 x.From true)), .dead, .rows 8 [(e_api_Letter x)], .rows 1 [(V.i (w64 (low2 + 1)))], lr R_8 .busy none, .map (List.map (fun p : Int × Bool => V.i p.1) (putM posI m2 x1.From true)) (List.map (fun p : Int × Bool => V.b p.2) (putM posI m2 x1.From true)), .rows 8 [(e_api_Letter x1)], .rows 8 [(e_api_Letter x1)]]) rfl rfl rfl (GS.opsNil ?_)
    exact X.gc [] (hj_5 (w64 (low2 + 1)) hM) rfl rfl rfl (gk_nil) (gb9 rfl rfl rfl (gb9 rfl rfl rfl (gb9 rfl rfl rfl (gb9 rfl rfl rfl (gb9 rfl rfl rfl (gb9 rfl rfl rfl (gb_loop hlow_1 rfl rfl rfl (X.gb_mapK 9 rfl rfl (fun _ => rfl) (fun _ => rfl) (gb_pad (gb9 rfl rfl rfl (gb9 rfl rfl rfl (gb_loop hlow_8 rfl rfl rfl (X.gb_mapK 9 rfl rfl (fun _ => rfl) (fun _ => rfl) (gb_pad (gb_pad gb_nil)))))))))))))))
   replace hM := ite_f h_14 hM
   refine GS.skip ?_
   exact X.gc [] (hj_5 low2 hM) rfl rfl rfl (gk_nil) (gb9 rfl rfl rfl (gb9 rfl rfl rfl (gb9 rfl rfl rfl (gb9 rfl rfl rfl (gb9 rfl rfl rfl (gb9 rfl rfl rfl (gb_loop hlow_1 rfl rfl rfl (X.gb_mapK 9 rfl rfl (fun _ => rfl) (fun _ => rfl) (gb_pad (gb9 rfl rfl rfl (gb9 rfl rfl rfl (gb_loop hlow_8 rfl rfl rfl (X.gb_mapK 9 rfl rfl (fun _ => rfl) (fun _ => rfl) (gb_pad (gb_pad gb_nil)))))))))))))))
  replace hM := ite_f h_9 hM
  refine GS.exit rfl ?_
  refine GS.nil ⟨_, _, rfl, rfl, ?_⟩
  refine X.norm (H' := [.rows 1 [(e_api_Court c)], .rows 1 [(V.sl (List.map e_api_Letter l))], .rows 1 [(V.i round)], .rows 1 [(V.i n)], .rows 1 [(V.b false)], .rows 1 [(V.i fresh1)], lr R_1 .busy none, .map (List.map (fun p : Int × Bool => V.i p.1) (putM posI m3 x.From true)) (List.map (fun p : Int × Bool => V.b p.2) (putM posI m3 x.From true)), .dead, .rows 8 [(e_api_Letter x)], .rows 1 [(V.i low2)], .dead, .map (List.map (fun p : Int × Bool => V.i p.1) m2) (List.map (fun p : Int × Bool => V.b p.2) m2)]) [(4, (V.ptr 0 0 0)), (7, (V.ptr 3 0 0)), (8, (V.ptr 4 0 0)), (10, (V.ptr 9 0 0)), (11, (V.ptr 10 0 0)), (24, (V.fn 134 [(V.fptr [(V.sl (List.map e_api_Letter ((arbiter_promises l round).1)))] 0 0), (V.fptr [(V.i ((arbiter_promises l round).2))] 0 0)]))] ?_ rfl (sr rfl)
  refine GS.endB (GS.seq ?_)
  obtain ⟨y, h_15, hM⟩ := gb_of hM
  refine X.mid [(8, (V.ptr 4 0 0)), (42, (V.b ((decide (x.Finding = n)) && (decide (y ≤ low2)))))] ?_ ?_
  ·intro hg
   refine X.split (decide (x.Finding = n)) (fun h_16 => ?_) (fun h_16 => ?_)
   ·refine X.drawc (by kernel_rfl) rfl ?_
    iterate 5 refine X.cop rfl rfl rfl rfl ?_
    iterate 2 refine X.cop (X.on_t rfl rfl rfl h_16) rfl rfl rfl ?_
    refine X.ccall (ok_arbiter_Majority (h_15 h_16)) (X.on_t rfl rfl rfl h_16) rfl rfl rfl (.cons (.shut (n := 9) rfl) .nil) ?_
    refine X.cop (X.on_t rfl rfl rfl h_16) rfl rfl rfl ?_
    refine X.cop rfl (X.pickand_t (y := decide (y ≤ low2)) rfl h_16 rfl) rfl rfl ?_
    refine X.cnil ?_
    exact X.norm _ hg rfl (sr rfl)
   refine X.drawc (by kernel_rfl) rfl ?_
   iterate 5 refine X.cop rfl rfl rfl rfl ?_
   iterate 4 refine X.coff (X.off_t rfl rfl rfl h_16) rfl rfl ?_
   refine X.cop rfl (X.pickand_f (y := decide (y ≤ low2)) rfl h_16 rfl) rfl rfl ?_
   refine X.cnil ?_
   exact X.norm _ hg rfl (sr rfl)
  refine X.cond rfl (fun h_17 => ?_) (fun h_17 => ?_)
  ·replace hM := ite_t h_17 hM
   refine X.sq ?_
   refine X.op0W (H' := [.rows 1 [(e_api_Court c)], .rows 1 [(V.sl (List.map e_api_Letter l))], .rows 1 [(V.i round)], .rows 1 [(V.i n)], .rows 1 [(V.b true)], .rows 1 [(V.i fresh1)], lr R_1 .busy none, .map (List.map (fun p : Int × Bool => V.i p.1) (putM posI m3 x.From true)) (List.map (fun p : Int × Bool => V.b p.2) (putM posI m3 x.From true)), .dead, .rows 8 [(e_api_Letter x)], .rows 1 [(V.i low2)], .dead, .map (List.map (fun p : Int × Bool => V.i p.1) m2) (List.map (fun p : Int × Bool => V.b p.2) m2)]) rfl rfl rfl (GS.opsNil ?_)
   refine GS.ret ⟨_, rfl, ?_⟩
   refine X.norm (H' := [.rows 1 [(e_api_Court c)], .rows 1 [(V.sl (List.map e_api_Letter l))], .rows 1 [(V.i round)], .rows 1 [(V.i n)], .rows 1 [(V.b true)], .rows 1 [(V.i fresh1)], lr R_1 .done (some .ret), .map (List.map (fun p : Int × Bool => V.i p.1) (putM posI m3 x.From true)) (List.map (fun p : Int × Bool => V.b p.2) (putM posI m3 x.From true)), .dead, .rows 8 [(e_api_Letter x)], .rows 1 [(V.i low2)], .dead, .map (List.map (fun p : Int × Bool => V.i p.1) m2) (List.map (fun p : Int × Bool => V.b p.2) m2)]) [(0, (V.yld 6)), (2, (V.fptr [(V.i ((arbiter_promises l round).2))] 0 0)), (4, (V.map 7)), (8, (V.sl (List.map e_api_Letter ((arbiter_promises l round).1)))), (9, (V.i (((arbiter_promises l round).1).length : Int))), (10, (V.i x3)), (34, (V.b false))] ?_ rfl (sr rfl)
   refine X.q rfl (GS.opsNil ?_)
   refine GS.condT rfl ?_
   refine GS.ret ⟨_, _, rfl, rfl, ?_⟩
   refine X.norm (H' := [.rows 1 [(e_api_Court c)], .rows 1 [(V.sl (List.map e_api_Letter l))], .rows 1 [(V.i round)], .rows 1 [(V.i n)], .rows 1 [(V.b true)], .rows 1 [(V.i fresh1)], .dead, .map (List.map (fun p : Int × Bool => V.i p.1) (putM posI m3 x.From true)) (List.map (fun p : Int × Bool => V.b p.2) (putM posI m3 x.From true)), .dead, .rows 8 [(e_api_Letter x)], .rows 1 [(V.i low2)], .dead, .map (List.map (fun p : Int × Bool => V.i p.1) m2) (List.map (fun p : Int × Bool => V.b p.2) m2)]) [(4, (V.ptr 0 0 0)), (5, (V.ptr 1 0 0)), (6, (V.ptr 2 0 0)), (7, (V.ptr 3 0 0)), (8, (V.ptr 4 0 0)), (9, (V.ptr 5 0 0)), (15, (V.fn 134 [(V.fptr [(V.sl (List.map e_api_Letter ((arbiter_promises l round).1)))] 0 0), (V.fptr [(V.i ((arbiter_promises l round).2))] 0 0)]))] ?_ rfl (sr rfl)
   have hE := Option.some.inj hM
   replace hE := hr_2 _ hE.symm
   replace hE := hr_1 _ hE.symm
   subst hE
   exact GS.ret ⟨_, rfl, ⟨30, rfl⟩⟩
  replace hM := ite_f h_17 hM
  refine GS.skip ?_
  refine GS.endB ?_
  refine GS.nil ⟨_, rfl, ?_⟩
  refine X.norm (H' := [.rows 1 [(e_api_Court c)], .rows 1 [(V.sl (List.map e_api_Letter l))], .rows 1 [(V.i round)], .rows 1 [(V.i n)], .rows 1 [(V.b false)], .rows 1 [(V.i fresh1)], lr R_1 .ready none, .map (List.map (fun p : Int × Bool => V.i p.1) (putM posI m3 x.From true)) (List.map (fun p : Int × Bool => V.b p.2) (putM posI m3 x.From true)), .dead, .rows 8 [(e_api_Letter x)], .rows 1 [(V.i low2)], .dead, .map (List.map (fun p : Int × Bool => V.i p.1) m2) (List.map (fun p : Int × Bool => V.b p.2) m2)]) [(0, (V.yld 6)), (2, (V.fptr [(V.i ((arbiter_promises l round).2))] 0 0)), (4, (V.map 7)), (8, (V.sl (List.map e_api_Letter ((arbiter_promises l round).1)))), (9, (V.i (((arbiter_promises l round).1).length : Int))), (10, (V.i x3)), (34, (V.b true))] ?_ rfl (sr rfl)
  refine X.q rfl (GS.opsNil ?_)
  refine GS.condF rfl (GS.skip ?_)
  refine GS.endB ?_
  obtain ⟨y_2, hM, hy⟩ := map_of hM
  rw [hr_2 _ hy.symm] at hM
  exact X.gc [some 7] (hj_2 ((putM posI m3 x.From true), fresh1) hM) rfl rfl rfl (ga rfl rfl) (gb9 rfl rfl rfl (gb9 rfl rfl rfl (gb9 rfl rfl rfl (gb9 rfl rfl rfl (gb9 rfl rfl rfl (gb9 rfl rfl rfl (gb_loop hlow_1 rfl rfl rfl (X.gb_mapK 9 rfl rfl (fun _ => rfl) (fun _ => rfl) gb_nil))))))))
 replace hM := ite_f h_2 hM
 refine GS.exit rfl ?_
 refine GS.nil ⟨_, _, rfl, rfl, ?_⟩
 refine X.norm (H' := [.rows 1 [(e_api_Court c)], .rows 1 [(V.sl (List.map e_api_Letter l))], .rows 1 [(V.i round)], .rows 1 [(V.i n)], .rows 1 [(V.b false)], .rows 1 [(V.i fresh1)], .dead, .map (List.map (fun p : Int × Bool => V.i p.1) m3) (List.map (fun p : Int × Bool => V.b p.2) m3)]) [(4, (V.ptr 0 0 0)), (5, (V.ptr 1 0 0)), (6, (V.ptr 2 0 0)), (7, (V.ptr 3 0 0)), (8, (V.ptr 4 0 0)), (9, (V.ptr 5 0 0)), (15, (V.fn 134 [(V.fptr [(V.sl (List.map e_api_Letter ((arbiter_promises l round).1)))] 0 0), (V.fptr [(V.i ((arbiter_promises l round).2))] 0 0)]))] ?_ rfl (sr rfl)
 refine GS.endB (GS.seq ?_)
 obtain ⟨y1, h_18, hM⟩ := bind_of hM
 refine X.draw (by kernel_rfl) ?_
 iterate 2 refine X.dop rfl rfl rfl rfl (by kernel_rfl) rfl rfl ?_
 refine X.dcall (ok_arbiter_Majority h_18) rfl rfl rfl (by kernel_rfl) rfl (.cons (.shut (n := 9) rfl) .nil) ?_
 refine X.dop rfl rfl rfl rfl (by kernel_rfl) rfl rfl ?_
 refine X.dop0 rfl rfl rfl rfl (by kernel_rfl) rfl ?_
 refine X.dnil ?_
 refine X.norm [(8, (V.ptr 4 0 0))] ?_ rfl (sr rfl)
 have hE := Option.some.inj hM
 replace hE := hr_1 _ hE.symm
 subst hE
 exact GS.ret ⟨_, rfl, ⟨30, rfl⟩⟩
theorem ok_arbiter_lawful_4 (y : api_Letter) (c : api_Letter) : Ct Try.prog 97 [(e_api_Letter y), (V.fptr [(e_api_Letter c)] 0 0)] (V.b (arbiter_lawful_4 y c)) := by
 refine ct_of_gs CC_ok rfl ?_
 generalize hM : arbiter_lawful_4 y c = r
 unfold arbiter_lawful_4 at hM
 refine X.sq ?_
 refine X.opW rfl rfl rfl rfl (X.q rfl (X.nq ?_))
 refine X.mid [(3, (V.b ((decide (y.Kind = 3)) && (decide (y.Round = c.Round)))))] ?_ ?_
 ·intro hg
  refine X.split (decide (y.Kind = 3)) (fun h_1 => ?_) (fun h_1 => ?_)
  ·iterate 4 refine X.q rfl ?_
   iterate 5 refine X.opR (X.on_t rfl rfl rfl h_1) rfl rfl ?_
   refine X.opR rfl (X.pickand_t (y := decide (y.Round = c.Round)) rfl h_1 rfl) rfl (X.q rfl (GS.opsNil ?_))
   exact X.norm _ hg rfl (sr rfl)
  iterate 4 refine X.q rfl ?_
  iterate 5 refine X.off (X.off_t rfl rfl rfl h_1) rfl ?_
  refine X.opR rfl (X.pickand_f (y := decide (y.Round = c.Round)) rfl h_1 rfl) rfl (X.q rfl (GS.opsNil ?_))
  exact X.norm _ hg rfl (sr rfl)
 subst hM
 exact GS.ret ⟨_, rfl, ⟨30, rfl⟩⟩
theorem ok_slices_IndexFunc_api_Letter__arbiter_lawful_4 {s : (List api_Letter)} {c : api_Letter} {r : Int} (hM : slices_IndexFunc_api_Letter__arbiter_lawful_4 s c = some r) : Ct Try.prog 67 [(V.sl (List.map e_api_Letter s)), (V.fn 97 [(V.fptr [(e_api_Letter c)] 0 0)])] (V.i r) := by
 refine ct_of_gs CC_ok rfl ?_
 unfold slices_IndexFunc_api_Letter__arbiter_lawful_4 at hM
 refine X.sq (X.q rfl (GS.opsNil (GS.seq (X.sq (X.q rfl ?_)))))
 refine X.opR rfl (X.lenF rfl rfl rfl) rfl (X.q rfl (GS.opsNil ?_))
 refine X.join (τ := Unit) (fun v => slices_IndexFunc_api_Letter__arbiter_lawful_4_j1 = some r) (fun v => ⟨[], [], 0, none, 19⟩) ?_ ?_
 ·intro _ hM
  replace hM : slices_IndexFunc_api_Letter__arbiter_lawful_4_j1 = some r := hM
  unfold slices_IndexFunc_api_Letter__arbiter_lawful_4_j1 at hM
  refine X.sq (X.q rfl (GS.opsNil ?_))
  cases hM
  exact GS.ret ⟨_, rfl, ⟨30, rfl⟩⟩
 intro hj_1
 refine GS.block ?_
 refine X.gc [] (X.loop (σ := Int) (fun v => ⟨[(0, (V.sl (List.map e_api_Letter s))), (1, (V.fn 97 [(V.fptr [(e_api_Letter c)] 0 0)])), (7, (V.i (s.length : Int))), (8, (V.i v))], [], 0, none, 19⟩) hM ?_ rfl) rfl rfl rfl (ga rfl rfl) (gb_nil)
 intro x1 b_1 hM hc_2 hr_1
 rw [slices_IndexFunc_api_Letter__arbiter_lawful_4_b2] at hM
 refine X.sq (X.q rfl (GS.opsNil (GS.seq ?_)))
 refine X.cond rfl (fun h_1 => ?_) (fun h_1 => ?_)
 ·replace hM := ite_t h_1 hM
  refine GS.skip (GS.seq (GS.block (X.sq (X.q rfl (X.q rfl ?_)))))
  refine GS.opsNil (GS.seq ?_)
  obtain ⟨x, h_2, hM⟩ := bind_of hM
  refine GS.region (X.q rfl (X.q rfl (X.q rfl ?_)))
  refine X.opR rfl (X.indexF (f := e_api_Letter) h_2 (fun _ => rfl) rfl rfl rfl rfl) rfl ?_
  refine X.opR rfl (X.loadF h_2 rfl rfl rfl) rfl ?_
  refine X.call (ok_arbiter_lawful_4 x c) rfl rfl rfl (.cons (.shut (n := 9) rfl) (.cons (.shut (n := 9) rfl) .nil)) (GS.opsNil ?_)
  refine X.cond rfl (fun h_3 => ?_) (fun h_3 => ?_)
  ·replace hM := ite_t h_3 hM
   refine X.sq (X.q rfl (X.q rfl ?_))
   refine GS.opsNil ?_
   have hE := Option.some.inj hM
   replace hE := hr_1 _ hE.symm
   subst hE
   exact GS.ret ⟨_, rfl, ⟨30, rfl⟩⟩
  replace hM := ite_f h_3 hM
  refine GS.skip ?_
  refine GS.endB (GS.region ?_)
  refine X.opR rfl (X.addE rfl rfl) rfl (X.q rfl (GS.opsNil ?_))
  have hE := Option.some.inj hM
  exact X.gc [] (hc_2 (w64 (x1 + 1)) hE.symm) rfl rfl rfl (ga rfl rfl) (gb_nil)
 replace hM := ite_f h_1 hM
 refine GS.exit rfl ?_
 obtain ⟨y_1, hM, hy⟩ := map_of hM
 rw [hr_1 _ hy.symm] at hM
 exact X.gc [] (hj_1 () hM) rfl rfl rfl (gk_nil) (gb_nil)
theorem ok_slices_ContainsFunc_api_Letter__arbiter_lawful_4 {s : (List api_Letter)} {c : api_Letter} {r : Bool} (hM : slices_ContainsFunc_api_Letter__arbiter_lawful_4 s c = some r) : Ct Try.prog 64 [(V.sl (List.map e_api_Letter s)), (V.fn 97 [(V.fptr [(e_api_Letter c)] 0 0)])] (V.b r) := by
 refine ct_of_gs CC_ok rfl ?_
 unfold slices_ContainsFunc_api_Letter__arbiter_lawful_4 at hM
 refine X.sq (X.q rfl (GS.opsNil (GS.seq ?_)))
 obtain ⟨y, h_1, hM⟩ := bind_of hM
 refine GS.region (X.q rfl (X.q rfl ?_))
 refine X.call (ok_slices_IndexFunc_api_Letter__arbiter_lawful_4 h_1) rfl rfl rfl (.cons (.shut (n := 9) rfl) (.cons (.shut (n := 9) rfl) .nil)) (X.q rfl (X.q rfl ?_))
 refine GS.opsNil ?_
 cases hM
 exact GS.ret ⟨_, rfl, ⟨30, rfl⟩⟩
theorem ok_arbiter_lawful_1__arbiter_lawful_4 {c : api_Letter} {c1 : (List api_Letter)} {r : Bool} (hM : arbiter_lawful_1__arbiter_lawful_4 c c1 = some r) : Ct Try.prog 93 [(V.fn 97 [(V.fptr [(e_api_Letter c)] 0 0)]), (V.fptr [(V.sl (List.map e_api_Letter c1))] 0 0)] (V.b r) := by
 refine ct_of_gs CC_ok rfl ?_
 unfold arbiter_lawful_1__arbiter_lawful_4 at hM
 refine X.sq (X.q rfl (GS.opsNil (GS.seq ?_)))
 obtain ⟨y, h_1, hM⟩ := bind_of hM
 refine GS.region (X.q rfl (X.q rfl ?_))
 refine X.call (ok_slices_ContainsFunc_api_Letter__arbiter_lawful_4 h_1) rfl rfl rfl (.cons (.shut (n := 9) rfl) (.cons (.shut (n := 9) rfl) .nil)) (X.q rfl (GS.opsNil ?_))
 cases hM
 exact GS.ret ⟨_, rfl, ⟨30, rfl⟩⟩
theorem ok_arbiter_lawful_5 (y : api_Letter) (c : api_Letter) : Ct Try.prog 98 [(e_api_Letter y), (V.fptr [(e_api_Letter c)] 0 0)] (V.b (arbiter_lawful_5 y c)) := by
 refine ct_of_gs CC_ok rfl ?_
 generalize hM : arbiter_lawful_5 y c = r
 unfold arbiter_lawful_5 at hM
 refine X.sq ?_
 refine X.opW rfl rfl rfl rfl (X.q rfl (X.nq ?_))
 refine X.mid [(3, (V.b (((decide (y.Kind = 3)) && (decide (y.Round = c.Round))) && (decide (y.Finding = c.Finding)))))] ?_ ?_
 ·intro hg
  refine X.split (decide (y.Kind = 3)) (fun h_1 => ?_) (fun h_1 => ?_)
  ·refine X.split (((decide (y.Kind = 3)) && (decide (y.Round = c.Round)))) (fun h_2 => ?_) (fun h_2 => ?_)
   ·iterate 4 refine X.q rfl ?_
    iterate 5 refine X.opR (X.on_t rfl rfl rfl h_1) rfl rfl ?_
    refine X.opR rfl (X.pickand_t (y := decide (y.Round = c.Round)) rfl h_1 rfl) rfl (X.q rfl ?_)
    iterate 5 refine X.opR (X.on_t rfl rfl rfl h_2) rfl rfl ?_
    refine X.opR rfl (X.pickand_t (y := decide (y.Finding = c.Finding)) rfl h_2 rfl) rfl (X.q rfl (GS.opsNil ?_))
    exact X.norm _ hg rfl (sr rfl)
   iterate 4 refine X.q rfl ?_
   iterate 5 refine X.opR (X.on_t rfl rfl rfl h_1) rfl rfl ?_
   refine X.opR rfl (X.pickand_t (y := decide (y.Round = c.Round)) rfl h_1 rfl) rfl (X.q rfl ?_)
   iterate 5 refine X.off (X.off_t rfl rfl rfl h_2) rfl ?_
   refine X.opR rfl (X.pickand_f (y := decide (y.Finding = c.Finding)) rfl h_2 rfl) rfl (X.q rfl (GS.opsNil ?_))
   exact X.norm _ hg rfl (sr rfl)
  iterate 4 refine X.q rfl ?_
  iterate 5 refine X.off (X.off_t rfl rfl rfl h_1) rfl ?_
  refine X.opR rfl (X.pickand_f (y := decide (y.Round = c.Round)) rfl h_1 rfl) rfl (X.q rfl ?_)
  iterate 5 refine X.off (X.off_t rfl rfl rfl (X.and_ff h_1)) rfl ?_
  refine X.opR rfl (X.pickand_f (y := decide (y.Finding = c.Finding)) rfl (X.and_ff h_1) rfl) rfl (X.q rfl (GS.opsNil ?_))
  exact X.norm _ hg rfl (sr rfl)
 subst hM
 exact GS.ret ⟨_, rfl, ⟨30, rfl⟩⟩
theorem ok_slices_IndexFunc_api_Letter__arbiter_lawful_5 {s : (List api_Letter)} {c : api_Letter} {r : Int} (hM : slices_IndexFunc_api_Letter__arbiter_lawful_5 s c = some r) : Ct Try.prog 67 [(V.sl (List.map e_api_Letter s)), (V.fn 98 [(V.fptr [(e_api_Letter c)] 0 0)])] (V.i r) := by
 refine ct_of_gs CC_ok rfl ?_
 unfold slices_IndexFunc_api_Letter__arbiter_lawful_5 at hM
 refine X.sq (X.q rfl (GS.opsNil (GS.seq (X.sq (X.q rfl ?_)))))
 refine X.opR rfl (X.lenF rfl rfl rfl) rfl (X.q rfl (GS.opsNil ?_))
 refine X.join (τ := Unit) (fun v => slices_IndexFunc_api_Letter__arbiter_lawful_5_j1 = some r) (fun v => ⟨[], [], 0, none, 19⟩) ?_ ?_
 ·intro _ hM
  replace hM : slices_IndexFunc_api_Letter__arbiter_lawful_5_j1 = some r := hM
  unfold slices_IndexFunc_api_Letter__arbiter_lawful_5_j1 at hM
  refine X.sq (X.q rfl (GS.opsNil ?_))
  cases hM
  exact GS.ret ⟨_, rfl, ⟨30, rfl⟩⟩
 intro hj_1
 refine GS.block ?_
 refine X.gc [] (X.loop (σ := Int) (fun v => ⟨[(0, (V.sl (List.map e_api_Letter s))), (1, (V.fn 98 [(V.fptr [(e_api_Letter c)] 0 0)])), (7, (V.i (s.length : Int))), (8, (V.i v))], [], 0, none, 19⟩) hM ?_ rfl) rfl rfl rfl (ga rfl rfl) (gb_nil)
 intro x1 b_1 hM hc_2 hr_1
 rw [slices_IndexFunc_api_Letter__arbiter_lawful_5_b2] at hM
 refine X.sq (X.q rfl (GS.opsNil (GS.seq ?_)))
 refine X.cond rfl (fun h_1 => ?_) (fun h_1 => ?_)
 ·replace hM := ite_t h_1 hM
  refine GS.skip (GS.seq (GS.block (X.sq (X.q rfl (X.q rfl ?_)))))
  refine GS.opsNil (GS.seq ?_)
  obtain ⟨x, h_2, hM⟩ := bind_of hM
  refine GS.region (X.q rfl (X.q rfl (X.q rfl ?_)))
  refine X.opR rfl (X.indexF (f := e_api_Letter) h_2 (fun _ => rfl) rfl rfl rfl rfl) rfl ?_
  refine X.opR rfl (X.loadF h_2 rfl rfl rfl) rfl ?_
  refine X.call (ok_arbiter_lawful_5 x c) rfl rfl rfl (.cons (.shut (n := 9) rfl) (.cons (.shut (n := 9) rfl) .nil)) (GS.opsNil ?_)
  refine X.cond rfl (fun h_3 => ?_) (fun h_3 => ?_)
  ·replace hM := ite_t h_3 hM
   refine X.sq (X.q rfl (X.q rfl ?_))
   refine GS.opsNil ?_
   have hE := Option.some.inj hM
   replace hE := hr_1 _ hE.symm
   subst hE
   exact GS.ret ⟨_, rfl, ⟨30, rfl⟩⟩
  replace hM := ite_f h_3 hM
  refine GS.skip ?_
  refine GS.endB (GS.region ?_)
  refine X.opR rfl (X.addE rfl rfl) rfl (X.q rfl (GS.opsNil ?_))
  have hE := Option.some.inj hM
  exact X.gc [] (hc_2 (w64 (x1 + 1)) hE.symm) rfl rfl rfl (ga rfl rfl) (gb_nil)
 replace hM := ite_f h_1 hM
 refine GS.exit rfl ?_
 obtain ⟨y_1, hM, hy⟩ := map_of hM
 rw [hr_1 _ hy.symm] at hM
 exact X.gc [] (hj_1 () hM) rfl rfl rfl (gk_nil) (gb_nil)
theorem ok_slices_ContainsFunc_api_Letter__arbiter_lawful_5 {s : (List api_Letter)} {c : api_Letter} {r : Bool} (hM : slices_ContainsFunc_api_Letter__arbiter_lawful_5 s c = some r) : Ct Try.prog 64 [(V.sl (List.map e_api_Letter s)), (V.fn 98 [(V.fptr [(e_api_Letter c)] 0 0)])] (V.b r) := by
 refine ct_of_gs CC_ok rfl ?_
 unfold slices_ContainsFunc_api_Letter__arbiter_lawful_5 at hM
 refine X.sq (X.q rfl (GS.opsNil (GS.seq ?_)))
 obtain ⟨y, h_1, hM⟩ := bind_of hM
 refine GS.region (X.q rfl (X.q rfl ?_))
 refine X.call (ok_slices_IndexFunc_api_Letter__arbiter_lawful_5 h_1) rfl rfl rfl (.cons (.shut (n := 9) rfl) (.cons (.shut (n := 9) rfl) .nil)) (X.q rfl (X.q rfl ?_))
 refine GS.opsNil ?_
 cases hM
 exact GS.ret ⟨_, rfl, ⟨30, rfl⟩⟩
theorem ok_arbiter_lawful_1__arbiter_lawful_5 {c : api_Letter} {c1 : (List api_Letter)} {r : Bool} (hM : arbiter_lawful_1__arbiter_lawful_5 c c1 = some r) : Ct Try.prog 93 [(V.fn 98 [(V.fptr [(e_api_Letter c)] 0 0)]), (V.fptr [(V.sl (List.map e_api_Letter c1))] 0 0)] (V.b r) := by
 refine ct_of_gs CC_ok rfl ?_
 unfold arbiter_lawful_1__arbiter_lawful_5 at hM
 refine X.sq (X.q rfl (GS.opsNil (GS.seq ?_)))
 obtain ⟨y, h_1, hM⟩ := bind_of hM
 refine GS.region (X.q rfl (X.q rfl ?_))
 refine X.call (ok_slices_ContainsFunc_api_Letter__arbiter_lawful_5 h_1) rfl rfl rfl (.cons (.shut (n := 9) rfl) (.cons (.shut (n := 9) rfl) .nil)) (X.q rfl (GS.opsNil ?_))
 cases hM
 exact GS.ret ⟨_, rfl, ⟨30, rfl⟩⟩
theorem ok_arbiter_lawful_6 (y : api_Letter) (c : api_Letter) : Ct Try.prog 99 [(e_api_Letter y), (V.fptr [(e_api_Letter c)] 0 0)] (V.b (arbiter_lawful_6 y c)) := by
 refine ct_of_gs CC_ok rfl ?_
 generalize hM : arbiter_lawful_6 y c = r
 unfold arbiter_lawful_6 at hM
 refine X.sq ?_
 refine X.opW rfl rfl rfl rfl (X.q rfl (X.nq ?_))
 refine X.mid [(3, (V.b (((arbiter_word y) && (decide (y.From = c.From))) && ((decide (c.Round < y.Round)) || ((decide (y.Kind = 4)) && (decide (y.Round = c.Round)))))))] ?_ ?_
 ·intro hg
  refine X.split ((arbiter_word y)) (fun h_1 => ?_) (fun h_1 => ?_)
  ·refine X.split (((arbiter_word y) && (decide (y.From = c.From)))) (fun h_2 => ?_) (fun h_2 => ?_)
   ·refine X.split (decide (c.Round < y.Round)) (fun h_3 => ?_) (fun h_3 => ?_)
    ·refine X.q rfl ?_
     refine X.call (ok_arbiter_word y) rfl rfl rfl (.cons (.shut (n := 9) rfl) .nil) (X.q rfl ?_)
     iterate 5 refine X.opR (X.on_t rfl rfl rfl h_1) rfl rfl ?_
     refine X.opR rfl (X.pickand_t (y := decide (y.From = c.From)) rfl h_1 rfl) rfl (X.q rfl ?_)
     iterate 6 refine X.opR (X.on_t rfl rfl rfl h_2) rfl rfl ?_
     iterate 4 refine X.off (X.off_f rfl rfl rfl h_3) rfl ?_
     iterate 5 refine X.off rfl rfl ?_
     refine X.off (X.off_f rfl rfl rfl h_3) rfl ?_
     refine X.opR (X.on_t rfl rfl rfl h_2) (X.pickor_t (y := ((decide (y.Kind = 4)) && (decide (y.Round = c.Round)))) rfl h_3 rfl) rfl ?_
     refine X.opR rfl (X.pickand_t (y := ((decide (c.Round < y.Round)) || ((decide (y.Kind = 4)) && (decide (y.Round = c.Round))))) rfl h_2 rfl) rfl (X.q rfl (GS.opsNil ?_))
     exact X.norm _ hg rfl (sr rfl)
    refine X.split (decide (y.Kind = 4)) (fun h_4 => ?_) (fun h_4 => ?_)
    ·refine X.q rfl ?_
     refine X.call (ok_arbiter_word y) rfl rfl rfl (.cons (.shut (n := 9) rfl) .nil) (X.q rfl ?_)
     iterate 5 refine X.opR (X.on_t rfl rfl rfl h_1) rfl rfl ?_
     refine X.opR rfl (X.pickand_t (y := decide (y.From = c.From)) rfl h_1 rfl) rfl (X.q rfl ?_)
     iterate 6 refine X.opR (X.on_t rfl rfl rfl h_2) rfl rfl ?_
     iterate 4 refine X.opR (X.on_f rfl rfl rfl h_3) rfl rfl ?_
     iterate 5 refine X.opR (X.on_t rfl rfl rfl h_4) rfl rfl ?_
     refine X.opR (X.on_f rfl rfl rfl h_3) (X.pickand_t (y := decide (y.Round = c.Round)) rfl h_4 rfl) rfl ?_
     refine X.opR (X.on_t rfl rfl rfl h_2) (X.pickor_f (y := ((decide (y.Kind = 4)) && (decide (y.Round = c.Round)))) rfl h_3 rfl) rfl ?_
     refine X.opR rfl (X.pickand_t (y := ((decide (c.Round < y.Round)) || ((decide (y.Kind = 4)) && (decide (y.Round = c.Round))))) rfl h_2 rfl) rfl (X.q rfl (GS.opsNil ?_))
     exact X.norm _ hg rfl (sr rfl)
    refine X.q rfl ?_
    refine X.call (ok_arbiter_word y) rfl rfl rfl (.cons (.shut (n := 9) rfl) .nil) (X.q rfl ?_)
    iterate 5 refine X.opR (X.on_t rfl rfl rfl h_1) rfl rfl ?_
    refine X.opR rfl (X.pickand_t (y := decide (y.From = c.From)) rfl h_1 rfl) rfl (X.q rfl ?_)
    iterate 6 refine X.opR (X.on_t rfl rfl rfl h_2) rfl rfl ?_
    iterate 4 refine X.opR (X.on_f rfl rfl rfl h_3) rfl rfl ?_
    iterate 5 refine X.off (X.off_t rfl rfl rfl h_4) rfl ?_
    refine X.opR (X.on_f rfl rfl rfl h_3) (X.pickand_f (y := decide (y.Round = c.Round)) rfl h_4 rfl) rfl ?_
    refine X.opR (X.on_t rfl rfl rfl h_2) (X.pickor_f (y := ((decide (y.Kind = 4)) && (decide (y.Round = c.Round)))) rfl h_3 rfl) rfl ?_
    refine X.opR rfl (X.pickand_t (y := ((decide (c.Round < y.Round)) || ((decide (y.Kind = 4)) && (decide (y.Round = c.Round))))) rfl h_2 rfl) rfl (X.q rfl (GS.opsNil ?_))
    exact X.norm _ hg rfl (sr rfl)
   refine X.q rfl ?_
   refine X.call (ok_arbiter_word y) rfl rfl rfl (.cons (.shut (n := 9) rfl) .nil) (X.q rfl ?_)
   iterate 5 refine X.opR (X.on_t rfl rfl rfl h_1) rfl rfl ?_
   refine X.opR rfl (X.pickand_t (y := decide (y.From = c.From)) rfl h_1 rfl) rfl (X.q rfl ?_)
   iterate 6 refine X.off (X.off_t rfl rfl rfl h_2) rfl ?_
   iterate 10 refine X.off rfl rfl ?_
   refine X.off (X.off_t rfl rfl rfl h_2) rfl ?_
   refine X.opR rfl (X.pickand_f (y := ((decide (c.Round < y.Round)) || ((decide (y.Kind = 4)) && (decide (y.Round = c.Round))))) rfl h_2 rfl) rfl (X.q rfl (GS.opsNil ?_))
   exact X.norm _ hg rfl (sr rfl)
  refine X.q rfl ?_
  refine X.call (ok_arbiter_word y) rfl rfl rfl (.cons (.shut (n := 9) rfl) .nil) (X.q rfl ?_)
  iterate 5 refine X.off (X.off_t rfl rfl rfl h_1) rfl ?_
  refine X.opR rfl (X.pickand_f (y := decide (y.From = c.From)) rfl h_1 rfl) rfl (X.q rfl ?_)
  iterate 6 refine X.off (X.off_t rfl rfl rfl (X.and_ff h_1)) rfl ?_
  iterate 10 refine X.off rfl rfl ?_
  refine X.off (X.off_t rfl rfl rfl (X.and_ff h_1)) rfl ?_
  refine X.opR rfl (X.pickand_f (y := ((decide (c.Round < y.Round)) || ((decide (y.Kind = 4)) && (decide (y.Round = c.Round))))) rfl (X.and_ff h_1) rfl) rfl (X.q rfl (GS.opsNil ?_))
  exact X.norm _ hg rfl (sr rfl)
 subst hM
 exact GS.ret ⟨_, rfl, ⟨30, rfl⟩⟩
theorem ok_slices_IndexFunc_api_Letter__arbiter_lawful_6 {s : (List api_Letter)} {c : api_Letter} {r : Int} (hM : slices_IndexFunc_api_Letter__arbiter_lawful_6 s c = some r) : Ct Try.prog 67 [(V.sl (List.map e_api_Letter s)), (V.fn 99 [(V.fptr [(e_api_Letter c)] 0 0)])] (V.i r) := by
 refine ct_of_gs CC_ok rfl ?_
 unfold slices_IndexFunc_api_Letter__arbiter_lawful_6 at hM
 refine X.sq (X.q rfl (GS.opsNil (GS.seq (X.sq (X.q rfl ?_)))))
 refine X.opR rfl (X.lenF rfl rfl rfl) rfl (X.q rfl (GS.opsNil ?_))
 refine X.join (τ := Unit) (fun v => slices_IndexFunc_api_Letter__arbiter_lawful_6_j1 = some r) (fun v => ⟨[], [], 0, none, 19⟩) ?_ ?_
 ·intro _ hM
  replace hM : slices_IndexFunc_api_Letter__arbiter_lawful_6_j1 = some r := hM
  unfold slices_IndexFunc_api_Letter__arbiter_lawful_6_j1 at hM
  refine X.sq (X.q rfl (GS.opsNil ?_))
  cases hM
  exact GS.ret ⟨_, rfl, ⟨30, rfl⟩⟩
 intro hj_1
 refine GS.block ?_
 refine X.gc [] (X.loop (σ := Int) (fun v => ⟨[(0, (V.sl (List.map e_api_Letter s))), (1, (V.fn 99 [(V.fptr [(e_api_Letter c)] 0 0)])), (7, (V.i (s.length : Int))), (8, (V.i v))], [], 0, none, 19⟩) hM ?_ rfl) rfl rfl rfl (ga rfl rfl) (gb_nil)
 intro x1 b_1 hM hc_2 hr_1
 rw [slices_IndexFunc_api_Letter__arbiter_lawful_6_b2] at hM
 refine X.sq (X.q rfl (GS.opsNil (GS.seq ?_)))
 refine X.cond rfl (fun h_1 => ?_) (fun h_1 => ?_)
 ·replace hM := ite_t h_1 hM
  refine GS.skip (GS.seq (GS.block (X.sq (X.q rfl (X.q rfl ?_)))))
  refine GS.opsNil (GS.seq ?_)
  obtain ⟨x, h_2, hM⟩ := bind_of hM
  refine GS.region (X.q rfl (X.q rfl (X.q rfl ?_)))
  refine X.opR rfl (X.indexF (f := e_api_Letter) h_2 (fun _ => rfl) rfl rfl rfl rfl) rfl ?_
  refine X.opR rfl (X.loadF h_2 rfl rfl rfl) rfl ?_
  refine X.call (ok_arbiter_lawful_6 x c) rfl rfl rfl (.cons (.shut (n := 9) rfl) (.cons (.shut (n := 9) rfl) .nil)) (GS.opsNil ?_)
  refine X.cond rfl (fun h_3 => ?_) (fun h_3 => ?_)
  ·replace hM := ite_t h_3 hM
   refine X.sq (X.q rfl (X.q rfl ?_))
   refine GS.opsNil ?_
   have hE := Option.some.inj hM
   replace hE := hr_1 _ hE.symm
   subst hE
   exact GS.ret ⟨_, rfl, ⟨30, rfl⟩⟩
  replace hM := ite_f h_3 hM
  refine GS.skip ?_
  refine GS.endB (GS.region ?_)
  refine X.opR rfl (X.addE rfl rfl) rfl (X.q rfl (GS.opsNil ?_))
  have hE := Option.some.inj hM
  exact X.gc [] (hc_2 (w64 (x1 + 1)) hE.symm) rfl rfl rfl (ga rfl rfl) (gb_nil)
 replace hM := ite_f h_1 hM
 refine GS.exit rfl ?_
 obtain ⟨y_1, hM, hy⟩ := map_of hM
 rw [hr_1 _ hy.symm] at hM
 exact X.gc [] (hj_1 () hM) rfl rfl rfl (gk_nil) (gb_nil)
theorem ok_slices_ContainsFunc_api_Letter__arbiter_lawful_6 {s : (List api_Letter)} {c : api_Letter} {r : Bool} (hM : slices_ContainsFunc_api_Letter__arbiter_lawful_6 s c = some r) : Ct Try.prog 64 [(V.sl (List.map e_api_Letter s)), (V.fn 99 [(V.fptr [(e_api_Letter c)] 0 0)])] (V.b r) := by
 refine ct_of_gs CC_ok rfl ?_
 unfold slices_ContainsFunc_api_Letter__arbiter_lawful_6 at hM
 refine X.sq (X.q rfl (GS.opsNil (GS.seq ?_)))
 obtain ⟨y, h_1, hM⟩ := bind_of hM
 refine GS.region (X.q rfl (X.q rfl ?_))
 refine X.call (ok_slices_IndexFunc_api_Letter__arbiter_lawful_6 h_1) rfl rfl rfl (.cons (.shut (n := 9) rfl) (.cons (.shut (n := 9) rfl) .nil)) (X.q rfl (X.q rfl ?_))
 refine GS.opsNil ?_
 cases hM
 exact GS.ret ⟨_, rfl, ⟨30, rfl⟩⟩
theorem ok_arbiter_lawful_1__arbiter_lawful_6 {c : api_Letter} {c1 : (List api_Letter)} {r : Bool} (hM : arbiter_lawful_1__arbiter_lawful_6 c c1 = some r) : Ct Try.prog 93 [(V.fn 99 [(V.fptr [(e_api_Letter c)] 0 0)]), (V.fptr [(V.sl (List.map e_api_Letter c1))] 0 0)] (V.b r) := by
 refine ct_of_gs CC_ok rfl ?_
 unfold arbiter_lawful_1__arbiter_lawful_6 at hM
 refine X.sq (X.q rfl (GS.opsNil (GS.seq ?_)))
 obtain ⟨y, h_1, hM⟩ := bind_of hM
 refine GS.region (X.q rfl (X.q rfl ?_))
 refine X.call (ok_slices_ContainsFunc_api_Letter__arbiter_lawful_6 h_1) rfl rfl rfl (.cons (.shut (n := 9) rfl) (.cons (.shut (n := 9) rfl) .nil)) (X.q rfl (GS.opsNil ?_))
 cases hM
 exact GS.ret ⟨_, rfl, ⟨30, rfl⟩⟩
theorem ok_arbiter_lawful {c : api_Court} {l : (List api_Letter)} {x : api_Letter} {r : Bool} (hM : arbiter_lawful c l x = some r) : Ct Try.prog 56 [(e_api_Court c), (V.sl (List.map e_api_Letter l)), (e_api_Letter x)] (V.b r) := by
 refine ct_of_gs CC_ok rfl ?_
 unfold arbiter_lawful at hM
 refine X.sq ?_
 iterate 3 refine X.opW rfl rfl rfl rfl ?_
 refine X.q rfl (X.nq (X.q rfl (X.q rfl ?_)))
 refine GS.opsNil (GS.seq (X.sq (X.q rfl (X.q rfl ?_))))
 refine GS.opsNil (GS.block (X.sq (X.q rfl (X.q rfl ?_))))
 refine GS.opsNil ?_
 refine X.cond rfl (fun h_1 => ?_) (fun h_1 => ?_)
 ·replace hM := ite_t h_1 hM
  refine GS.seq ?_
  obtain ⟨y, h_2, hM⟩ := bind_of hM
  refine GS.region (X.q rfl (X.q rfl (X.q rfl ?_)))
  refine X.call (ok_arbiter_last h_2) rfl rfl rfl (.cons (.shut (n := 9) rfl) (.cons (.shut (n := 9) rfl) .nil)) ?_
  refine X.opW (H' := [.rows 1 [(e_api_Court c)], .rows 1 [(V.sl (List.map e_api_Letter l))], .rows 8 [(e_api_Letter x)], .rows 8 [(V.agg [(V.i 0), (V.i 0), (V.i 0), (V.i 0), (V.i 0), (V.i 0), (V.i 0), (V.i 0)])]]) rfl rfl rfl rfl ?_
  refine X.op0W (H' := [.rows 1 [(e_api_Court c)], .rows 1 [(V.sl (List.map e_api_Letter l))], .rows 8 [(e_api_Letter x)], .rows 8 [(e_api_Letter y)]]) rfl rfl rfl (GS.opsNil (GS.seq ?_))
  obtain ⟨y1, h_3, hM⟩ := gb_of hM
  obtain ⟨y2, h_4, hM⟩ := gb_of hM
  refine GS.region ?_
  refine X.mid [(6, (V.b ((((decide (x.Voted = y.Round)) && (decide (x.Finding = y.Finding))) && y1) && (!y2))))] ?_ ?_
  ·intro hg
   refine X.split (decide (x.Voted = y.Round)) (fun h_5 => ?_) (fun h_5 => ?_)
   ·refine X.split (((decide (x.Voted = y.Round)) && (decide (x.Finding = y.Finding)))) (fun h_6 => ?_) (fun h_6 => ?_)
    ·refine X.split ((((decide (x.Voted = y.Round)) && (decide (x.Finding = y.Finding))) && y1)) (fun h_7 => ?_) (fun h_7 => ?_)
     ·iterate 6 refine X.q rfl ?_
      iterate 5 refine X.opR (X.on_t rfl rfl rfl h_5) rfl rfl ?_
      refine X.opR rfl (X.pickand_t (y := decide (x.Finding = y.Finding)) rfl h_5 rfl) rfl (X.q rfl ?_)
      iterate 2 refine X.opR (X.on_t rfl rfl rfl h_6) rfl rfl ?_
      refine X.callF (ok_arbiter_lawful_1__arbiter_lawful_2 (h_3 h_6)) (X.on_t rfl rfl rfl h_6) rfl rfl (m := 9) rfl (.cons (FR.arg ⟨30, rfl⟩) (.cons (FR.arg ⟨30, rfl⟩) .nil)) ?_
      refine X.opR rfl (X.pickand_t (y := y1) rfl h_6 rfl) rfl (X.q rfl ?_)
      iterate 2 refine X.opR (X.on_t rfl rfl rfl h_7) rfl rfl ?_
      refine X.callF (ok_arbiter_lawful_1__arbiter_lawful_3 (h_4 h_7)) (X.on_t rfl rfl rfl h_7) rfl rfl (m := 9) rfl (.cons (FR.arg ⟨30, rfl⟩) (.cons (FR.arg ⟨30, rfl⟩) .nil)) ?_
      refine X.opR (X.on_t rfl rfl rfl h_7) rfl rfl ?_
      refine X.opR rfl (X.pickand_t (y := !y2) rfl h_7 rfl) rfl (X.q rfl (GS.opsNil ?_))
      exact X.norm _ hg rfl (sr rfl)
     iterate 6 refine X.q rfl ?_
     iterate 5 refine X.opR (X.on_t rfl rfl rfl h_5) rfl rfl ?_
     refine X.opR rfl (X.pickand_t (y := decide (x.Finding = y.Finding)) rfl h_5 rfl) rfl (X.q rfl ?_)
     iterate 2 refine X.opR (X.on_t rfl rfl rfl h_6) rfl rfl ?_
     refine X.callF (ok_arbiter_lawful_1__arbiter_lawful_2 (h_3 h_6)) (X.on_t rfl rfl rfl h_6) rfl rfl (m := 9) rfl (.cons (FR.arg ⟨30, rfl⟩) (.cons (FR.arg ⟨30, rfl⟩) .nil)) ?_
     refine X.opR rfl (X.pickand_t (y := y1) rfl h_6 rfl) rfl (X.q rfl ?_)
     iterate 4 refine X.off (X.off_t rfl rfl rfl h_7) rfl ?_
     refine X.opR rfl (X.pickand_f (y := !y2) rfl h_7 rfl) rfl (X.q rfl (GS.opsNil ?_))
     exact X.norm _ hg rfl (sr rfl)
    iterate 6 refine X.q rfl ?_
    iterate 5 refine X.opR (X.on_t rfl rfl rfl h_5) rfl rfl ?_
    refine X.opR rfl (X.pickand_t (y := decide (x.Finding = y.Finding)) rfl h_5 rfl) rfl (X.q rfl ?_)
    iterate 3 refine X.off (X.off_t rfl rfl rfl h_6) rfl ?_
    refine X.opR rfl (X.pickand_f (y := y1) rfl h_6 rfl) rfl (X.q rfl ?_)
    iterate 4 refine X.off (X.off_t rfl rfl rfl (X.and_ff h_6)) rfl ?_
    refine X.opR rfl (X.pickand_f (y := !y2) rfl (X.and_ff h_6) rfl) rfl (X.q rfl (GS.opsNil ?_))
    exact X.norm _ hg rfl (sr rfl)
   iterate 6 refine X.q rfl ?_
   iterate 5 refine X.off (X.off_t rfl rfl rfl h_5) rfl ?_
   refine X.opR rfl (X.pickand_f (y := decide (x.Finding = y.Finding)) rfl h_5 rfl) rfl (X.q rfl ?_)
   iterate 3 refine X.off (X.off_t rfl rfl rfl (X.and_ff h_5)) rfl ?_
   refine X.opR rfl (X.pickand_f (y := y1) rfl (X.and_ff h_5) rfl) rfl (X.q rfl ?_)
   iterate 4 refine X.off (X.off_t rfl rfl rfl (X.and_ff (X.and_ff h_5))) rfl ?_
   refine X.opR rfl (X.pickand_f (y := !y2) rfl (X.and_ff (X.and_ff h_5)) rfl) rfl (X.q rfl (GS.opsNil ?_))
   exact X.norm _ hg rfl (sr rfl)
  cases hM
  exact GS.ret ⟨_, rfl, ⟨30, rfl⟩⟩
 replace hM := ite_f h_1 hM
 refine X.sq (X.q rfl (X.q rfl ?_))
 refine GS.opsNil ?_
 refine X.cond rfl (fun h_8 => ?_) (fun h_8 => ?_)
 ·replace hM := ite_t h_8 hM
  refine GS.seq ?_
  obtain ⟨y3, h_9, hM⟩ := bind_of hM
  obtain ⟨y4, h_10, hM⟩ := gb_of hM
  refine GS.region ?_
  refine X.mid [(6, (V.b (y3 && (!y4))))] ?_ ?_
  ·intro hg
   refine X.split (y3) (fun h_11 => ?_) (fun h_11 => ?_)
   ·iterate 6 refine X.q rfl ?_
    refine X.call (ok_arbiter_proposable h_9) rfl rfl rfl (.cons (.shut (n := 9) rfl) (.cons (.shut (n := 9) rfl) (.cons (.shut (n := 9) rfl) (.cons (.shut (n := 9) rfl) .nil)))) (X.q rfl ?_)
    iterate 2 refine X.opR (X.on_t rfl rfl rfl h_11) rfl rfl ?_
    refine X.callF (ok_arbiter_lawful_1__arbiter_lawful_4 (h_10 h_11)) (X.on_t rfl rfl rfl h_11) rfl rfl (m := 9) rfl (.cons (FR.arg ⟨30, rfl⟩) (.cons (FR.arg ⟨30, rfl⟩) .nil)) ?_
    refine X.opR (X.on_t rfl rfl rfl h_11) rfl rfl ?_
    refine X.opR rfl (X.pickand_t (y := !y4) rfl h_11 rfl) rfl (X.q rfl (GS.opsNil ?_))
    exact X.norm _ hg rfl (sr rfl)
   iterate 6 refine X.q rfl ?_
   refine X.call (ok_arbiter_proposable h_9) rfl rfl rfl (.cons (.shut (n := 9) rfl) (.cons (.shut (n := 9) rfl) (.cons (.shut (n := 9) rfl) (.cons (.shut (n := 9) rfl) .nil)))) (X.q rfl ?_)
   iterate 4 refine X.off (X.off_t rfl rfl rfl h_11) rfl ?_
   refine X.opR rfl (X.pickand_f (y := !y4) rfl h_11 rfl) rfl (X.q rfl (GS.opsNil ?_))
   exact X.norm _ hg rfl (sr rfl)
  cases hM
  exact GS.ret ⟨_, rfl, ⟨30, rfl⟩⟩
 replace hM := ite_f h_8 hM
 refine X.sq (X.q rfl (X.q rfl ?_))
 refine GS.opsNil ?_
 refine X.cond rfl (fun h_12 => ?_) (fun h_12 => ?_)
 ·replace hM := ite_t h_12 hM
  refine GS.seq ?_
  obtain ⟨y5, h_13, hM⟩ := bind_of hM
  obtain ⟨y6, h_14, hM⟩ := gb_of hM
  refine GS.region ?_
  refine X.mid [(6, (V.b (y5 && (!y6))))] ?_ ?_
  ·intro hg
   refine X.split (y5) (fun h_15 => ?_) (fun h_15 => ?_)
   ·iterate 2 refine X.q rfl ?_
    refine X.callF (ok_arbiter_lawful_1__arbiter_lawful_5 h_13) rfl rfl rfl (m := 9) rfl (.cons (FR.arg ⟨30, rfl⟩) (.cons (FR.arg ⟨30, rfl⟩) .nil)) (X.q rfl ?_)
    iterate 2 refine X.opR (X.on_t rfl rfl rfl h_15) rfl rfl ?_
    refine X.callF (ok_arbiter_lawful_1__arbiter_lawful_6 (h_14 h_15)) (X.on_t rfl rfl rfl h_15) rfl rfl (m := 9) rfl (.cons (FR.arg ⟨30, rfl⟩) (.cons (FR.arg ⟨30, rfl⟩) .nil)) ?_
    refine X.opR (X.on_t rfl rfl rfl h_15) rfl rfl ?_
    refine X.opR rfl (X.pickand_t (y := !y6) rfl h_15 rfl) rfl (X.q rfl (GS.opsNil ?_))
    exact X.norm _ hg rfl (sr rfl)
   refine X.q rfl (X.q rfl ?_)
   refine X.callF (ok_arbiter_lawful_1__arbiter_lawful_5 h_13) rfl rfl rfl (m := 9) rfl (.cons (FR.arg ⟨30, rfl⟩) (.cons (FR.arg ⟨30, rfl⟩) .nil)) (X.q rfl ?_)
   iterate 4 refine X.off (X.off_t rfl rfl rfl h_15) rfl ?_
   refine X.opR rfl (X.pickand_f (y := !y6) rfl h_15 rfl) rfl (X.q rfl (GS.opsNil ?_))
   exact X.norm _ hg rfl (sr rfl)
  cases hM
  exact GS.ret ⟨_, rfl, ⟨30, rfl⟩⟩
 replace hM := ite_f h_12 hM
 refine GS.skip ?_
 refine GS.endB (X.sq (X.q rfl (GS.opsNil ?_)))
 cases hM
 exact GS.ret ⟨_, rfl, ⟨30, rfl⟩⟩
set_option maxHeartbeats 4000000 in
theorem ok_arbiter_Lawful {c : api_Court} {l : (List api_Letter)} {r : Int × Bool × Int} (hM : arbiter_Lawful c l = some r) : Ct Try.prog 17 [(e_api_Court c), (V.sl (List.map e_api_Letter l))] (V.tup [(V.i r.1), (V.b r.2.1), (V.i r.2.2)]) := by
 refine ct_of_gs CC_ok rfl ?_
 unfold arbiter_Lawful at hM
 refine X.sq ?_
 refine X.opW rfl rfl rfl rfl (X.q rfl (X.q rfl (X.q rfl ?_)))
 refine GS.opsNil ?_
 refine GS.scope ?_
 iterate 2 refine GS.seq ?_
 obtain ⟨y, h_1, hM⟩ := bind_of hM
 refine GS.region (X.q rfl (X.q rfl ?_))
 refine X.call (ok_arbiter_read h_1) rfl rfl rfl (.cons (.shut (n := 9) rfl) (.cons (.shut (n := 9) rfl) .nil)) (X.q rfl (X.nq (X.q rfl (X.q rfl ?_))))
 refine GS.opsNil ?_
 refine X.cond rfl (fun h_2 => ?_) (fun h_2 => ?_)
 ·replace hM := ite_t h_2 hM
  refine X.sq ?_
  iterate 4 refine X.q rfl ?_
  refine GS.opsNil ?_
  cases hM
  exact GS.ret ⟨_, rfl, ⟨30, rfl⟩⟩
 replace hM := ite_f h_2 hM
 refine GS.skip (X.sq ?_)
 refine X.opW rfl rfl rfl rfl (X.q rfl (X.nq ?_))
 refine X.opW (H' := ([.rows 1 [(e_api_Court c)], .map (List.map (fun p : api_Letter × Bool => e_api_Letter p.1) []) (List.map (fun p : api_Letter × Bool => V.b p.2) []), famM fk_85 3 []] ++ famB fk_85 [])) rfl rfl rfl rfl (X.q rfl (X.nq (X.q rfl (GS.opsNil (GS.seq ?_)))))
 refine GS.label (GS.seq (X.sq (X.q rfl ?_)))
 refine X.opR rfl (X.lenF rfl rfl rfl) rfl (X.q rfl (GS.opsNil ?_))
 refine X.join (τ := Int) (fun v => arbiter_Lawful_j1 v = some r) (fun v => ⟨[(10, (V.i v))], [], 0, none, 60⟩) ?_ ?_
 ·intro at_ hM
  replace hM : arbiter_Lawful_j1 at_ = some r := hM
  unfold arbiter_Lawful_j1 at hM
  refine X.sq ?_
  iterate 6 refine X.q rfl ?_
  refine GS.opsNil ?_
  cases hM
  exact GS.ret ⟨_, rfl, ⟨30, rfl⟩⟩
 intro hj_1
 refine GS.block ?_
 refine X.gcFam 3 3 2 2 [some 0, some 1, some 2] (P0 := [.rows 1 [(e_api_Court c)], .map (List.map (fun p : api_Letter × Bool => e_api_Letter p.1) []) (List.map (fun p : api_Letter × Bool => V.b p.2) []), .dead]) rfl (X.loop (σ := (Int × (List (api_Letter × Bool)) × (List (Int × (List api_Letter))))) (fun v => ⟨[(2, (V.ptr 0 0 0)), (8, (V.map 1)), (9, (V.map 2)), (10, (V.i (-1))), (21, (V.sl (List.map e_api_Letter l))), (22, (V.i (l.length : Int))), (23, (V.i v.1))], ([.rows 1 [(e_api_Court c)], .map (List.map (fun p : api_Letter × Bool => e_api_Letter p.1) v.2.1) (List.map (fun p : api_Letter × Bool => V.b p.2) v.2.1), famM fk_85 3 v.2.2] ++ famB fk_85 v.2.2), 0, none, 60⟩) hM ?_ rfl) rfl rfl rfl rfl (ga rfl rfl) (gb9 rfl rfl rfl (X.gb_mapK 9 rfl rfl (fun _ => rfl) (fun _ => rfl) (gb_pad gb_nil))) rfl rfl rfl rfl rfl
 rintro ⟨x1, m2, m3⟩ b_1 hM hc_2 hr_1
 rw [arbiter_Lawful_b2] at hM
 refine X.sq (X.q rfl (GS.opsNil (GS.seq ?_)))
 refine X.cond rfl (fun h_3 => ?_) (fun h_3 => ?_)
 ·replace hM := ite_t h_3 hM
  refine GS.skip (GS.seq ?_)
  refine X.join (τ := (List (api_Letter × Bool)) × (List (Int × (List api_Letter)))) (fun v => arbiter_Lawful_j3 x1 v.1 v.2 = some b_1) (fun v => ⟨[(2, (V.ptr 0 0 0)), (8, (V.map 1)), (9, (V.map 2)), (10, (V.i (-1))), (21, (V.sl (List.map e_api_Letter l))), (22, (V.i (l.length : Int))), (23, (V.i x1))], ([.rows 1 [(e_api_Court c)], .map (List.map (fun p : api_Letter × Bool => e_api_Letter p.1) v.1) (List.map (fun p : api_Letter × Bool => V.b p.2) v.1), famM fk_85 3 v.2] ++ famB fk_85 v.2), 0, none, 60⟩) ?_ ?_
  ·rintro ⟨m, m1⟩ hM
   replace hM : arbiter_Lawful_j3 x1 m m1 = some b_1 := hM
   unfold arbiter_Lawful_j3 at hM
   refine GS.region ?_
   refine X.opR rfl (X.addE rfl rfl) rfl (X.q rfl (GS.opsNil ?_))
   have hE := Option.some.inj hM
   exact X.gcFam 3 3 2 2 [some 0, some 1, some 2] (P0 := [.rows 1 [(e_api_Court c)], .map (List.map (fun p : api_Letter × Bool => e_api_Letter p.1) m) (List.map (fun p : api_Letter × Bool => V.b p.2) m), .dead]) rfl (hc_2 (w64 (x1 + 1), m, m1) hE.symm) rfl rfl rfl rfl (ga rfl rfl) (gb9 rfl rfl rfl (X.gb_mapK 9 rfl rfl (fun _ => rfl) (fun _ => rfl) (gb_pad gb_nil))) rfl rfl rfl rfl rfl
  intro hj_3
  refine GS.block (GS.seq ?_)
  obtain ⟨x, h_4, hM⟩ := bind_of hM
  refine GS.region (X.q rfl ?_)
  refine X.opR rfl (X.indexF (f := e_api_Letter) h_4 (fun _ => rfl) rfl rfl rfl rfl) rfl ?_
  refine X.opR rfl (X.loadF h_4 rfl rfl rfl) rfl ?_
  refine X.famAlloc (F := fk_85) (A := m3) (P0 := [.rows 1 [(e_api_Court c)], .map (List.map (fun p : api_Letter × Bool => e_api_Letter p.1) m2) (List.map (fun p : api_Letter × Bool => V.b p.2) m2), .dead]) (P2 := [.rows 1 [(e_api_Court c)], .map (List.map (fun p : api_Letter × Bool => e_api_Letter p.1) m2) (List.map (fun p : api_Letter × Bool => V.b p.2) m2), famM fk_85 4 m3, .rows 8 [(V.agg [(V.i 0), (V.i 0), (V.i 0), (V.i 0), (V.i 0), (V.i 0), (V.i 0), (V.i 0)])]]) 3 2 [some 0, some 1, some 2] [(2, (V.ptr 0 0 0)), (8, (V.map 1)), (9, (V.map 2)), (10, (V.i (-1))), (21, (V.sl (List.map e_api_Letter l))), (22, (V.i (l.length : Int))), (23, (V.i x1)), (25, (V.i x1)), (27, (e_api_Letter x))] rfl (fun _ _ => rfl) (by intro h; cases h) rfl rfl rfl rfl rfl rfl rfl rfl rfl rfl rfl (gk_cons rfl ⟨9, rfl⟩ (gk_cons rfl ⟨9, rfl⟩ (gk_cons rfl ⟨9, rfl⟩ (gk_cons rfl ⟨9, rfl⟩ (gk_cons rfl ⟨9, rfl⟩ (gk_cons rfl ⟨9, rfl⟩ (gk_cons rfl ⟨9, rfl⟩ (gk_cons rfl ⟨9, rfl⟩ (gk_cons rfl ⟨9, rfl⟩ gk_nil))))))))) (gb_box rfl rfl ⟨9, rfl⟩ (X.gb_mapK 9 rfl rfl (fun _ => rfl) (fun _ => rfl) (gb_pad gb_nil))) rfl ?_
  refine X.q rfl ?_
  refine X.op0W (H' := ([.rows 1 [(e_api_Court c)], .map (List.map (fun p : api_Letter × Bool => e_api_Letter p.1) m2) (List.map (fun p : api_Letter × Bool => V.b p.2) m2), famM fk_85 4 m3, .rows 8 [(e_api_Letter x)]] ++ famB fk_85 m3)) rfl rfl rfl (GS.opsNil (GS.seq (GS.block (X.sq (X.q rfl (X.q rfl ?_))))))
  refine X.call (ok_arbiter_said x) rfl rfl rfl (.cons (.shut (n := 9) rfl) .nil) ?_
  refine X.opR rfl (X.lookW (f := e_api_Letter) (g := V.b) (k := (arbiter_said x)) (l := m2) (z := false) (ok := false) key_api_Letter rfl rfl rfl rfl rfl rfl) rfl (X.q rfl (GS.opsNil ?_))
  refine X.cond rfl (fun h_5 => ?_) (fun h_5 => ?_)
  ·replace hM := ite_t h_5 hM
   refine GS.exit rfl ?_
   exact X.gcFam 4 3 2 2 [some 0, some 1, some 2] (P0 := [.rows 1 [(e_api_Court c)], .map (List.map (fun p : api_Letter × Bool => e_api_Letter p.1) m2) (List.map (fun p : api_Letter × Bool => V.b p.2) m2), .dead]) rfl (hj_3 (m2, m3) hM) rfl rfl rfl rfl (ga rfl rfl) (gb9 rfl rfl rfl (X.gb_mapK 9 rfl rfl (fun _ => rfl) (fun _ => rfl) (gb_pad gb_nil))) rfl rfl rfl rfl rfl
  replace hM := ite_f h_5 hM
  refine GS.seq ?_
  obtain ⟨y1, h_6, hM⟩ := bind_of hM
  refine GS.region ?_
  iterate 4 refine X.q rfl ?_
  refine X.opR rfl (X.famLookE (F := fk_85) (A := m3) (b := 4) (k0 := x.Case) X.keyEq_i rfl rfl rfl rfl rfl rfl) rfl (X.q rfl ?_)
  refine X.callF (ok_arbiter_lawful h_6) rfl rfl rfl (m := 9) rfl (.cons (.shut (n := 9) rfl) (.cons (FR.arg (X.frS rfl (fun _ _ => rfl))) (.cons (.shut (n := 9) rfl) .nil))) (X.q rfl (X.q rfl ?_))
  refine GS.opsNil ?_
  refine X.cond rfl (fun h_7 => ?_) (fun h_7 => ?_)
  ·replace hM := ite_t h_7 hM
   refine X.sq (X.q rfl (X.q rfl ?_))
   refine GS.opsNil ?_
   refine GS.exit rfl ?_
   obtain ⟨y_1, hM, hy⟩ := map_of hM
   rw [hr_1 _ hy.symm] at hM
   exact X.gc [] (hj_1 x1 hM) rfl rfl rfl (ga rfl rfl) (gb_nil)
  replace hM := ite_f h_7 hM
  refine GS.skip ?_
  refine GS.endB (X.sq (X.q rfl (X.q rfl ?_)))
  refine X.call (ok_arbiter_said x) rfl rfl rfl (.cons (.shut (n := 9) rfl) .nil) ?_
  refine X.op0W (H' := ([.rows 1 [(e_api_Court c)], .map (List.map (fun p : api_Letter × Bool => e_api_Letter p.1) (putM posE m2 (arbiter_said x) true)) (List.map (fun p : api_Letter × Bool => V.b p.2) (putM posE m2 (arbiter_said x) true)), famM fk_85 4 m3, .rows 8 [(e_api_Letter x)]] ++ famB fk_85 m3)) rfl (X.putW (f := e_api_Letter) (g := V.b) (pos := posE) (k := (arbiter_said x)) (v := true) (l := m2) key_api_Letter (fun l => (X.insAt_agg _ _).trans (List.length_map ..)) rfl rfl rfl rfl rfl rfl rfl) rfl (GS.opsNil ?_)
  obtain ⟨l1, h_8, hM⟩ := bind_of hM
  refine X.drawCut 10 rfl (by kernel_rfl) (by kernel_rfl) ?_
  iterate 6 refine X.dop rfl rfl rfl rfl (by kernel_rfl) rfl rfl ?_
  refine X.dop rfl (X.famLookE (F := fk_85) (A := m3) (b := 4) (k0 := x.Case) X.keyEq_i rfl rfl rfl rfl rfl rfl) rfl rfl (by kernel_rfl) rfl rfl ?_
  refine X.dop rfl rfl rfl rfl (by kernel_rfl) rfl rfl ?_
  refine X.dbld rfl rfl rfl X.isFree_end rfl (by kernel_rfl) rfl ?_
  refine X.dappFam (P := [.rows 1 [(e_api_Court c)], .map (List.map (fun p : api_Letter × Bool => e_api_Letter p.1) (putM posE m2 (arbiter_said x) true)) (List.map (fun p : api_Letter × Bool => V.b p.2) (putM posE m2 (arbiter_said x) true)), famM fk_85 4 m3, .rows 8 [(e_api_Letter x)]]) (A := m3) (k0 := x.Case) (f := e_api_Letter) h_8 (fun _ => rfl) rfl rfl rfl rfl rfl rfl rfl rfl rfl rfl rfl rfl rfl rfl (X.hl_bld (X.hl_cons rfl rfl (X.hl_cons rfl rfl (X.hl_cons rfl rfl (X.hl_cons rfl rfl (X.hl_cons rfl rfl (X.hl_cons rfl rfl (X.hl_cons rfl rfl (X.hl_cons rfl rfl X.hl_nil))))))))) rfl (fun H_9 hp_9 ho_9 hn_9 hl_9 => ?_)
  refine X.famPut (F := fk_85) (A := m3) (P := [.rows 1 [(e_api_Court c)], .map (List.map (fun p : api_Letter × Bool => e_api_Letter p.1) (putM posE m2 (arbiter_said x) true)) (List.map (fun p : api_Letter × Bool => V.b p.2) (putM posE m2 (arbiter_said x) true)), famM fk_85 4 m3, .rows 8 [(e_api_Letter x)]]) (pos0 := posI) (P0 := [.rows 1 [(e_api_Court c)], .map (List.map (fun p : api_Letter × Bool => e_api_Letter p.1) (putM posE m2 (arbiter_said x) true)) (List.map (fun p : api_Letter × Bool => V.b p.2) (putM posE m2 (arbiter_said x) true)), .dead, .rows 8 [(e_api_Letter x)]]) (P2 := [.rows 1 [(e_api_Court c)], .map (List.map (fun p : api_Letter × Bool => e_api_Letter p.1) (putM posE m2 (arbiter_said x) true)) (List.map (fun p : api_Letter × Bool => V.b p.2) (putM posE m2 (arbiter_said x) true)), famM fk_85 4 (putM posI m3 x.Case l1), .rows 8 [(e_api_Letter x)]]) (x0 := l1) 4 2 _ [some 0, some 1, some 2, some 3] [(2, (V.ptr 0 0 0)), (8, (V.map 1)), (9, (V.map 2)), (10, (V.i (-1))), (21, (V.sl (List.map e_api_Letter l))), (22, (V.i (l.length : Int))), (23, (V.i x1))] rfl X.keyEq_i (X.posI_ok _) rfl rfl rfl rfl rfl rfl ((hp_9 2 (by decide)).trans rfl) hp_9 ho_9 (by omega) hn_9 hl_9 rfl rfl rfl rfl rfl rfl rfl rfl (gk_cons rfl ⟨9, rfl⟩ (gk_cons rfl ⟨9, rfl⟩ (gk_cons rfl ⟨9, rfl⟩ (gk_cons rfl ⟨9, rfl⟩ (gk_cons rfl ⟨9, rfl⟩ (gk_cons rfl ⟨9, rfl⟩ (gk_cons rfl ⟨9, rfl⟩ gk_nil))))))) (gb_box rfl rfl ⟨9, rfl⟩ (X.gb_mapK 9 rfl rfl (fun _ => rfl) (fun _ => rfl) (gb_pad (gb_box rfl rfl ⟨9, rfl⟩ gb_nil)))) rfl (GS.opsNil ?_)
  refine GS.endB ?_
  exact X.gcFam 4 3 2 2 [some 0, some 1, some 2] (P0 := [.rows 1 [(e_api_Court c)], .map (List.map (fun p : api_Letter × Bool => e_api_Letter p.1) (putM posE m2 (arbiter_said x) true)) (List.map (fun p : api_Letter × Bool => V.b p.2) (putM posE m2 (arbiter_said x) true)), .dead]) rfl (hj_3 ((putM posE m2 (arbiter_said x) true), (putM posI m3 x.Case l1)) hM) rfl rfl rfl rfl (ga rfl rfl) (gb9 rfl rfl rfl (X.gb_mapK 9 rfl rfl (fun _ => rfl) (fun _ => rfl) (gb_pad gb_nil))) rfl rfl rfl rfl rfl
 replace hM := ite_f h_3 hM
 refine GS.exit rfl ?_
 obtain ⟨y_1, hM, hy⟩ := map_of hM
 rw [hr_1 _ hy.symm] at hM
 exact X.gc [] (hj_1 (-1) hM) rfl rfl rfl (ga rfl rfl) (gb_nil)
abbrev e_api_Ruling (x : api_Ruling) : V := .agg [(V.i x.Case), (V.i x.Round), (V.i x.Finding)]
abbrev fk_124 : FK api_Ruling (List (Int × Bool)) := fkM e_api_Ruling (fun _ _ _ => rfl) V.i V.b (fun _ _ _ => rfl) (fun _ _ _ => rfl)
theorem key_api_Ruling (a b : api_Ruling) : keyEq (e_api_Ruling a) (e_api_Ruling b) = some (decide (a = b)) := by
 have h : keyEq (e_api_Ruling a) (e_api_Ruling b) = some (decide ([(IntKind.i64, a.Case), (IntKind.i64, a.Round), (IntKind.i64, a.Finding)] = [(IntKind.i64, b.Case), (IntKind.i64, b.Round), (IntKind.i64, b.Finding)])) := rfl
 rw [h]
 congr 1
 cases a
 cases b
 simp
theorem ok_cmp_isNaN_int (x : Int) : Ct Try.prog 145 [(V.i x)] (V.b (cmp_isNaN_int x)) := by
 refine ct_of_gs CC_ok rfl ?_
 generalize hM : cmp_isNaN_int x = r
 unfold cmp_isNaN_int at hM
 refine X.sq (X.q rfl (X.nq ?_))
 iterate 4 refine X.q rfl ?_
 refine GS.opsNil ?_
 subst hM
 exact GS.ret ⟨_, rfl, ⟨30, rfl⟩⟩
theorem ok_cmp_Compare_int (x : Int) (y : Int) : Ct Try.prog 127 [(V.i x), (V.i y)] (V.i (cmp_Compare_int x y)) := by
 refine ct_of_gs CC_ok rfl ?_
 generalize hM : cmp_Compare_int x y = r
 unfold cmp_Compare_int at hM
 refine X.sq (X.q rfl (X.nq (X.q rfl ?_)))
 refine X.call (ok_cmp_isNaN_int x) rfl rfl rfl (.cons (.shut (n := 9) rfl) .nil) (X.q rfl (X.nq (X.q rfl ?_)))
 refine X.call (ok_cmp_isNaN_int y) rfl rfl rfl (.cons (.shut (n := 9) rfl) .nil) (X.q rfl (GS.opsNil (GS.seq (X.sq (X.q rfl (GS.opsNil ?_))))))
 refine X.cond rfl (fun h_1 => ?_) (fun h_1 => ?_)
 ·replace hM := ite_t h_1 hM
  refine GS.seq (X.sq (X.q rfl (GS.opsNil ?_)))
  refine X.cond rfl (fun h_2 => ?_) (fun h_2 => ?_)
  ·replace hM := ite_t h_2 hM
   refine X.sq (X.q rfl (GS.opsNil ?_))
   subst hM
   exact GS.ret ⟨_, rfl, ⟨30, rfl⟩⟩
  replace hM := ite_f h_2 hM
  refine GS.skip (X.sq (X.q rfl (GS.opsNil ?_)))
  subst hM
  exact GS.ret ⟨_, rfl, ⟨30, rfl⟩⟩
 replace hM := ite_f h_1 hM
 refine GS.skip (GS.seq (X.sq (X.q rfl (GS.opsNil ?_))))
 refine X.cond rfl (fun h_3 => ?_) (fun h_3 => ?_)
 ·replace hM := ite_t h_3 hM
  refine X.sq (X.q rfl (GS.opsNil ?_))
  subst hM
  exact GS.ret ⟨_, rfl, ⟨30, rfl⟩⟩
 replace hM := ite_f h_3 hM
 refine GS.skip (GS.seq (X.sq (X.q rfl (X.q rfl (X.q rfl ?_)))))
 refine GS.opsNil ?_
 refine X.cond rfl (fun h_4 => ?_) (fun h_4 => ?_)
 ·replace hM := ite_t h_4 hM
  refine X.sq (X.q rfl (GS.opsNil ?_))
  subst hM
  exact GS.ret ⟨_, rfl, ⟨30, rfl⟩⟩
 replace hM := ite_f h_4 hM
 refine GS.skip (GS.seq (X.sq (X.q rfl (X.q rfl (X.q rfl ?_)))))
 refine GS.opsNil ?_
 refine X.cond rfl (fun h_5 => ?_) (fun h_5 => ?_)
 ·replace hM := ite_t h_5 hM
  refine X.sq (X.q rfl (GS.opsNil ?_))
  subst hM
  exact GS.ret ⟨_, rfl, ⟨30, rfl⟩⟩
 replace hM := ite_f h_5 hM
 refine GS.skip (X.sq (X.q rfl (GS.opsNil ?_)))
 subst hM
 exact GS.ret ⟨_, rfl, ⟨30, rfl⟩⟩
theorem ok_cmp_Or_int {vals : (List Int)} {r : Int} (hM : cmp_Or_int vals = some r) : Ct Try.prog 126 [(V.sl (List.map V.i vals))] (V.i r) := by
 refine ct_of_gs CC_ok rfl ?_
 unfold cmp_Or_int at hM
 refine X.sq (X.q rfl (X.nq (X.q rfl (GS.opsNil (GS.seq (X.sq (X.q rfl ?_)))))))
 refine X.opR rfl (X.lenF rfl rfl rfl) rfl (X.q rfl (GS.opsNil ?_))
 refine X.join (τ := Unit) (fun v => cmp_Or_int_j1 = some r) (fun v => ⟨[(3, (V.i 0))], [], 0, none, 18⟩) ?_ ?_
 ·intro _ hM
  replace hM : cmp_Or_int_j1 = some r := hM
  unfold cmp_Or_int_j1 at hM
  refine X.sq (X.q rfl (X.q rfl ?_))
  refine GS.opsNil ?_
  cases hM
  exact GS.ret ⟨_, rfl, ⟨30, rfl⟩⟩
 intro hj_1
 refine GS.block ?_
 refine X.gc [] (X.loop (σ := Int) (fun v => ⟨[(3, (V.i 0)), (6, (V.sl (List.map V.i vals))), (7, (V.i (vals.length : Int))), (8, (V.i v))], [], 0, none, 18⟩) hM ?_ rfl) rfl rfl rfl (ga rfl rfl) (gb_nil)
 intro x1 b_1 hM hc_2 hr_1
 rw [cmp_Or_int_b2] at hM
 refine X.sq (X.q rfl (GS.opsNil (GS.seq ?_)))
 refine X.cond rfl (fun h_1 => ?_) (fun h_1 => ?_)
 ·replace hM := ite_t h_1 hM
  refine GS.skip (GS.seq (GS.block (GS.seq ?_)))
  obtain ⟨x, h_2, hM⟩ := bind_of hM
  refine GS.region ?_
  refine X.opR rfl (X.indexF (f := V.i) h_2 (fun _ => rfl) rfl rfl rfl rfl) rfl ?_
  refine X.opR rfl (X.loadF h_2 rfl rfl rfl) rfl (X.q rfl (X.nq (X.q rfl (X.q rfl (X.q rfl ?_)))))
  refine GS.opsNil ?_
  refine X.cond rfl (fun h_3 => ?_) (fun h_3 => ?_)
  ·replace hM := ite_t h_3 hM
   refine X.sq (X.q rfl (X.q rfl ?_))
   refine GS.opsNil ?_
   have hE := Option.some.inj hM
   replace hE := hr_1 _ hE.symm
   subst hE
   exact GS.ret ⟨_, rfl, ⟨30, rfl⟩⟩
  replace hM := ite_f h_3 hM
  refine GS.skip ?_
  refine GS.endB (GS.region ?_)
  refine X.opR rfl (X.addE rfl rfl) rfl (X.q rfl (GS.opsNil ?_))
  have hE := Option.some.inj hM
  exact X.gc [] (hc_2 (w64 (x1 + 1)) hE.symm) rfl rfl rfl (ga rfl rfl) (gb_nil)
 replace hM := ite_f h_1 hM
 refine GS.exit rfl ?_
 obtain ⟨y_1, hM, hy⟩ := map_of hM
 rw [hr_1 _ hy.symm] at hM
 exact X.gc [] (hj_1 () hM) rfl rfl rfl (ga rfl rfl) (gb_nil)
theorem ok_arbiter_order {a : api_Ruling} {b : api_Ruling} {r : Int} (hM : arbiter_order a b = some r) : Ct Try.prog 105 [(e_api_Ruling a), (e_api_Ruling b)] (V.i r) := by
 refine ct_of_gs CC_ok rfl ?_
 unfold arbiter_order at hM
 refine X.sq ?_
 iterate 2 refine X.opW rfl rfl rfl rfl ?_
 refine X.q rfl (GS.opsNil (GS.seq ?_))
 obtain ⟨y, h_1, hM⟩ := bind_of hM
 refine X.draw (by kernel_rfl) ?_
 iterate 4 refine X.dop rfl rfl rfl rfl (by kernel_rfl) rfl rfl ?_
 refine X.dcall (ok_cmp_Compare_int a.Case b.Case) rfl rfl rfl (by kernel_rfl) rfl (.cons (.shut (n := 9) rfl) (.cons (.shut (n := 9) rfl) .nil)) ?_
 iterate 4 refine X.dop rfl rfl rfl rfl (by kernel_rfl) rfl rfl ?_
 refine X.dcall (ok_cmp_Compare_int a.Round b.Round) rfl rfl rfl (by kernel_rfl) rfl (.cons (.shut (n := 9) rfl) (.cons (.shut (n := 9) rfl) .nil)) ?_
 iterate 4 refine X.dop rfl rfl rfl rfl (by kernel_rfl) rfl rfl ?_
 refine X.dcall (ok_cmp_Compare_int a.Finding b.Finding) rfl rfl rfl (by kernel_rfl) rfl (.cons (.shut (n := 9) rfl) (.cons (.shut (n := 9) rfl) .nil)) ?_
 refine X.dbld rfl rfl rfl rfl rfl (by kernel_rfl) rfl ?_
 refine X.dcall (ok_cmp_Or_int h_1) rfl rfl rfl (by kernel_rfl) rfl (.cons (.shut (n := 9) rfl) .nil) ?_
 refine X.dop rfl rfl rfl rfl (by kernel_rfl) rfl rfl ?_
 refine X.dnil ?_
 refine X.norm [(4, (V.i y))] ?_ rfl (sr rfl)
 cases hM
 exact GS.ret ⟨_, rfl, ⟨30, rfl⟩⟩
section
open Go.Wk Go.RowKit Go.Shelf
def encRul (x : api_Ruling) : List Value := [.int .i64 x.Case, .int .i64 x.Round, .int .i64 x.Finding]
theorem flatRul : X.Flat1 encRul 3 e_api_Ruling := by
 refine ⟨fun _ => rfl, fun x v hv => ?_, fun _ => rfl, fun x v hv c => ?_⟩ <;> simp only [encRul, List.mem_cons, List.not_mem_nil, or_false] at hv <;> rcases hv with rfl | rfl | rfl <;> first | rfl | (intro h; cases h)
def cfRul (x y : api_Ruling) : Int := if cmp_Compare_int x.Case y.Case = 0 then (if cmp_Compare_int x.Round y.Round = 0 then cmp_Compare_int x.Finding y.Finding else cmp_Compare_int x.Round y.Round) else cmp_Compare_int x.Case y.Case
theorem cmpI (a b : Int) : cmp_Compare_int a b = if a < b then -1 else if b < a then 1 else 0 := by
 unfold cmp_Compare_int cmp_isNaN_int
 simp
theorem ltRul (x y : api_Ruling) : decide (cfRul x y < 0) = lt_ruling x y := by
 have h : ∀ a b : Int, (cmp_Compare_int a b = 0 ↔ a = b) ∧ (cmp_Compare_int a b < 0 ↔ a < b) := fun a b => by
  rw [cmpI]
  by_cases h1 : a < b
  ·rw [if_pos h1]; exact ⟨⟨fun h => by omega, fun h => by omega⟩, ⟨fun _ => h1, fun _ => by omega⟩⟩
  ·rw [if_neg h1]
   by_cases h2 : b < a
   ·rw [if_pos h2]; exact ⟨⟨fun h => by omega, fun h => by omega⟩, ⟨fun h => by omega, fun h => by omega⟩⟩
   ·rw [if_neg h2]; exact ⟨⟨fun h => by omega, fun h => by omega⟩, ⟨fun h => by omega, fun h => by omega⟩⟩
 unfold cfRul lt_ruling
 rw [Bool.eq_iff_iff, decide_eq_true_eq]
 by_cases c1 : x.Case = y.Case
 ·rw [if_pos ((h _ _).1.2 c1)]
  by_cases c2 : x.Round = y.Round
  ·rw [if_pos ((h _ _).1.2 c2), (h _ _).2]
   simp [c1, c2]
  ·rw [if_neg (fun e => c2 ((h _ _).1.1 e)), (h _ _).2]
   simp [c1, c2]
 ·rw [if_neg (fun e => c1 ((h _ _).1.1 e)), (h _ _).2]
  simp [c1]
theorem swoRul : Go.Sort.SWO lt_ruling := ⟨fun x => by unfold lt_ruling; simp, fun x y z h1 h2 => by unfold lt_ruling at *; simp at *; omega, fun x y z h1 h2 => by unfold lt_ruling at *; simp at *; omega⟩
theorem cmpRul (x y : api_Ruling) : arbiter_order x y = some (cfRul x y) := by
 have key : ∀ (a b c : Int) (m : Nat), Lp (cmp_Or_int_b2 [a, b, c]) (m + 4) 0 = some (if a = 0 then (if b = 0 then c else b) else a) := fun a b c m => by
  by_cases h1 : a = 0
  ·have e0 : cmp_Or_int_b2 [a, b, c] 0 = some (.inl 1) := by simp [cmp_Or_int_b2, ix, w64, h1]
   rw [lp_next _ e0, if_pos h1]
   by_cases h2 : b = 0
   ·have e1 : cmp_Or_int_b2 [a, b, c] 1 = some (.inl 2) := by simp [cmp_Or_int_b2, ix, w64, h2]
    rw [lp_next _ e1, if_pos h2]
    by_cases h3 : c = 0
    ·have e2 : cmp_Or_int_b2 [a, b, c] 2 = some (.inl 3) := by simp [cmp_Or_int_b2, ix, w64, h3]
     have e3 : cmp_Or_int_b2 [a, b, c] 3 = some (.inr 0) := by simp [cmp_Or_int_b2, cmp_Or_int_j1]
     rw [lp_next _ e2, lp_done _ e3, h3]
    ·have e2 : cmp_Or_int_b2 [a, b, c] 2 = some (.inr c) := by simp [cmp_Or_int_b2, ix, h3]
     rw [lp_done _ e2]
   ·have e1 : cmp_Or_int_b2 [a, b, c] 1 = some (.inr b) := by simp [cmp_Or_int_b2, ix, h2]
    rw [lp_done _ e1, if_neg h2]
  ·have e0 : cmp_Or_int_b2 [a, b, c] 0 = some (.inr a) := by simp [cmp_Or_int_b2, ix, h1]
   rw [lp_done _ e0, if_neg h1]
 have h := key (cmp_Compare_int x.Case y.Case) (cmp_Compare_int x.Round y.Round) (cmp_Compare_int x.Finding y.Finding) 18446744073709551612
 unfold arbiter_order cmp_Or_int
 show Option.bind (Lp _ (18446744073709551612 + 4) 0) _ = _
 rw [h]; rfl
theorem by_ruling : X.SortBy Try.prog 104 105 3 e_api_Ruling lt_ruling := X.sortBy_ct Try.sortCl rfl (by decide) Try.isAgg35 Try.sizeOf35 flatRul ltRul swoRul (enters_of Try.func104 (by kernel_rfl) rfl) (fun x y => ok_arbiter_order (cmpRul x y))
end
theorem fold_arbiter_rulings_b3 (c : api_Court) : FoldOK (arbiter_rulings_b3 c) List.Perm := by
 refine ⟨fun _ => List.Perm.refl _, fun _ _ _ h1 h2 => h1.trans h2, ?_, ?_⟩
 ·rintro ⟨k, v⟩ s s' t hp h
  unfold arbiter_rulings_b3 arbiter_rulings_j4 at h ⊢
  obtain ⟨y, h1, h⟩ := bind_of h
  rw [h1]
  simp only [Option.bind_some]
  by_cases c : decide (y ≤ (v.length : Int)) = true
  ·rw [if_pos c] at h ⊢
   obtain ⟨r, h2, h⟩ := bind_of h
   obtain ⟨h3, rfl⟩ := app_of h2
   simp only [Option.some.injEq] at h
   subst h
   refine ⟨s' ++ [k], ?_, hp.append_right [k]⟩
   unfold app
   rw [if_pos (by rw [← hp.length_eq]; exact h3)]
   rfl
  ·rw [if_neg c] at h ⊢
   simp only [Option.some.injEq] at h
   subst h
   exact ⟨s', rfl, hp⟩
 ·rintro ⟨k, v⟩ ⟨k', v'⟩ s t u h h'
  unfold arbiter_rulings_b3 arbiter_rulings_j4 at h h' ⊢
  obtain ⟨y, h1, h⟩ := bind_of h
  rw [h1] at h'
  rw [h1]
  simp only [Option.bind_some] at h' ⊢
  by_cases c : decide (y ≤ (v.length : Int)) = true
  ·rw [if_pos c] at h
   obtain ⟨r, h2, h⟩ := bind_of h
   obtain ⟨h3, rfl⟩ := app_of h2
   simp only [Option.some.injEq] at h
   subst h
   by_cases c' : decide (y ≤ (v'.length : Int)) = true
   ·rw [if_pos c'] at h' ⊢
    obtain ⟨r, h4, h'⟩ := bind_of h'
    obtain ⟨h5, rfl⟩ := app_of h4
    simp only [Option.some.injEq] at h'
    subst h'
    simp only [List.length_append, List.length_singleton] at h3 h5
    refine ⟨s ++ [k'], s ++ [k'] ++ [k], ?_, ?_, ?_⟩
    ·unfold app; rw [if_pos (by simp only [List.length_singleton]; omega)]; rfl
    ·rw [if_pos c]; unfold app; rw [if_pos (by simp only [List.length_append, List.length_singleton]; omega)]; rfl
    ·rw [List.append_assoc, List.append_assoc]; exact List.Perm.append_left s (List.Perm.swap k' k [])
   ·rw [if_neg c'] at h' ⊢
    simp only [Option.some.injEq] at h'
    subst h'
    refine ⟨s, s ++ [k], rfl, ?_, List.Perm.refl _⟩
    rw [if_pos c]; unfold app; rw [if_pos h3]; rfl
  ·rw [if_neg c] at h
   simp only [Option.some.injEq] at h
   subst h
   by_cases c' : decide (y ≤ (v'.length : Int)) = true
   ·rw [if_pos c'] at h' ⊢
    obtain ⟨r, h4, h'⟩ := bind_of h'
    obtain ⟨h5, rfl⟩ := app_of h4
    simp only [Option.some.injEq] at h'
    subst h'
    refine ⟨s ++ [k'], s ++ [k'], ?_, ?_, List.Perm.refl _⟩
    ·unfold app; rw [if_pos h5]; rfl
    ·rw [if_neg c]
   ·rw [if_neg c'] at h' ⊢
    simp only [Option.some.injEq] at h'
    subst h'
    exact ⟨s, s, rfl, by rw [if_neg c], List.Perm.refl _⟩
theorem sorted_perm {l l' : List api_Ruling} (hp : l.Perm l') : srtF lt_ruling l = srtF lt_ruling l' := by
 obtain ⟨p1, s1⟩ := srtF_spec swoRul l
 obtain ⟨p2, s2⟩ := srtF_spec swoRul l'
 refine List.Perm.eq_of_pairwise (le := fun x y => lt_ruling y x = false) (fun a b _ _ h1 h2 => ?_) s1 s2 ((p1.trans hp).trans p2.symm)
 unfold lt_ruling at h1 h2
 simp at h1 h2
 obtain ⟨a1, a2, a3⟩ := a
 obtain ⟨b1, b2, b3⟩ := b
 simp only at h1 h2
 have e1 : a1 = b1 := by omega
 subst e1
 have e2 : a2 = b2 := by
  have := h1.2 rfl
  have := h2.2 rfl
  omega
 subst e2
 have e3 : a3 = b3 := by
  have := (h1.2 rfl).2 rfl
  have := (h2.2 rfl).2 rfl
  omega
 subst e3
 rfl
theorem inv_arbiter_rulings_j5 {l l' r : List api_Ruling} (hp : l.Perm l') (h : arbiter_rulings_j5 l = some r) : arbiter_rulings_j5 l' = some r := by
 unfold arbiter_rulings_j5 arbiter_rulings_j2 srtFO at h ⊢
 rw [hp.length_eq, sorted_perm hp] at h
 exact h
set_option maxHeartbeats 4000000 in
theorem ok_arbiter_rulings {c : api_Court} {l : (List api_Letter)} {r : (List api_Ruling)} (hM : arbiter_rulings c l = some r) : Ct Try.prog 58 [(e_api_Court c), (V.sl (List.map e_api_Letter l))] (V.sl (List.map e_api_Ruling r)) := by
 refine ct_of_gs CC_ok rfl ?_
 unfold arbiter_rulings at hM
 refine X.sq ?_
 refine X.opW rfl rfl rfl rfl (X.q rfl (X.nq ?_))
 refine X.opW (H' := ([.rows 1 [(e_api_Court c)], famM fk_124 2 []] ++ famB fk_124 [])) rfl rfl rfl rfl (X.q rfl (GS.opsNil (GS.seq (X.sq (X.q rfl ?_)))))
 refine X.opR rfl (X.lenF rfl rfl rfl) rfl (X.q rfl (GS.opsNil ?_))
 refine X.join (τ := (List (api_Ruling × (List (Int × Bool))))) (fun v => arbiter_rulings_j1 c v = some r) (fun v => ⟨[(2, (V.ptr 0 0 0)), (5, (V.map 1))], ([.rows 1 [(e_api_Court c)], famM fk_124 2 v] ++ famB fk_124 v), 0, none, 61⟩) ?_ ?_
 ·intro m hM
  replace hM : arbiter_rulings_j1 c m = some r := hM
  unfold arbiter_rulings_j1 at hM
  refine X.sq (X.q rfl (GS.opsNil ?_))
  iterate 2 refine GS.seq ?_
  refine GS.freezeW (K' := [(2, (V.fptr [(e_api_Court c)] 0 0)), (5, (V.fmap (List.map (fun p : api_Ruling × (List (Int × Bool)) => e_api_Ruling p.1) m) (List.map (fun p : api_Ruling × (List (Int × Bool)) => (fun l => V.fmap (List.map (fun p => V.i p.1) l) (List.map (fun p => V.b p.2) l)) p.2) m))), (9, V.nil)]) (X.fw_cons rfl ⟨30, rfl⟩ (X.fw_cons rfl (X.frM rfl rfl (fun _ _ => rfl) (fun _ _ => rfl) (fun _ _ => rfl)) (X.fw_lit rfl X.fw_nil))) (GS.region ?_)
  refine X.q rfl ?_
  refine X.opW (H' := [.iter (List.map (fun p : api_Ruling × (List (Int × Bool)) => e_api_Ruling p.1) m) (List.map (fun p : api_Ruling × (List (Int × Bool)) => (fun l => V.fmap (List.map (fun p => V.i p.1) l) (List.map (fun p => V.b p.2) l)) p.2) m) (idxs 0 (List.length (List.map (fun p : api_Ruling × (List (Int × Bool)) => e_api_Ruling p.1) m))) none]) rfl rfl rfl rfl (GS.opsNil ?_)
  refine X.join (τ := (List api_Ruling)) (fun v => arbiter_rulings_j2 v = some r) (fun v => ⟨[(9, (ovl 0 v))], [obl 3 e_api_Ruling v], 0, none, 61⟩) ?_ ?_
  ·intro l1 hM
   replace hM : arbiter_rulings_j2 l1 = some r := hM
   unfold arbiter_rulings_j2 at hM
   refine GS.seq ?_
   obtain ⟨l2, h_1, hM⟩ := bind_of hM
   refine GS.region (X.q rfl ?_)
   refine X.norm [(9, (ovl 0 l1)), (58, (ovl 0 l1))] ?_ rfl (sr rfl)
   refine X.sortF (z := true) h_1 by_ruling (fun _ _ _ h => h) (K' := [(9, (ovl 0 l2)), (58, (ovl 0 l2))]) (H' := [obl 3 e_api_Ruling l2]) rfl rfl rfl rfl rfl rfl ?_ ?_ ?_
   ·first | rfl | rw [X.ovlz_len (X.srtFO_len by_ruling.swo h_1)] | simp only [ovl, X.ovlz_len (X.srtFO_len by_ruling.swo h_1)] | simp only [X.srtFO_len by_ruling.swo h_1]
   ·first | rfl | (simp only [hput]; rfl) | (simp only [ovl, obl]; rw [X.ovlz_len (X.srtFO_len by_ruling.swo h_1)] <;> rfl)
   refine X.nq (X.q rfl (X.q rfl ?_))
   refine GS.opsNil ?_
   have hE := Option.some.inj hM
   subst hE
   exact GS.ret ⟨_, rfl, FR.ovl (f := e_api_Ruling) (l := l2) 9 rfl rfl (fun _ => rfl)⟩
  intro hj_2
  refine GS.block ?_
  obtain ⟨vE_3, hF_3, hM⟩ := bind_of hM
  refine X.gc [none, some 0] (X.rangeM (ga := e_api_Ruling) (gb := (fun l => V.fmap (List.map (fun p => V.i p.1) l) (List.map (fun p => V.b p.2) l))) (f0 := arbiter_rulings_b3 c) (fun v left last => ⟨[(2, (V.fptr [(e_api_Court c)] 0 0)), (9, (ovl 0 v)), (43, (V.ptr 1 0 0))], [obl 3 e_api_Ruling v, .iter (List.map (fun p : api_Ruling × (List (Int × Bool)) => e_api_Ruling p.1) m) (List.map (fun p : api_Ruling × (List (Int × Bool)) => (fun l => V.fmap (List.map (fun p => V.i p.1) l) (List.map (fun p => V.b p.2) l)) p.2) m) left last], 0, none, 61⟩) hF_3 (fold_arbiter_rulings_b3 c) ?_ ?_ rfl) rfl rfl rfl (ga rfl rfl) (gb_pad' rfl (X.gb_iter rfl rfl gb_nil))
  ·intro l5 left last hne_3 hs_3
   refine X.sq ?_
   refine X.next rfl rfl rfl rfl rfl (fun e => absurd e hne_3) (fun j_3 kv_3 vv_3 hj_3 hk_3 hv_3 => ?_)
   obtain ⟨⟨k, v⟩, w_3, rfl, rfl, hM, hc_3⟩ := hs_3 j_3 kv_3 vv_3 hj_3 hk_3 hv_3
   unfold arbiter_rulings_b3 at hM
   refine X.q rfl (GS.opsNil (GS.seq ?_))
   refine GS.condT rfl (GS.skip ?_)
   refine X.join (τ := (List api_Ruling)) (fun v => arbiter_rulings_j4 v = some w_3) (fun v => ⟨[(2, (V.fptr [(e_api_Court c)] 0 0)), (9, (ovl 0 v)), (43, (V.ptr 1 0 0))], [obl 3 e_api_Ruling v, .iter (List.map (fun p : api_Ruling × (List (Int × Bool)) => e_api_Ruling p.1) m) (List.map (fun p : api_Ruling × (List (Int × Bool)) => (fun l => V.fmap (List.map (fun p => V.i p.1) l) (List.map (fun p => V.b p.2) l)) p.2) m) (List.filter (fun i => decide (i ≠ j_3)) left) (some j_3)], 0, none, 61⟩) ?_ ?_
   ·intro l3 hM
    replace hM : arbiter_rulings_j4 l3 = some w_3 := hM
    unfold arbiter_rulings_j4 at hM
    have hE := Option.some.inj hM
    subst hE
    exact X.gc [some 0, some 1] hc_3 rfl rfl rfl (gk_cons rfl ⟨9, rfl⟩ (gk_cons rfl (rn_ovl rfl) (ga rfl rfl))) (gb_obl 9 rfl rfl (fun _ => rfl) (X.gb_iter rfl rfl gb_nil))
   intro hj_4
   refine GS.block (X.sq ?_)
   refine X.entry rfl rfl rfl hk_3 hv_3 rfl (X.q rfl (X.q rfl ?_))
   refine X.opW rfl rfl rfl rfl ?_
   refine X.op0W rfl rfl rfl (X.q rfl (GS.opsNil (GS.seq ?_)))
   obtain ⟨y, h_2, hM⟩ := bind_of hM
   refine GS.region (X.q rfl ?_)
   refine X.opR rfl (X.lenMF rfl rfl rfl) rfl (X.q rfl ?_)
   refine X.call (ok_arbiter_Majority h_2) rfl rfl rfl (.cons (.shut (n := 9) rfl) .nil) (X.q rfl (GS.opsNil ?_))
   refine X.cond rfl (fun h_3 => ?_) (fun h_3 => ?_)
   ·replace hM := ite_t h_3 hM
    obtain ⟨l4, h_4, hM⟩ := bind_of hM
    refine GS.region (X.q rfl (X.q rfl ?_))
    refine X.opW (H' := [obl 3 e_api_Ruling l5, .iter (List.map (fun p : api_Ruling × (List (Int × Bool)) => e_api_Ruling p.1) m) (List.map (fun p : api_Ruling × (List (Int × Bool)) => (fun l => V.fmap (List.map (fun p => V.i p.1) l) (List.map (fun p => V.b p.2) l)) p.2) m) (List.filter (fun i => decide (i ≠ j_3)) left) (some j_3), .rows 3 [(e_api_Ruling k)], .rows 3 (List.map e_api_Ruling ([k]))]) rfl rfl rfl rfl ?_
    refine X.appN (f := e_api_Ruling) h_4 (fun _ => rfl) (by rfl) (by rfl) (by rfl) (by rfl) (by rfl) (by rfl) (by rfl) (by rfl) (by rfl) (by rfl) (by rfl) (by exact rfl) (by rfl) (by rfl) (X.q rfl (GS.opsNil ?_))
    refine GS.endB ?_
    exact X.gc [some 4, some 1] (hj_4 l4 hM) rfl rfl rfl (gk_cons rfl ⟨9, rfl⟩ (gk_cons rfl (rv_ne (app_ne h_4) rfl) (ga rfl rfl))) (gb_obl' 9 (app_ne h_4) rfl rfl (fun _ => rfl) (X.gb_iter rfl rfl gb_nil))
   replace hM := ite_f h_3 hM
   refine GS.skip ?_
   refine GS.endB ?_
   exact X.gc [some 0, some 1] (hj_4 l5 hM) rfl rfl rfl (gk_cons rfl ⟨9, rfl⟩ (gk_cons rfl (rn_ovl rfl) (ga rfl rfl))) (gb_obl 9 rfl rfl (fun _ => rfl) (X.gb_iter rfl rfl gb_nil))
  intro l5 last hrel_3
  replace hM : arbiter_rulings_j5 l5 = some r := inv_arbiter_rulings_j5 hrel_3 hM
  unfold arbiter_rulings_j5 at hM
  refine X.sq ?_
  refine X.next rfl rfl rfl rfl rfl (fun _ => ?_) (fun j_ kv_ vv_ hj_ => absurd hj_ List.not_mem_nil)
  refine X.q rfl (GS.opsNil (GS.seq ?_))
  refine GS.condF rfl ?_
  refine GS.exit rfl ?_
  exact X.gc [some 0] (hj_2 l5 hM) rfl rfl rfl (gk_cons rfl (rn_ovl rfl) gk_nil) (gb_obl 9 rfl rfl (fun _ => rfl) gb_nil)
 intro hj_1
 refine GS.block ?_
 refine X.gcFam 2 2 1 1 [some 0, some 1] (P0 := [.rows 1 [(e_api_Court c)], .dead]) rfl (X.loop (σ := (Int × (List (api_Ruling × (List (Int × Bool)))))) (fun v => ⟨[(2, (V.ptr 0 0 0)), (5, (V.map 1)), (13, (V.sl (List.map e_api_Letter l))), (14, (V.i (l.length : Int))), (15, (V.i v.1))], ([.rows 1 [(e_api_Court c)], famM fk_124 2 v.2] ++ famB fk_124 v.2), 0, none, 61⟩) hM ?_ rfl) rfl rfl rfl rfl (ga rfl rfl) (gb9 rfl rfl rfl (gb_pad gb_nil)) rfl rfl rfl rfl rfl
 rintro ⟨x1, m4⟩ b_1 hM hc_6 hr_1
 rw [arbiter_rulings_b6] at hM
 refine X.sq (X.q rfl (GS.opsNil (GS.seq ?_)))
 refine X.cond rfl (fun h_5 => ?_) (fun h_5 => ?_)
 ·replace hM := ite_t h_5 hM
  refine GS.skip (GS.seq ?_)
  refine X.join (τ := (List (api_Ruling × (List (Int × Bool))))) (fun v => arbiter_rulings_j7 x1 v = some b_1) (fun v => ⟨[(2, (V.ptr 0 0 0)), (5, (V.map 1)), (13, (V.sl (List.map e_api_Letter l))), (14, (V.i (l.length : Int))), (15, (V.i x1))], ([.rows 1 [(e_api_Court c)], famM fk_124 2 v] ++ famB fk_124 v), 0, none, 61⟩) ?_ ?_
  ·intro m1 hM
   replace hM : arbiter_rulings_j7 x1 m1 = some b_1 := hM
   unfold arbiter_rulings_j7 at hM
   refine GS.region ?_
   refine X.opR rfl (X.addE rfl rfl) rfl (X.q rfl (GS.opsNil ?_))
   have hE := Option.some.inj hM
   exact X.gcFam 2 2 1 1 [some 0, some 1] (P0 := [.rows 1 [(e_api_Court c)], .dead]) rfl (hc_6 (w64 (x1 + 1), m1) hE.symm) rfl rfl rfl rfl (ga rfl rfl) (gb9 rfl rfl rfl (gb_pad gb_nil)) rfl rfl rfl rfl rfl
  intro hj_7
  refine GS.block (GS.seq ?_)
  obtain ⟨x, h_6, hM⟩ := bind_of hM
  refine GS.region ?_
  refine X.opR rfl (X.indexF (f := e_api_Letter) h_6 (fun _ => rfl) rfl rfl rfl rfl) rfl ?_
  refine X.opR rfl (X.loadF h_6 rfl rfl rfl) rfl ?_
  refine X.famAlloc (F := fk_124) (A := m4) (P0 := [.rows 1 [(e_api_Court c)], .dead]) (P2 := [.rows 1 [(e_api_Court c)], famM fk_124 3 m4, .rows 8 [(V.agg [(V.i 0), (V.i 0), (V.i 0), (V.i 0), (V.i 0), (V.i 0), (V.i 0), (V.i 0)])]]) 2 1 [some 0, some 1] [(2, (V.ptr 0 0 0)), (5, (V.map 1)), (13, (V.sl (List.map e_api_Letter l))), (14, (V.i (l.length : Int))), (15, (V.i x1)), (18, (e_api_Letter x))] rfl (fun _ _ => rfl) (by intro h; cases h) rfl rfl rfl rfl rfl rfl rfl rfl rfl rfl rfl (gk_cons rfl ⟨9, rfl⟩ (gk_cons rfl ⟨9, rfl⟩ (gk_cons rfl ⟨9, rfl⟩ (gk_cons rfl ⟨9, rfl⟩ (gk_cons rfl ⟨9, rfl⟩ (gk_cons rfl ⟨9, rfl⟩ gk_nil)))))) (gb_box rfl rfl ⟨9, rfl⟩ (gb_pad gb_nil)) rfl ?_
  refine X.op0W (H' := ([.rows 1 [(e_api_Court c)], famM fk_124 3 m4, .rows 8 [(e_api_Letter x)]] ++ famB fk_124 m4)) rfl rfl rfl (GS.opsNil (GS.seq (X.sq (X.q rfl (X.q rfl (X.q rfl ?_))))))
  refine GS.opsNil ?_
  refine X.cond rfl (fun h_7 => ?_) (fun h_7 => ?_)
  ·replace hM := ite_t h_7 hM
   refine GS.exit rfl ?_
   exact X.gcFam 3 2 1 1 [some 0, some 1] (P0 := [.rows 1 [(e_api_Court c)], .dead]) rfl (hj_7 m4 hM) rfl rfl rfl rfl (ga rfl rfl) (gb9 rfl rfl rfl (gb_pad gb_nil)) rfl rfl rfl rfl rfl
  replace hM := ite_f h_7 hM
  refine GS.skip (X.sq ?_)
  iterate 7 refine X.q rfl ?_
  refine X.famAlloc (F := fk_124) (A := m4) (P0 := [.rows 1 [(e_api_Court c)], .dead, .rows 8 [(e_api_Letter x)]]) (P2 := [.rows 1 [(e_api_Court c)], famM fk_124 4 m4, .rows 8 [(e_api_Letter x)], .rows 3 [(V.agg [(V.i 0), (V.i 0), (V.i 0)])]]) 3 1 [some 0, some 1, some 2] [(2, (V.ptr 0 0 0)), (5, (V.map 1)), (7, (V.ptr 2 0 0)), (13, (V.sl (List.map e_api_Letter l))), (14, (V.i (l.length : Int))), (15, (V.i x1)), (28, (V.agg [(V.i x.Case), (V.i x.Round), (V.i x.Finding)]))] rfl (fun _ _ => rfl) (by intro h; cases h) rfl rfl rfl rfl rfl rfl rfl rfl rfl rfl rfl (gk_cons rfl ⟨9, rfl⟩ (gk_cons rfl ⟨9, rfl⟩ (gk_cons rfl ⟨9, rfl⟩ (gk_cons rfl ⟨9, rfl⟩ (gk_cons rfl ⟨9, rfl⟩ (gk_cons rfl ⟨9, rfl⟩ (gk_cons rfl ⟨9, rfl⟩ gk_nil))))))) (gb_box rfl rfl ⟨9, rfl⟩ (gb_pad (gb_box rfl rfl ⟨9, rfl⟩ gb_nil))) rfl ?_
  refine X.op0W (H' := ([.rows 1 [(e_api_Court c)], famM fk_124 4 m4, .rows 8 [(e_api_Letter x)], .rows 3 [(V.agg [(V.i x.Case), (V.i x.Round), (V.i x.Finding)])]] ++ famB fk_124 m4)) rfl rfl rfl (GS.opsNil (GS.seq (X.sq (X.q rfl (X.q rfl ?_)))))
  refine X.opR rfl (X.famLookE (F := fk_124) (A := m4) (b := 4) (k0 := (⟨x.Case, x.Round, x.Finding⟩ : api_Ruling)) key_api_Ruling rfl rfl rfl rfl rfl rfl) rfl ?_
  refine X.opR rfl (X.famNil rfl rfl rfl rfl) rfl (GS.opsNil ?_)
  refine X.join (τ := (List (api_Ruling × (List (Int × Bool))))) (fun v => arbiter_rulings_j8 x1 x v = some b_1) (fun v => ⟨[(2, (V.ptr 0 0 0)), (5, (V.map 1)), (7, (V.ptr 2 0 0)), (8, (V.ptr 3 0 0)), (13, (V.sl (List.map e_api_Letter l))), (14, (V.i (l.length : Int))), (15, (V.i x1))], ([.rows 1 [(e_api_Court c)], famM fk_124 4 v, .rows 8 [(e_api_Letter x)], .rows 3 [(V.agg [(V.i x.Case), (V.i x.Round), (V.i x.Finding)])]] ++ famB fk_124 v), 0, none, 61⟩) ?_ ?_
  ·intro m2 hM
   replace hM : arbiter_rulings_j8 x1 x m2 = some b_1 := hM
   unfold arbiter_rulings_j8 at hM
   refine X.drawCut0 5 rfl (by kernel_rfl) (by kernel_rfl) rfl ?_
   iterate 2 refine X.dop rfl rfl rfl rfl (by kernel_rfl) rfl rfl ?_
   refine X.dop rfl (X.famLookE (F := fk_124) (A := m2) (b := 4) (k0 := (⟨x.Case, x.Round, x.Finding⟩ : api_Ruling)) key_api_Ruling rfl rfl rfl rfl rfl rfl) rfl rfl (by kernel_rfl) rfl rfl ?_
   iterate 2 refine X.dop rfl rfl rfl rfl (by kernel_rfl) rfl rfl ?_
   refine X.dnil ?_
   refine X.norm [(2, (V.ptr 0 0 0)), (5, (V.map 1)), (13, (V.sl (List.map e_api_Letter l))), (14, (V.i (l.length : Int))), (15, (V.i x1)), (38, (famLook fk_124 4 m2 (⟨x.Case, x.Round, x.Finding⟩ : api_Ruling))), (40, (V.i x.From))] ?_ rfl (sr rfl)
   obtain ⟨m3, h_8, hM⟩ := bind_of hM
   refine X.famIn (P := [.rows 1 [(e_api_Court c)], famM fk_124 4 m2, .rows 8 [(e_api_Letter x)], .rows 3 [(V.agg [(V.i x.Case), (V.i x.Round), (V.i x.Finding)])]]) (b := 4) (g := e_api_Ruling) (f1 := V.i) (f2 := V.b) (A := m2) (a := x.From) (c := true) (pos0 := posE) (pos1 := posI) (P2 := [.rows 1 [(e_api_Court c)], famM fk_124 4 (putM posE m2 (⟨x.Case, x.Round, x.Finding⟩ : api_Ruling) (putM posI m3 x.From true)), .rows 8 [(e_api_Letter x)], .rows 3 [(V.agg [(V.i x.Case), (V.i x.Round), (V.i x.Finding)])]]) 1 h_8 X.keyEq_i (X.posI_ok _) rfl rfl rfl rfl rfl rfl rfl rfl rfl rfl (GS.opsNil ?_)
   refine GS.endB ?_
   exact X.gcFam 4 2 1 1 [some 0, some 1] (P0 := [.rows 1 [(e_api_Court c)], .dead]) rfl (hj_7 (putM posE m2 (⟨x.Case, x.Round, x.Finding⟩ : api_Ruling) (putM posI m3 x.From true)) hM) rfl rfl rfl rfl (ga rfl rfl) (gb9 rfl rfl rfl (gb_pad gb_nil)) rfl rfl rfl rfl rfl
  intro hj_8
  refine X.cond rfl (fun h_9 => ?_) (fun h_9 => ?_)
  ·replace hM := ite_t h_9 hM
   refine GS.region (X.q rfl (X.q rfl ?_))
   refine X.opW (H' := ([.rows 1 [(e_api_Court c)], famM fk_124 4 m4, .rows 8 [(e_api_Letter x)], .rows 3 [(V.agg [(V.i x.Case), (V.i x.Round), (V.i x.Finding)])]] ++ famB fk_124 m4) ++ [.map [] []]) rfl rfl X.puts_end rfl ?_
   refine X.famPutNew (F := fk_124) (A := m4) (pos0 := posE) (P0 := [.rows 1 [(e_api_Court c)], .dead, .rows 8 [(e_api_Letter x)], .rows 3 [(V.agg [(V.i x.Case), (V.i x.Round), (V.i x.Finding)])]]) (P2 := [.rows 1 [(e_api_Court c)], famM fk_124 4 (putM posE m4 (⟨x.Case, x.Round, x.Finding⟩ : api_Ruling) []), .rows 8 [(e_api_Letter x)], .rows 3 [(V.agg [(V.i x.Case), (V.i x.Round), (V.i x.Finding)])]]) (x0 := []) 4 1 [some 0, some 1, some 2, some 3] [(2, (V.ptr 0 0 0)), (5, (V.map 1)), (7, (V.ptr 2 0 0)), (8, (V.ptr 3 0 0)), (13, (V.sl (List.map e_api_Letter l))), (14, (V.i (l.length : Int))), (15, (V.i x1))] rfl key_api_Ruling (fun l => (X.insAt_agg _ _).trans (List.length_map ..)) rfl rfl rfl rfl rfl rfl rfl rfl rfl rfl rfl rfl rfl rfl rfl (gk_cons rfl ⟨9, rfl⟩ (gk_cons rfl ⟨9, rfl⟩ (gk_cons rfl ⟨9, rfl⟩ (gk_cons rfl ⟨9, rfl⟩ (gk_cons rfl ⟨9, rfl⟩ (gk_cons rfl ⟨9, rfl⟩ (gk_cons rfl ⟨9, rfl⟩ gk_nil))))))) (gb_box rfl rfl ⟨9, rfl⟩ (gb_pad (gb_box rfl rfl ⟨9, rfl⟩ (gb_box rfl rfl ⟨9, rfl⟩ gb_nil)))) rfl (GS.opsNil ?_)
   exact X.gcFam 4 4 1 1 [some 0, some 1, some 2, some 3] (P0 := [.rows 1 [(e_api_Court c)], .dead, .rows 8 [(e_api_Letter x)], .rows 3 [(V.agg [(V.i x.Case), (V.i x.Round), (V.i x.Finding)])]]) rfl (hj_8 (putM posE m4 (⟨x.Case, x.Round, x.Finding⟩ : api_Ruling) []) hM) rfl rfl rfl rfl (ga rfl rfl) (gb9 rfl rfl rfl (gb_pad (gb9 rfl rfl rfl (gb9 rfl rfl rfl gb_nil)))) rfl rfl rfl rfl rfl
  replace hM := ite_f h_9 hM
  refine GS.skip ?_
  exact X.gcFam 4 4 1 1 [some 0, some 1, some 2, some 3] (P0 := [.rows 1 [(e_api_Court c)], .dead, .rows 8 [(e_api_Letter x)], .rows 3 [(V.agg [(V.i x.Case), (V.i x.Round), (V.i x.Finding)])]]) rfl (hj_8 m4 hM) rfl rfl rfl rfl (ga rfl rfl) (gb9 rfl rfl rfl (gb_pad (gb9 rfl rfl rfl (gb9 rfl rfl rfl gb_nil)))) rfl rfl rfl rfl rfl
 replace hM := ite_f h_5 hM
 refine GS.exit rfl ?_
 obtain ⟨y_1, hM, hy⟩ := map_of hM
 rw [hr_1 _ hy.symm] at hM
 exact X.gcFam 2 2 1 1 [some 0, some 1] (P0 := [.rows 1 [(e_api_Court c)], .dead]) rfl (hj_1 m4 hM) rfl rfl rfl rfl (ga rfl rfl) (gb9 rfl rfl rfl (gb_pad gb_nil)) rfl rfl rfl rfl rfl
theorem ok_arbiter_Rulings {c : api_Court} {l : (List api_Letter)} {r : (List api_Ruling) × Int} (hM : arbiter_Rulings c l = some r) : Ct Try.prog 19 [(e_api_Court c), (V.sl (List.map e_api_Letter l))] (V.tup [(V.sl (List.map e_api_Ruling r.1)), (V.i r.2)]) := by
 refine ct_of_gs CC_ok rfl ?_
 unfold arbiter_Rulings at hM
 refine X.sq ?_
 refine X.opW rfl rfl rfl rfl (X.q rfl (X.q rfl ?_))
 refine GS.opsNil ?_
 iterate 2 refine GS.seq ?_
 obtain ⟨y, h_1, hM⟩ := bind_of hM
 refine GS.region (X.q rfl (X.q rfl ?_))
 refine X.call (ok_arbiter_read h_1) rfl rfl rfl (.cons (.shut (n := 9) rfl) (.cons (.shut (n := 9) rfl) .nil)) (X.q rfl (X.nq (X.q rfl (X.q rfl ?_))))
 refine GS.opsNil ?_
 refine X.cond rfl (fun h_2 => ?_) (fun h_2 => ?_)
 ·replace hM := ite_t h_2 hM
  refine X.sq (X.q rfl (X.q rfl (X.q rfl ?_)))
  refine GS.opsNil ?_
  cases hM
  exact GS.ret ⟨_, rfl, ⟨30, rfl⟩⟩
 replace hM := ite_f h_2 hM
 refine GS.skip (GS.seq ?_)
 obtain ⟨y1, h_3, hM⟩ := bind_of hM
 refine GS.region (X.q rfl (X.q rfl ?_))
 refine X.call (ok_arbiter_rulings h_3) rfl rfl rfl (.cons (.shut (n := 9) rfl) (.cons (.shut (n := 9) rfl) .nil)) (X.q rfl (X.q rfl ?_))
 refine GS.opsNil ?_
 cases hM
 exact GS.ret ⟨_, rfl, ⟨30, rfl⟩⟩
theorem ok_arbiter_picked {l : (List api_Letter)} {r : Int × Bool} (hM : arbiter_picked l = some r) : Ct Try.prog 52 [(V.sl (List.map e_api_Letter l))] (V.tup [(V.i r.1), (V.b r.2)]) := by
 refine ct_of_gs CC_ok rfl ?_
 unfold arbiter_picked at hM
 refine X.sq (X.q rfl (X.q rfl ?_))
 refine X.nq ?_
 refine X.opW rfl rfl rfl rfl (GS.opsNil (GS.seq (X.sq (X.q rfl ?_))))
 refine X.opR rfl (X.lenF rfl rfl rfl) rfl (X.q rfl (GS.opsNil ?_))
 refine X.join (τ := Int × Int × Int × Int × Int × Int × Int × Int) (fun v => arbiter_picked_j1 v.1 v.2.1 v.2.2.1 v.2.2.2.1 v.2.2.2.2.1 v.2.2.2.2.2.1 v.2.2.2.2.2.2.1 v.2.2.2.2.2.2.2 = some r) (fun v => ⟨[(4, (V.ptr 0 0 0))], [.rows 8 [(V.agg [(V.i v.1), (V.i v.2.1), (V.i v.2.2.1), (V.i v.2.2.2.1), (V.i v.2.2.2.2.1), (V.i v.2.2.2.2.2.1), (V.i v.2.2.2.2.2.2.1), (V.i v.2.2.2.2.2.2.2)])]], 0, none, 25⟩) ?_ ?_
 ·rintro ⟨ID, Case, Kind, Round, From, To, Voted, Finding⟩ hM
  replace hM : arbiter_picked_j1 ID Case Kind Round From To Voted Finding = some r := hM
  unfold arbiter_picked_j1 at hM
  refine GS.seq ?_
  refine X.drawc (by kernel_rfl) rfl ?_
  iterate 7 refine X.cop rfl rfl rfl rfl ?_
  refine X.cnil ?_
  refine X.norm [(2, (V.i Finding)), (3, (V.b (decide (0 < Voted))))] ?_ rfl (sr rfl)
  cases hM
  exact GS.ret ⟨_, rfl, ⟨30, rfl⟩⟩
 intro hj_1
 refine GS.block ?_
 refine X.gc [some 0] (X.loop (σ := (Int × Int × Int × Int × Int × Int × Int × Int × Int)) (fun v => ⟨[(4, (V.ptr 0 0 0)), (7, (V.sl (List.map e_api_Letter l))), (8, (V.i (l.length : Int))), (9, (V.i v.1))], [.rows 8 [(V.agg [(V.i v.2.1), (V.i v.2.2.1), (V.i v.2.2.2.1), (V.i v.2.2.2.2.1), (V.i v.2.2.2.2.2.1), (V.i v.2.2.2.2.2.2.1), (V.i v.2.2.2.2.2.2.2.1), (V.i v.2.2.2.2.2.2.2.2)])]], 0, none, 25⟩) hM ?_ rfl) rfl rfl rfl (ga rfl rfl) (gb9 rfl rfl rfl gb_nil)
 rintro ⟨x1, ID2, Case2, Kind2, Round2, From2, To2, Voted2, Finding2⟩ b_1 hM hc_2 hr_1
 rw [arbiter_picked_b2] at hM
 refine X.sq (X.q rfl (GS.opsNil (GS.seq ?_)))
 refine X.cond rfl (fun h_1 => ?_) (fun h_1 => ?_)
 ·replace hM := ite_t h_1 hM
  refine GS.skip (GS.seq ?_)
  refine X.join (τ := Int × Int × Int × Int × Int × Int × Int × Int) (fun v => arbiter_picked_j3 x1 v.1 v.2.1 v.2.2.1 v.2.2.2.1 v.2.2.2.2.1 v.2.2.2.2.2.1 v.2.2.2.2.2.2.1 v.2.2.2.2.2.2.2 = some b_1) (fun v => ⟨[(4, (V.ptr 0 0 0)), (7, (V.sl (List.map e_api_Letter l))), (8, (V.i (l.length : Int))), (9, (V.i x1))], [.rows 8 [(V.agg [(V.i v.1), (V.i v.2.1), (V.i v.2.2.1), (V.i v.2.2.2.1), (V.i v.2.2.2.2.1), (V.i v.2.2.2.2.2.1), (V.i v.2.2.2.2.2.2.1), (V.i v.2.2.2.2.2.2.2)])]], 0, none, 25⟩) ?_ ?_
  ·rintro ⟨ID1, Case1, Kind1, Round1, From1, To1, Voted1, Finding1⟩ hM
   replace hM : arbiter_picked_j3 x1 ID1 Case1 Kind1 Round1 From1 To1 Voted1 Finding1 = some b_1 := hM
   unfold arbiter_picked_j3 at hM
   refine GS.region ?_
   refine X.opR rfl (X.addE rfl rfl) rfl (X.q rfl (GS.opsNil ?_))
   have hE := Option.some.inj hM
   exact X.gc [some 0] (hc_2 (w64 (x1 + 1), ID1, Case1, Kind1, Round1, From1, To1, Voted1, Finding1) hE.symm) rfl rfl rfl (ga rfl rfl) (gb9 rfl rfl rfl gb_nil)
  intro hj_3
  refine GS.block (GS.seq ?_)
  obtain ⟨x, h_2, hM⟩ := bind_of hM
  refine GS.region ?_
  refine X.opR rfl (X.indexF (f := e_api_Letter) h_2 (fun _ => rfl) rfl rfl rfl rfl) rfl ?_
  refine X.opR rfl (X.loadF h_2 rfl rfl rfl) rfl ?_
  refine X.opW rfl rfl rfl rfl ?_
  refine X.op0W rfl rfl rfl (X.nq ?_)
  iterate 5 refine X.q rfl ?_
  refine GS.opsNil ?_
  refine X.cond rfl (fun h_3 => ?_) (fun h_3 => ?_)
  ·replace hM := ite_t h_3 hM
   refine GS.region (X.q rfl ?_)
   refine X.op0W rfl rfl rfl (GS.opsNil ?_)
   refine GS.endB ?_
   exact X.gc [some 0] (hj_3 (x.ID, x.Case, x.Kind, x.Round, x.From, x.To, x.Voted, x.Finding) hM) rfl rfl rfl (ga rfl rfl) (gb9 rfl rfl rfl gb_nil)
  replace hM := ite_f h_3 hM
  refine GS.skip ?_
  refine GS.endB ?_
  exact X.gc [some 0] (hj_3 (ID2, Case2, Kind2, Round2, From2, To2, Voted2, Finding2) hM) rfl rfl rfl (ga rfl rfl) (gb9 rfl rfl rfl gb_nil)
 replace hM := ite_f h_1 hM
 refine GS.exit rfl ?_
 obtain ⟨y_1, hM, hy⟩ := map_of hM
 rw [hr_1 _ hy.symm] at hM
 exact X.gc [some 0] (hj_1 (ID2, Case2, Kind2, Round2, From2, To2, Voted2, Finding2) hM) rfl rfl rfl (ga rfl rfl) (gb9 rfl rfl rfl gb_nil)
set_option maxHeartbeats 4000000 in
theorem ok_arbiter_Pick {c : api_Court} {promises : (List api_Letter)} {r : Int × Bool × Int} (hM : arbiter_Pick c promises = some r) : Ct Try.prog 15 [(e_api_Court c), (V.sl (List.map e_api_Letter promises))] (V.tup [(V.i r.1), (V.b r.2.1), (V.i r.2.2)]) := by
 refine ct_of_gs CC_ok rfl ?_
 unfold arbiter_Pick at hM
 refine X.sq ?_
 refine X.opW rfl rfl rfl rfl (X.q rfl (X.q rfl (X.q rfl ?_)))
 refine GS.opsNil ?_
 iterate 2 refine GS.seq ?_
 obtain ⟨y, h_1, hM⟩ := bind_of hM
 refine GS.region (X.q rfl (X.q rfl ?_))
 refine X.call (ok_arbiter_read h_1) rfl rfl rfl (.cons (.shut (n := 9) rfl) (.cons (.shut (n := 9) rfl) .nil)) (X.q rfl (X.nq (X.q rfl (X.q rfl ?_))))
 refine GS.opsNil ?_
 refine X.cond rfl (fun h_2 => ?_) (fun h_2 => ?_)
 ·replace hM := ite_t h_2 hM
  refine X.sq ?_
  iterate 4 refine X.q rfl ?_
  refine GS.opsNil ?_
  cases hM
  exact GS.ret ⟨_, rfl, ⟨30, rfl⟩⟩
 replace hM := ite_f h_2 hM
 refine GS.skip (GS.seq (X.sq (X.q rfl ?_)))
 refine X.opR rfl (X.lenF rfl rfl rfl) rfl (X.q rfl (GS.opsNil ?_))
 refine X.join (τ := Unit) (fun v => arbiter_Pick_j1 c promises = some r) (fun v => ⟨[(1, (V.sl (List.map e_api_Letter promises))), (2, (V.ptr 0 0 0))], [.rows 1 [(e_api_Court c)]], 0, none, 90⟩) ?_ ?_
 ·intro _ hM
  replace hM : arbiter_Pick_j1 c promises = some r := hM
  unfold arbiter_Pick_j1 at hM
  iterate 2 refine GS.seq ?_
  obtain ⟨y1, h_3, hM⟩ := bind_of hM
  refine GS.region (X.q rfl ?_)
  refine X.opR rfl (X.lenF rfl rfl rfl) rfl (X.q rfl ?_)
  refine X.call (ok_arbiter_Majority h_3) rfl rfl rfl (.cons (.shut (n := 9) rfl) .nil) (X.q rfl (GS.opsNil ?_))
  refine X.cond rfl (fun h_4 => ?_) (fun h_4 => ?_)
  ·replace hM := ite_t h_4 hM
   refine X.sq (X.q rfl (X.q rfl (X.q rfl ?_)))
   refine GS.opsNil ?_
   cases hM
   exact GS.ret ⟨_, rfl, ⟨30, rfl⟩⟩
  replace hM := ite_f h_4 hM
  refine GS.skip (GS.seq ?_)
  obtain ⟨y2, h_5, hM⟩ := bind_of hM
  refine GS.region (X.q rfl ?_)
  refine X.call (ok_arbiter_picked h_5) rfl rfl rfl (.cons (.shut (n := 9) rfl) .nil) ?_
  iterate 5 refine X.q rfl ?_
  refine X.nq ?_
  iterate 5 refine X.q rfl ?_
  refine GS.opsNil ?_
  cases hM
  exact GS.ret ⟨_, rfl, ⟨30, rfl⟩⟩
 intro hj_1
 refine GS.block ?_
 refine X.gc [some 0] (X.loop (σ := Int) (fun v => ⟨[(1, (V.sl (List.map e_api_Letter promises))), (2, (V.ptr 0 0 0)), (20, (V.sl (List.map e_api_Letter promises))), (21, (V.i (promises.length : Int))), (22, (V.i v))], [.rows 1 [(e_api_Court c)]], 0, none, 90⟩) hM ?_ rfl) rfl rfl rfl (ga rfl rfl) (gb9 rfl rfl rfl gb_nil)
 intro x3 b_1 hM hc_2 hr_1
 rw [arbiter_Pick_b2] at hM
 refine X.sq (X.q rfl (GS.opsNil (GS.seq ?_)))
 refine X.cond rfl (fun h_6 => ?_) (fun h_6 => ?_)
 ·replace hM := ite_t h_6 hM
  refine GS.skip (GS.seq (GS.block (GS.seq ?_)))
  obtain ⟨x, h_7, hM⟩ := bind_of hM
  refine GS.region (X.q rfl ?_)
  refine X.opR rfl (X.indexF (f := e_api_Letter) h_7 (fun _ => rfl) rfl rfl rfl rfl) rfl ?_
  refine X.opR rfl (X.loadF h_7 rfl rfl rfl) rfl ?_
  refine X.opW rfl rfl rfl rfl (X.q rfl ?_)
  refine X.op0W rfl rfl rfl (GS.opsNil (GS.seq (X.sq (X.q rfl (X.q rfl (X.q rfl ?_))))))
  refine GS.opsNil ?_
  refine X.cond rfl (fun h_8 => ?_) (fun h_8 => ?_)
  ·replace hM := ite_t h_8 hM
   refine X.sq (X.q rfl (X.q rfl (X.q rfl ?_)))
   refine GS.opsNil ?_
   have hE := Option.some.inj hM
   replace hE := hr_1 _ hE.symm
   subst hE
   exact GS.ret ⟨_, rfl, ⟨30, rfl⟩⟩
  replace hM := ite_f h_8 hM
  refine GS.skip (GS.seq ?_)
  obtain ⟨l, h_9, hM⟩ := bind_of hM
  refine GS.region (X.q rfl (X.q rfl ?_))
  refine X.opR rfl (X.sliceF (f := e_api_Letter) h_9 (fun _ => rfl) rfl rfl rfl rfl rfl rfl (X.boundA_int rfl)) rfl ?_
  refine X.opR rfl (X.lenF rfl rfl rfl) rfl (X.q rfl (GS.opsNil ?_))
  refine X.join (τ := Unit) (fun v => arbiter_Pick_j3 x3 = some b_1) (fun v => ⟨[(1, (V.sl (List.map e_api_Letter promises))), (2, (V.ptr 0 0 0)), (20, (V.sl (List.map e_api_Letter promises))), (21, (V.i (promises.length : Int))), (22, (V.i x3))], [.rows 1 [(e_api_Court c)]], 0, none, 90⟩) ?_ ?_
  ·intro _ hM
   replace hM : arbiter_Pick_j3 x3 = some b_1 := hM
   unfold arbiter_Pick_j3 at hM
   refine GS.endB (GS.region ?_)
   refine X.opR rfl (X.addE rfl rfl) rfl (X.q rfl (GS.opsNil ?_))
   have hE := Option.some.inj hM
   exact X.gc [some 0] (hc_2 (w64 (x3 + 1)) hE.symm) rfl rfl rfl (ga rfl rfl) (gb9 rfl rfl rfl gb_nil)
  intro hj_3
  refine GS.block ?_
  refine X.gc [some 0, some 1] (X.loop (σ := Int) (fun v => ⟨[(1, (V.sl (List.map e_api_Letter promises))), (2, (V.ptr 0 0 0)), (9, (V.ptr 1 0 0)), (20, (V.sl (List.map e_api_Letter promises))), (21, (V.i (promises.length : Int))), (22, (V.i x3)), (32, (V.sl (List.map e_api_Letter l))), (33, (V.i (l.length : Int))), (34, (V.i v))], [.rows 1 [(e_api_Court c)], .rows 8 [(e_api_Letter x)]], 0, none, 90⟩) hM ?_ rfl) rfl rfl rfl (ga rfl rfl) (gb9 rfl rfl rfl (gb9 rfl rfl rfl gb_nil))
  intro x2 b_2 hM hc_4 hr_2
  rw [arbiter_Pick_b4] at hM
  refine X.sq (X.q rfl (GS.opsNil (GS.seq ?_)))
  refine X.cond rfl (fun h_10 => ?_) (fun h_10 => ?_)
  ·replace hM := ite_t h_10 hM
   refine GS.skip (GS.seq (GS.block (GS.seq ?_)))
   obtain ⟨x1, h_11, hM⟩ := bind_of hM
   refine GS.region ?_
   refine X.opR rfl (X.indexF (f := e_api_Letter) h_11 (fun _ => rfl) rfl rfl rfl rfl) rfl ?_
   refine X.opR rfl (X.loadF h_11 rfl rfl rfl) rfl ?_
   refine X.opW rfl rfl rfl rfl ?_
   refine X.op0W rfl rfl rfl (X.nq ?_)
   refine X.mid [(1, (V.sl (List.map e_api_Letter promises))), (2, (V.ptr 0 0 0)), (9, (V.ptr 1 0 0)), (20, (V.sl (List.map e_api_Letter promises))), (21, (V.i (promises.length : Int))), (22, (V.i x3)), (32, (V.sl (List.map e_api_Letter l))), (33, (V.i (l.length : Int))), (34, (V.i x2)), (75, (V.b ((((!decide (x.Case = x1.Case)) || (!decide (x.Round = x1.Round))) || (decide (x.From = x1.From))) || (((decide (0 < x.Voted)) && (decide (x.Voted = x1.Voted))) && (!decide (x.Finding = x1.Finding))))))] ?_ ?_
   ·intro hg
    refine X.split (!decide (x.Case = x1.Case)) (fun h_12 => ?_) (fun h_12 => ?_)
    ·iterate 6 refine X.q rfl ?_
     iterate 5 refine X.off (X.off_f rfl rfl rfl h_12) rfl ?_
     refine X.opR rfl (X.pickor_t (y := !decide (x.Round = x1.Round)) rfl h_12 rfl) rfl (X.q rfl ?_)
     iterate 5 refine X.off (X.off_f rfl rfl rfl (X.or_tt h_12)) rfl ?_
     refine X.opR rfl (X.pickor_t (y := decide (x.From = x1.From)) rfl (X.or_tt h_12) rfl) rfl (X.q rfl ?_)
     iterate 4 refine X.off (X.off_f rfl rfl rfl (X.or_tt (X.or_tt h_12))) rfl ?_
     iterate 5 refine X.off rfl rfl ?_
     iterate 2 refine X.off (X.off_f rfl rfl rfl (X.or_tt (X.or_tt h_12))) rfl ?_
     iterate 5 refine X.off rfl rfl ?_
     refine X.off (X.off_f rfl rfl rfl (X.or_tt (X.or_tt h_12))) rfl ?_
     refine X.opR rfl (X.pickor_t (y := (((decide (0 < x.Voted)) && (decide (x.Voted = x1.Voted))) && (!decide (x.Finding = x1.Finding)))) rfl (X.or_tt (X.or_tt h_12)) rfl) rfl (GS.opsNil ?_)
     exact X.norm _ hg rfl (sr rfl)
    refine X.split (((!decide (x.Case = x1.Case)) || (!decide (x.Round = x1.Round)))) (fun h_13 => ?_) (fun h_13 => ?_)
    ·iterate 6 refine X.q rfl ?_
     iterate 5 refine X.opR (X.on_f rfl rfl rfl h_12) rfl rfl ?_
     refine X.opR rfl (X.pickor_f (y := !decide (x.Round = x1.Round)) rfl h_12 rfl) rfl (X.q rfl ?_)
     iterate 5 refine X.off (X.off_f rfl rfl rfl h_13) rfl ?_
     refine X.opR rfl (X.pickor_t (y := decide (x.From = x1.From)) rfl h_13 rfl) rfl (X.q rfl ?_)
     iterate 4 refine X.off (X.off_f rfl rfl rfl (X.or_tt h_13)) rfl ?_
     iterate 5 refine X.off rfl rfl ?_
     iterate 2 refine X.off (X.off_f rfl rfl rfl (X.or_tt h_13)) rfl ?_
     iterate 5 refine X.off rfl rfl ?_
     refine X.off (X.off_f rfl rfl rfl (X.or_tt h_13)) rfl ?_
     refine X.opR rfl (X.pickor_t (y := (((decide (0 < x.Voted)) && (decide (x.Voted = x1.Voted))) && (!decide (x.Finding = x1.Finding)))) rfl (X.or_tt h_13) rfl) rfl (GS.opsNil ?_)
     exact X.norm _ hg rfl (sr rfl)
    refine X.split ((((!decide (x.Case = x1.Case)) || (!decide (x.Round = x1.Round))) || (decide (x.From = x1.From)))) (fun h_14 => ?_) (fun h_14 => ?_)
    ·iterate 6 refine X.q rfl ?_
     iterate 5 refine X.opR (X.on_f rfl rfl rfl h_12) rfl rfl ?_
     refine X.opR rfl (X.pickor_f (y := !decide (x.Round = x1.Round)) rfl h_12 rfl) rfl (X.q rfl ?_)
     iterate 5 refine X.opR (X.on_f rfl rfl rfl h_13) rfl rfl ?_
     refine X.opR rfl (X.pickor_f (y := decide (x.From = x1.From)) rfl h_13 rfl) rfl (X.q rfl ?_)
     iterate 4 refine X.off (X.off_f rfl rfl rfl h_14) rfl ?_
     iterate 5 refine X.off rfl rfl ?_
     iterate 2 refine X.off (X.off_f rfl rfl rfl h_14) rfl ?_
     iterate 5 refine X.off rfl rfl ?_
     refine X.off (X.off_f rfl rfl rfl h_14) rfl ?_
     refine X.opR rfl (X.pickor_t (y := (((decide (0 < x.Voted)) && (decide (x.Voted = x1.Voted))) && (!decide (x.Finding = x1.Finding)))) rfl h_14 rfl) rfl (GS.opsNil ?_)
     exact X.norm _ hg rfl (sr rfl)
    refine X.split (decide (0 < x.Voted)) (fun h_15 => ?_) (fun h_15 => ?_)
    ·refine X.split (((decide (0 < x.Voted)) && (decide (x.Voted = x1.Voted)))) (fun h_16 => ?_) (fun h_16 => ?_)
     ·iterate 6 refine X.q rfl ?_
      iterate 5 refine X.opR (X.on_f rfl rfl rfl h_12) rfl rfl ?_
      refine X.opR rfl (X.pickor_f (y := !decide (x.Round = x1.Round)) rfl h_12 rfl) rfl (X.q rfl ?_)
      iterate 5 refine X.opR (X.on_f rfl rfl rfl h_13) rfl rfl ?_
      refine X.opR rfl (X.pickor_f (y := decide (x.From = x1.From)) rfl h_13 rfl) rfl (X.q rfl ?_)
      iterate 4 refine X.opR (X.on_f rfl rfl rfl h_14) rfl rfl ?_
      iterate 5 refine X.opR (X.on_t rfl rfl rfl h_15) rfl rfl ?_
      refine X.opR (X.on_f rfl rfl rfl h_14) (X.pickand_t (y := decide (x.Voted = x1.Voted)) rfl h_15 rfl) rfl ?_
      refine X.opR (X.on_f rfl rfl rfl h_14) rfl rfl ?_
      iterate 5 refine X.opR (X.on_t rfl rfl rfl h_16) rfl rfl ?_
      refine X.opR (X.on_f rfl rfl rfl h_14) (X.pickand_t (y := !decide (x.Finding = x1.Finding)) rfl h_16 rfl) rfl ?_
      refine X.opR rfl (X.pickor_f (y := (((decide (0 < x.Voted)) && (decide (x.Voted = x1.Voted))) && (!decide (x.Finding = x1.Finding)))) rfl h_14 rfl) rfl (GS.opsNil ?_)
      exact X.norm _ hg rfl (sr rfl)
     iterate 6 refine X.q rfl ?_
     iterate 5 refine X.opR (X.on_f rfl rfl rfl h_12) rfl rfl ?_
     refine X.opR rfl (X.pickor_f (y := !decide (x.Round = x1.Round)) rfl h_12 rfl) rfl (X.q rfl ?_)
     iterate 5 refine X.opR (X.on_f rfl rfl rfl h_13) rfl rfl ?_
     refine X.opR rfl (X.pickor_f (y := decide (x.From = x1.From)) rfl h_13 rfl) rfl (X.q rfl ?_)
     iterate 4 refine X.opR (X.on_f rfl rfl rfl h_14) rfl rfl ?_
     iterate 5 refine X.opR (X.on_t rfl rfl rfl h_15) rfl rfl ?_
     refine X.opR (X.on_f rfl rfl rfl h_14) (X.pickand_t (y := decide (x.Voted = x1.Voted)) rfl h_15 rfl) rfl ?_
     refine X.opR (X.on_f rfl rfl rfl h_14) rfl rfl ?_
     iterate 5 refine X.off (X.off_t rfl rfl rfl h_16) rfl ?_
     refine X.opR (X.on_f rfl rfl rfl h_14) (X.pickand_f (y := !decide (x.Finding = x1.Finding)) rfl h_16 rfl) rfl ?_
     refine X.opR rfl (X.pickor_f (y := (((decide (0 < x.Voted)) && (decide (x.Voted = x1.Voted))) && (!decide (x.Finding = x1.Finding)))) rfl h_14 rfl) rfl (GS.opsNil ?_)
     exact X.norm _ hg rfl (sr rfl)
    iterate 6 refine X.q rfl ?_
    iterate 5 refine X.opR (X.on_f rfl rfl rfl h_12) rfl rfl ?_
    refine X.opR rfl (X.pickor_f (y := !decide (x.Round = x1.Round)) rfl h_12 rfl) rfl (X.q rfl ?_)
    iterate 5 refine X.opR (X.on_f rfl rfl rfl h_13) rfl rfl ?_
    refine X.opR rfl (X.pickor_f (y := decide (x.From = x1.From)) rfl h_13 rfl) rfl (X.q rfl ?_)
    iterate 4 refine X.opR (X.on_f rfl rfl rfl h_14) rfl rfl ?_
    iterate 5 refine X.off (X.off_t rfl rfl rfl h_15) rfl ?_
    refine X.opR (X.on_f rfl rfl rfl h_14) (X.pickand_f (y := decide (x.Voted = x1.Voted)) rfl h_15 rfl) rfl ?_
    refine X.opR (X.on_f rfl rfl rfl h_14) rfl rfl ?_
    iterate 5 refine X.off (X.off_t rfl rfl rfl (X.and_ff h_15)) rfl ?_
    refine X.opR (X.on_f rfl rfl rfl h_14) (X.pickand_f (y := !decide (x.Finding = x1.Finding)) rfl (X.and_ff h_15) rfl) rfl ?_
    refine X.opR rfl (X.pickor_f (y := (((decide (0 < x.Voted)) && (decide (x.Voted = x1.Voted))) && (!decide (x.Finding = x1.Finding)))) rfl h_14 rfl) rfl (GS.opsNil ?_)
    exact X.norm _ hg rfl (sr rfl)
   refine X.cond rfl (fun h_17 => ?_) (fun h_17 => ?_)
   ·replace hM := ite_t h_17 hM
    refine X.sq (X.q rfl (X.q rfl (X.q rfl ?_)))
    refine GS.opsNil ?_
    have hE := Option.some.inj hM
    replace hE := hr_2 _ hE.symm
    replace hE := hr_1 _ hE.symm
    subst hE
    exact GS.ret ⟨_, rfl, ⟨30, rfl⟩⟩
   replace hM := ite_f h_17 hM
   refine GS.skip ?_
   refine GS.endB (GS.region ?_)
   refine X.opR rfl (X.addE rfl rfl) rfl (X.q rfl (GS.opsNil ?_))
   have hE := Option.some.inj hM
   exact X.gc [some 0, some 1] (hc_4 (w64 (x2 + 1)) hE.symm) rfl rfl rfl (ga rfl rfl) (gb9 rfl rfl rfl (gb9 rfl rfl rfl gb_nil))
  replace hM := ite_f h_10 hM
  refine GS.exit rfl ?_
  obtain ⟨y_2, hM, hy⟩ := map_of hM
  rw [hr_2 _ hy.symm] at hM
  exact X.gc [some 0] (hj_3 () hM) rfl rfl rfl (ga rfl rfl) (gb9 rfl rfl rfl gb_nil)
 replace hM := ite_f h_6 hM
 refine GS.exit rfl ?_
 obtain ⟨y_1, hM, hy⟩ := map_of hM
 rw [hr_1 _ hy.symm] at hM
 exact X.gc [some 0] (hj_1 () hM) rfl rfl rfl (ga rfl rfl) (gb9 rfl rfl rfl gb_nil)
theorem own_law09_three {r : (List api_Letter)} (hM : law09_three = some r) : OwnCt Try.prog 50 [] (fun z => (ovlz z 0 r)) (fun z => (oblz z 8 e_api_Letter r)) := by
 refine own_of_gs CC_ok rfl ?_
 unfold law09_three at hM
 refine X.sq (X.q rfl (X.nq ?_))
 iterate 6 refine X.q rfl ?_
 refine X.opW rfl rfl rfl rfl (X.q rfl (GS.opsNil ?_))
 have hE := Option.some.inj hM
 subst hE
 refine X.gc [some 0] (H' := [.rows 8 (List.map e_api_Letter ([(⟨0, 4, 1, 1, 0, 0, 0, 0⟩ : api_Letter), (⟨0, 4, 2, 1, 0, 0, 0, 0⟩ : api_Letter), (⟨0, 4, 2, 1, 1, 0, 0, 0⟩ : api_Letter), (⟨0, 4, 3, 1, 0, 0, 0, 7⟩ : api_Letter), (⟨0, 4, 4, 1, 0, 0, 0, 7⟩ : api_Letter), (⟨0, 4, 4, 1, 1, 0, 0, 7⟩ : api_Letter)]))]) (K' := [(0, (V.osl 0 0 (List.length ([(⟨0, 4, 1, 1, 0, 0, 0, 0⟩ : api_Letter), (⟨0, 4, 2, 1, 0, 0, 0, 0⟩ : api_Letter), (⟨0, 4, 2, 1, 1, 0, 0, 0⟩ : api_Letter), (⟨0, 4, 3, 1, 0, 0, 0, 7⟩ : api_Letter), (⟨0, 4, 4, 1, 0, 0, 0, 7⟩ : api_Letter), (⟨0, 4, 4, 1, 1, 0, 0, 7⟩ : api_Letter)]))))]) ?_ rfl rfl rfl (ga rfl rfl) (gb_rows 9 rfl rfl (fun _ => rfl) gb_nil)
 exact GS.ret ⟨false, rfl, rfl⟩
theorem ok_slices_Clone_Letter {l r : List api_Letter} (hM : slices_Clone_Letter l = some r) : Ct Try.prog 62 [V.sl (List.map e_api_Letter l)] (V.sl (List.map e_api_Letter r)) := by
 unfold slices_Clone_Letter at hM
 have hr : r = l := by obtain ⟨_, e⟩ := app_of hM; simpa using e
 refine ct_of_gs CC_ok rfl ?_
 refine GS.seq ?_
 refine GS.region ?_
 refine X.opR rfl rfl rfl ?_
 refine GS.opsNil ?_
 iterate 2 refine GS.seq ?_
 refine GS.region ?_
 refine X.opR rfl rfl rfl ?_
 refine X.nilEq rfl rfl rfl rfl rfl rfl (fun h => ?_) ?_
 ·have hl : r = [] := by rw [hr]; simpa using h
  subst hl
  refine GS.opsNil ?_
  refine GS.condT rfl ?_
  refine GS.seq ?_
  refine GS.region ?_
  refine X.opR rfl rfl rfl ?_
  refine GS.opsNil ?_
  exact GS.ret ⟨_, rfl, ⟨30, rfl⟩⟩
 ·refine GS.opsNil ?_
  refine GS.condF rfl ?_
  refine GS.skip ?_
  refine GS.seq ?_
  refine GS.region ?_
  refine X.opW rfl rfl rfl rfl ?_
  refine X.opR rfl rfl rfl ?_
  refine X.opW rfl (X.appO (f := e_api_Letter) (l := []) (xs := l) hM (fun _ => rfl) rfl rfl rfl rfl rfl rfl rfl rfl rfl rfl) rfl rfl ?_
  refine X.opR rfl rfl rfl ?_
  refine GS.opsNil ?_
  exact GS.ret ⟨_, rfl, FR.osl (f := e_api_Letter) (l := r) 9 rfl rfl (fun _ => rfl)⟩
theorem clone_Letter {all os : List Oper} {k : List It} {K : List (Nat × V)} {H : List Blk} {lo n d N : Nat} {rnd : Option Nat} {Q : Ex → St → Prop} {p : Op} {ty : TypeId} {pos : String} {after : Array Edge} {g : Option (Nat × Bool)} {l r : List api_Letter} (hM : app [] l = some r) (hw : wants all K g = some true) (hc : callee K p = some (.fn 62 [.sl (l.map e_api_Letter)])) (hd : Nat.blt d n = true) (hlo : Nat.ble lo H.length = true) {i : Nat} (hi : H.length + 1 = i)
  (h : ∀ z : Bool, GS CC N (.ops all os :: k) ⟨(d, ovlz z i r) :: K, H ++ [.dead, oblz z 8 e_api_Letter r], lo, rnd, n⟩ Q) : GS CC N (.ops all (⟨some d, p, ty, pos, after, g⟩ :: os) :: k) ⟨K, H, lo, rnd, n⟩ Q := by
 subst hi
 have hr : r = l := by obtain ⟨_, e⟩ := app_of hM; simpa using e
 refine GS.im (s := ⟨K, H, lo, rnd, n⟩) (fun v H1 => ∃ z : Bool, v = ovlz z (H.length + 1) r ∧ H1 = H ++ [.dead, oblz z 8 e_api_Letter r]) hw hc rfl ?_ (fun v H1 hT => ?_)
 ·refine GS.seq ?_
  refine GS.region ?_
  refine X.opR rfl rfl rfl ?_
  refine GS.opsNil ?_
  iterate 2 refine GS.seq ?_
  refine GS.region ?_
  refine X.opR rfl rfl rfl ?_
  refine X.nilEq rfl rfl rfl rfl rfl rfl (fun h => ?_) ?_
  ·have hl : r = [] := by rw [hr]; simpa using h
   subst hl
   refine GS.opsNil ?_
   refine GS.condT rfl ?_
   refine GS.seq ?_
   refine GS.region ?_
   refine X.opR rfl rfl rfl ?_
   refine GS.opsNil ?_
   refine GS.pad ?_
   refine GS.pad ?_
   exact GS.ret ⟨_, rfl, true, rfl, by simp [oblz]⟩
  ·refine GS.opsNil ?_
   refine GS.condF rfl ?_
   refine GS.skip ?_
   refine GS.seq ?_
   refine GS.region ?_
   refine X.opW rfl (v := .osl H.length 0 0) (wr := [(H.length, .rows 8 [])]) rfl X.puts_end rfl ?_
   refine X.opR rfl rfl rfl ?_
   refine X.opW (H' := H ++ [.dead, .rows 8 (r.map e_api_Letter)]) rfl (X.appO (f := e_api_Letter) (l := []) (xs := l) (es := 8) hM (fun _ => rfl) rfl rfl rfl rfl rfl rfl X.hget_end hlo rfl rfl) ?_ rfl ?_
   ·show hput (hput (H ++ [Blk.rows 8 []]) H.length Blk.dead) (H ++ [Blk.rows 8 []]).length (Blk.rows 8 (r.map e_api_Letter)) = _
    have e1 : hput (H ++ [Blk.rows 8 []]) H.length Blk.dead = H ++ [Blk.dead] := X.puts_end' (B := .rows 8 []) (B' := .dead)
    rw [e1, show (H ++ [Blk.rows 8 []]).length = (H ++ [Blk.dead]).length by simp, hput_end]
    simp
   refine X.opR rfl rfl rfl ?_
   refine GS.opsNil ?_
   exact GS.ret ⟨_, rfl, false, by simp [ovlz], rfl⟩
 ·obtain ⟨z, rfl, rfl⟩ := hT
  exact X.front rfl hd (h z) rfl
theorem ok_arbiter_Can_1 (x : api_Letter) (c : Int) : Ct Try.prog 63 [(e_api_Letter x), (V.fptr [(V.i c)] 0 0)] (V.b (arbiter_Can_1 x c)) := by
 refine ct_of_gs CC_ok rfl ?_
 generalize hM : arbiter_Can_1 x c = r
 unfold arbiter_Can_1 at hM
 refine X.sq ?_
 refine X.opW rfl rfl rfl rfl (X.q rfl (X.nq ?_))
 iterate 5 refine X.q rfl ?_
 refine GS.opsNil ?_
 subst hM
 exact GS.ret ⟨_, rfl, ⟨30, rfl⟩⟩
theorem ok_slices_IndexFunc_api_Letter__arbiter_Can_1 {s : (List api_Letter)} {c : Int} {r : Int} (hM : slices_IndexFunc_api_Letter__arbiter_Can_1 s c = some r) : Ct Try.prog 67 [(V.sl (List.map e_api_Letter s)), (V.fn 63 [(V.fptr [(V.i c)] 0 0)])] (V.i r) := by
 refine ct_of_gs CC_ok rfl ?_
 unfold slices_IndexFunc_api_Letter__arbiter_Can_1 at hM
 refine X.sq (X.q rfl (GS.opsNil (GS.seq (X.sq (X.q rfl ?_)))))
 refine X.opR rfl (X.lenF rfl rfl rfl) rfl (X.q rfl (GS.opsNil ?_))
 refine X.join (τ := Unit) (fun v => slices_IndexFunc_api_Letter__arbiter_Can_1_j1 = some r) (fun v => ⟨[], [], 0, none, 19⟩) ?_ ?_
 ·intro _ hM
  replace hM : slices_IndexFunc_api_Letter__arbiter_Can_1_j1 = some r := hM
  unfold slices_IndexFunc_api_Letter__arbiter_Can_1_j1 at hM
  refine X.sq (X.q rfl (GS.opsNil ?_))
  cases hM
  exact GS.ret ⟨_, rfl, ⟨30, rfl⟩⟩
 intro hj_1
 refine GS.block ?_
 refine X.gc [] (X.loop (σ := Int) (fun v => ⟨[(0, (V.sl (List.map e_api_Letter s))), (1, (V.fn 63 [(V.fptr [(V.i c)] 0 0)])), (7, (V.i (s.length : Int))), (8, (V.i v))], [], 0, none, 19⟩) hM ?_ rfl) rfl rfl rfl (ga rfl rfl) (gb_nil)
 intro x1 b_1 hM hc_2 hr_1
 rw [slices_IndexFunc_api_Letter__arbiter_Can_1_b2] at hM
 refine X.sq (X.q rfl (GS.opsNil (GS.seq ?_)))
 refine X.cond rfl (fun h_1 => ?_) (fun h_1 => ?_)
 ·replace hM := ite_t h_1 hM
  refine GS.skip (GS.seq (GS.block (X.sq (X.q rfl (X.q rfl ?_)))))
  refine GS.opsNil (GS.seq ?_)
  obtain ⟨x, h_2, hM⟩ := bind_of hM
  refine GS.region (X.q rfl (X.q rfl (X.q rfl ?_)))
  refine X.opR rfl (X.indexF (f := e_api_Letter) h_2 (fun _ => rfl) rfl rfl rfl rfl) rfl ?_
  refine X.opR rfl (X.loadF h_2 rfl rfl rfl) rfl ?_
  refine X.call (ok_arbiter_Can_1 x c) rfl rfl rfl (.cons (.shut (n := 9) rfl) (.cons (.shut (n := 9) rfl) .nil)) (GS.opsNil ?_)
  refine X.cond rfl (fun h_3 => ?_) (fun h_3 => ?_)
  ·replace hM := ite_t h_3 hM
   refine X.sq (X.q rfl (X.q rfl ?_))
   refine GS.opsNil ?_
   have hE := Option.some.inj hM
   replace hE := hr_1 _ hE.symm
   subst hE
   exact GS.ret ⟨_, rfl, ⟨30, rfl⟩⟩
  replace hM := ite_f h_3 hM
  refine GS.skip ?_
  refine GS.endB (GS.region ?_)
  refine X.opR rfl (X.addE rfl rfl) rfl (X.q rfl (GS.opsNil ?_))
  have hE := Option.some.inj hM
  exact X.gc [] (hc_2 (w64 (x1 + 1)) hE.symm) rfl rfl rfl (ga rfl rfl) (gb_nil)
 replace hM := ite_f h_1 hM
 refine GS.exit rfl ?_
 obtain ⟨y_1, hM, hy⟩ := map_of hM
 rw [hr_1 _ hy.symm] at hM
 exact X.gc [] (hj_1 () hM) rfl rfl rfl (gk_nil) (gb_nil)
theorem ok_arbiter_Can_2 (x : api_Letter) (c : Int) (c1 : Int) : Ct Try.prog 65 [(e_api_Letter x), (V.fptr [(V.i c)] 0 0), (V.fptr [(V.i c1)] 0 0)] (V.b (arbiter_Can_2 x c c1)) := by
 refine ct_of_gs CC_ok rfl ?_
 generalize hM : arbiter_Can_2 x c c1 = r
 unfold arbiter_Can_2 at hM
 refine X.sq ?_
 refine X.opW rfl rfl rfl rfl (X.q rfl (X.nq ?_))
 refine X.mid [(4, (V.b ((decide (x.From = c)) && (((decide (x.Kind = 4)) && (decide (x.Round = c1))) || ((arbiter_word x) && (decide (c1 < x.Round)))))))] ?_ ?_
 ·intro hg
  refine X.split (decide (x.From = c)) (fun h_1 => ?_) (fun h_1 => ?_)
  ·refine X.split (decide (x.Kind = 4)) (fun h_2 => ?_) (fun h_2 => ?_)
   ·refine X.split (((decide (x.Kind = 4)) && (decide (x.Round = c1)))) (fun h_3 => ?_) (fun h_3 => ?_)
    ·iterate 5 refine X.q rfl ?_
     iterate 4 refine X.opR (X.on_t rfl rfl rfl h_1) rfl rfl ?_
     iterate 4 refine X.opR (X.on_t rfl rfl rfl h_2) rfl rfl ?_
     refine X.opR (X.on_t rfl rfl rfl h_1) (X.pickand_t (y := decide (x.Round = c1)) rfl h_2 rfl) rfl ?_
     refine X.opR (X.on_t rfl rfl rfl h_1) rfl rfl ?_
     iterate 3 refine X.off (X.off_f rfl rfl rfl h_3) rfl ?_
     iterate 4 refine X.off rfl rfl ?_
     refine X.off (X.off_f rfl rfl rfl h_3) rfl ?_
     refine X.opR (X.on_t rfl rfl rfl h_1) (X.pickor_t (y := ((arbiter_word x) && (decide (c1 < x.Round)))) rfl h_3 rfl) rfl ?_
     refine X.opR rfl (X.pickand_t (y := (((decide (x.Kind = 4)) && (decide (x.Round = c1))) || ((arbiter_word x) && (decide (c1 < x.Round))))) rfl h_1 rfl) rfl (X.q rfl (GS.opsNil ?_))
     exact X.norm _ hg rfl (sr rfl)
    refine X.split ((arbiter_word x)) (fun h_4 => ?_) (fun h_4 => ?_)
    ·iterate 5 refine X.q rfl ?_
     iterate 4 refine X.opR (X.on_t rfl rfl rfl h_1) rfl rfl ?_
     iterate 4 refine X.opR (X.on_t rfl rfl rfl h_2) rfl rfl ?_
     refine X.opR (X.on_t rfl rfl rfl h_1) (X.pickand_t (y := decide (x.Round = c1)) rfl h_2 rfl) rfl ?_
     refine X.opR (X.on_t rfl rfl rfl h_1) rfl rfl ?_
     refine X.opR (X.on_f rfl rfl rfl h_3) rfl rfl ?_
     refine X.call (ok_arbiter_word x) (X.on_f rfl rfl rfl h_3) rfl rfl (.cons (.shut (n := 9) rfl) .nil) ?_
     refine X.opR (X.on_f rfl rfl rfl h_3) rfl rfl ?_
     iterate 4 refine X.opR (X.on_t rfl rfl rfl h_4) rfl rfl ?_
     refine X.opR (X.on_f rfl rfl rfl h_3) (X.pickand_t (y := decide (c1 < x.Round)) rfl h_4 rfl) rfl ?_
     refine X.opR (X.on_t rfl rfl rfl h_1) (X.pickor_f (y := ((arbiter_word x) && (decide (c1 < x.Round)))) rfl h_3 rfl) rfl ?_
     refine X.opR rfl (X.pickand_t (y := (((decide (x.Kind = 4)) && (decide (x.Round = c1))) || ((arbiter_word x) && (decide (c1 < x.Round))))) rfl h_1 rfl) rfl (X.q rfl (GS.opsNil ?_))
     exact X.norm _ hg rfl (sr rfl)
    iterate 5 refine X.q rfl ?_
    iterate 4 refine X.opR (X.on_t rfl rfl rfl h_1) rfl rfl ?_
    iterate 4 refine X.opR (X.on_t rfl rfl rfl h_2) rfl rfl ?_
    refine X.opR (X.on_t rfl rfl rfl h_1) (X.pickand_t (y := decide (x.Round = c1)) rfl h_2 rfl) rfl ?_
    refine X.opR (X.on_t rfl rfl rfl h_1) rfl rfl ?_
    refine X.opR (X.on_f rfl rfl rfl h_3) rfl rfl ?_
    refine X.call (ok_arbiter_word x) (X.on_f rfl rfl rfl h_3) rfl rfl (.cons (.shut (n := 9) rfl) .nil) ?_
    refine X.opR (X.on_f rfl rfl rfl h_3) rfl rfl ?_
    iterate 4 refine X.off (X.off_t rfl rfl rfl h_4) rfl ?_
    refine X.opR (X.on_f rfl rfl rfl h_3) (X.pickand_f (y := decide (c1 < x.Round)) rfl h_4 rfl) rfl ?_
    refine X.opR (X.on_t rfl rfl rfl h_1) (X.pickor_f (y := ((arbiter_word x) && (decide (c1 < x.Round)))) rfl h_3 rfl) rfl ?_
    refine X.opR rfl (X.pickand_t (y := (((decide (x.Kind = 4)) && (decide (x.Round = c1))) || ((arbiter_word x) && (decide (c1 < x.Round))))) rfl h_1 rfl) rfl (X.q rfl (GS.opsNil ?_))
    exact X.norm _ hg rfl (sr rfl)
   refine X.split ((arbiter_word x)) (fun h_5 => ?_) (fun h_5 => ?_)
   ·iterate 5 refine X.q rfl ?_
    iterate 4 refine X.opR (X.on_t rfl rfl rfl h_1) rfl rfl ?_
    iterate 4 refine X.off (X.off_t rfl rfl rfl h_2) rfl ?_
    refine X.opR (X.on_t rfl rfl rfl h_1) (X.pickand_f (y := decide (x.Round = c1)) rfl h_2 rfl) rfl ?_
    refine X.opR (X.on_t rfl rfl rfl h_1) rfl rfl ?_
    refine X.opR (X.on_f rfl rfl rfl (X.and_ff h_2)) rfl rfl ?_
    refine X.call (ok_arbiter_word x) (X.on_f rfl rfl rfl (X.and_ff h_2)) rfl rfl (.cons (.shut (n := 9) rfl) .nil) ?_
    refine X.opR (X.on_f rfl rfl rfl (X.and_ff h_2)) rfl rfl ?_
    iterate 4 refine X.opR (X.on_t rfl rfl rfl h_5) rfl rfl ?_
    refine X.opR (X.on_f rfl rfl rfl (X.and_ff h_2)) (X.pickand_t (y := decide (c1 < x.Round)) rfl h_5 rfl) rfl ?_
    refine X.opR (X.on_t rfl rfl rfl h_1) (X.pickor_f (y := ((arbiter_word x) && (decide (c1 < x.Round)))) rfl (X.and_ff h_2) rfl) rfl ?_
    refine X.opR rfl (X.pickand_t (y := (((decide (x.Kind = 4)) && (decide (x.Round = c1))) || ((arbiter_word x) && (decide (c1 < x.Round))))) rfl h_1 rfl) rfl (X.q rfl (GS.opsNil ?_))
    exact X.norm _ hg rfl (sr rfl)
   iterate 5 refine X.q rfl ?_
   iterate 4 refine X.opR (X.on_t rfl rfl rfl h_1) rfl rfl ?_
   iterate 4 refine X.off (X.off_t rfl rfl rfl h_2) rfl ?_
   refine X.opR (X.on_t rfl rfl rfl h_1) (X.pickand_f (y := decide (x.Round = c1)) rfl h_2 rfl) rfl ?_
   refine X.opR (X.on_t rfl rfl rfl h_1) rfl rfl ?_
   refine X.opR (X.on_f rfl rfl rfl (X.and_ff h_2)) rfl rfl ?_
   refine X.call (ok_arbiter_word x) (X.on_f rfl rfl rfl (X.and_ff h_2)) rfl rfl (.cons (.shut (n := 9) rfl) .nil) ?_
   refine X.opR (X.on_f rfl rfl rfl (X.and_ff h_2)) rfl rfl ?_
   iterate 4 refine X.off (X.off_t rfl rfl rfl h_5) rfl ?_
   refine X.opR (X.on_f rfl rfl rfl (X.and_ff h_2)) (X.pickand_f (y := decide (c1 < x.Round)) rfl h_5 rfl) rfl ?_
   refine X.opR (X.on_t rfl rfl rfl h_1) (X.pickor_f (y := ((arbiter_word x) && (decide (c1 < x.Round)))) rfl (X.and_ff h_2) rfl) rfl ?_
   refine X.opR rfl (X.pickand_t (y := (((decide (x.Kind = 4)) && (decide (x.Round = c1))) || ((arbiter_word x) && (decide (c1 < x.Round))))) rfl h_1 rfl) rfl (X.q rfl (GS.opsNil ?_))
   exact X.norm _ hg rfl (sr rfl)
  iterate 5 refine X.q rfl ?_
  iterate 4 refine X.off (X.off_t rfl rfl rfl h_1) rfl ?_
  iterate 4 refine X.off rfl rfl ?_
  iterate 2 refine X.off (X.off_t rfl rfl rfl h_1) rfl ?_
  iterate 8 refine X.off rfl rfl ?_
  refine X.off (X.off_t rfl rfl rfl h_1) rfl ?_
  refine X.opR rfl (X.pickand_f (y := (((decide (x.Kind = 4)) && (decide (x.Round = c1))) || ((arbiter_word x) && (decide (c1 < x.Round))))) rfl h_1 rfl) rfl (X.q rfl (GS.opsNil ?_))
  exact X.norm _ hg rfl (sr rfl)
 subst hM
 exact GS.ret ⟨_, rfl, ⟨30, rfl⟩⟩
theorem ok_slices_IndexFunc_api_Letter__arbiter_Can_2 {s : (List api_Letter)} {c : Int} {c1 : Int} {r : Int} (hM : slices_IndexFunc_api_Letter__arbiter_Can_2 s c c1 = some r) : Ct Try.prog 67 [(V.sl (List.map e_api_Letter s)), (V.fn 65 [(V.fptr [(V.i c)] 0 0), (V.fptr [(V.i c1)] 0 0)])] (V.i r) := by
 refine ct_of_gs CC_ok rfl ?_
 unfold slices_IndexFunc_api_Letter__arbiter_Can_2 at hM
 refine X.sq (X.q rfl (GS.opsNil (GS.seq (X.sq (X.q rfl ?_)))))
 refine X.opR rfl (X.lenF rfl rfl rfl) rfl (X.q rfl (GS.opsNil ?_))
 refine X.join (τ := Unit) (fun v => slices_IndexFunc_api_Letter__arbiter_Can_2_j1 = some r) (fun v => ⟨[], [], 0, none, 19⟩) ?_ ?_
 ·intro _ hM
  replace hM : slices_IndexFunc_api_Letter__arbiter_Can_2_j1 = some r := hM
  unfold slices_IndexFunc_api_Letter__arbiter_Can_2_j1 at hM
  refine X.sq (X.q rfl (GS.opsNil ?_))
  cases hM
  exact GS.ret ⟨_, rfl, ⟨30, rfl⟩⟩
 intro hj_1
 refine GS.block ?_
 refine X.gc [] (X.loop (σ := Int) (fun v => ⟨[(0, (V.sl (List.map e_api_Letter s))), (1, (V.fn 65 [(V.fptr [(V.i c)] 0 0), (V.fptr [(V.i c1)] 0 0)])), (7, (V.i (s.length : Int))), (8, (V.i v))], [], 0, none, 19⟩) hM ?_ rfl) rfl rfl rfl (ga rfl rfl) (gb_nil)
 intro x1 b_1 hM hc_2 hr_1
 rw [slices_IndexFunc_api_Letter__arbiter_Can_2_b2] at hM
 refine X.sq (X.q rfl (GS.opsNil (GS.seq ?_)))
 refine X.cond rfl (fun h_1 => ?_) (fun h_1 => ?_)
 ·replace hM := ite_t h_1 hM
  refine GS.skip (GS.seq (GS.block (X.sq (X.q rfl (X.q rfl ?_)))))
  refine GS.opsNil (GS.seq ?_)
  obtain ⟨x, h_2, hM⟩ := bind_of hM
  refine GS.region (X.q rfl (X.q rfl (X.q rfl ?_)))
  refine X.opR rfl (X.indexF (f := e_api_Letter) h_2 (fun _ => rfl) rfl rfl rfl rfl) rfl ?_
  refine X.opR rfl (X.loadF h_2 rfl rfl rfl) rfl ?_
  refine X.call (ok_arbiter_Can_2 x c c1) rfl rfl rfl (.cons (.shut (n := 9) rfl) (.cons (.shut (n := 9) rfl) (.cons (.shut (n := 9) rfl) .nil))) (GS.opsNil ?_)
  refine X.cond rfl (fun h_3 => ?_) (fun h_3 => ?_)
  ·replace hM := ite_t h_3 hM
   refine X.sq (X.q rfl (X.q rfl ?_))
   refine GS.opsNil ?_
   have hE := Option.some.inj hM
   replace hE := hr_1 _ hE.symm
   subst hE
   exact GS.ret ⟨_, rfl, ⟨30, rfl⟩⟩
  replace hM := ite_f h_3 hM
  refine GS.skip ?_
  refine GS.endB (GS.region ?_)
  refine X.opR rfl (X.addE rfl rfl) rfl (X.q rfl (GS.opsNil ?_))
  have hE := Option.some.inj hM
  exact X.gc [] (hc_2 (w64 (x1 + 1)) hE.symm) rfl rfl rfl (ga rfl rfl) (gb_nil)
 replace hM := ite_f h_1 hM
 refine GS.exit rfl ?_
 obtain ⟨y_1, hM, hy⟩ := map_of hM
 rw [hr_1 _ hy.symm] at hM
 exact X.gc [] (hj_1 () hM) rfl rfl rfl (gk_nil) (gb_nil)
theorem ok_slices_ContainsFunc_api_Letter__arbiter_Can_2 {s : (List api_Letter)} {c : Int} {c1 : Int} {r : Bool} (hM : slices_ContainsFunc_api_Letter__arbiter_Can_2 s c c1 = some r) : Ct Try.prog 64 [(V.sl (List.map e_api_Letter s)), (V.fn 65 [(V.fptr [(V.i c)] 0 0), (V.fptr [(V.i c1)] 0 0)])] (V.b r) := by
 refine ct_of_gs CC_ok rfl ?_
 unfold slices_ContainsFunc_api_Letter__arbiter_Can_2 at hM
 refine X.sq (X.q rfl (GS.opsNil (GS.seq ?_)))
 obtain ⟨y, h_1, hM⟩ := bind_of hM
 refine GS.region (X.q rfl (X.q rfl ?_))
 refine X.call (ok_slices_IndexFunc_api_Letter__arbiter_Can_2 h_1) rfl rfl rfl (.cons (.shut (n := 9) rfl) (.cons (.shut (n := 9) rfl) .nil)) (X.q rfl (X.q rfl ?_))
 refine GS.opsNil ?_
 cases hM
 exact GS.ret ⟨_, rfl, ⟨30, rfl⟩⟩
theorem ok_arbiter_Can_3 (x : api_Letter) (c : Int) : Ct Try.prog 68 [(e_api_Letter x), (V.fptr [(V.i c)] 0 0)] (V.b (arbiter_Can_3 x c)) := by
 refine ct_of_gs CC_ok rfl ?_
 generalize hM : arbiter_Can_3 x c = r
 unfold arbiter_Can_3 at hM
 refine X.sq ?_
 refine X.opW rfl rfl rfl rfl (X.q rfl (X.nq ?_))
 refine X.mid [(3, (V.b ((decide (x.Kind = 3)) && (decide (x.Round = c)))))] ?_ ?_
 ·intro hg
  refine X.split (decide (x.Kind = 3)) (fun h_1 => ?_) (fun h_1 => ?_)
  ·iterate 4 refine X.q rfl ?_
   iterate 4 refine X.opR (X.on_t rfl rfl rfl h_1) rfl rfl ?_
   refine X.opR rfl (X.pickand_t (y := decide (x.Round = c)) rfl h_1 rfl) rfl (X.q rfl (GS.opsNil ?_))
   exact X.norm _ hg rfl (sr rfl)
  iterate 4 refine X.q rfl ?_
  iterate 4 refine X.off (X.off_t rfl rfl rfl h_1) rfl ?_
  refine X.opR rfl (X.pickand_f (y := decide (x.Round = c)) rfl h_1 rfl) rfl (X.q rfl (GS.opsNil ?_))
  exact X.norm _ hg rfl (sr rfl)
 subst hM
 exact GS.ret ⟨_, rfl, ⟨30, rfl⟩⟩
theorem ok_slices_IndexFunc_api_Letter__arbiter_Can_3 {s : (List api_Letter)} {c : Int} {r : Int} (hM : slices_IndexFunc_api_Letter__arbiter_Can_3 s c = some r) : Ct Try.prog 67 [(V.sl (List.map e_api_Letter s)), (V.fn 68 [(V.fptr [(V.i c)] 0 0)])] (V.i r) := by
 refine ct_of_gs CC_ok rfl ?_
 unfold slices_IndexFunc_api_Letter__arbiter_Can_3 at hM
 refine X.sq (X.q rfl (GS.opsNil (GS.seq (X.sq (X.q rfl ?_)))))
 refine X.opR rfl (X.lenF rfl rfl rfl) rfl (X.q rfl (GS.opsNil ?_))
 refine X.join (τ := Unit) (fun v => slices_IndexFunc_api_Letter__arbiter_Can_3_j1 = some r) (fun v => ⟨[], [], 0, none, 19⟩) ?_ ?_
 ·intro _ hM
  replace hM : slices_IndexFunc_api_Letter__arbiter_Can_3_j1 = some r := hM
  unfold slices_IndexFunc_api_Letter__arbiter_Can_3_j1 at hM
  refine X.sq (X.q rfl (GS.opsNil ?_))
  cases hM
  exact GS.ret ⟨_, rfl, ⟨30, rfl⟩⟩
 intro hj_1
 refine GS.block ?_
 refine X.gc [] (X.loop (σ := Int) (fun v => ⟨[(0, (V.sl (List.map e_api_Letter s))), (1, (V.fn 68 [(V.fptr [(V.i c)] 0 0)])), (7, (V.i (s.length : Int))), (8, (V.i v))], [], 0, none, 19⟩) hM ?_ rfl) rfl rfl rfl (ga rfl rfl) (gb_nil)
 intro x1 b_1 hM hc_2 hr_1
 rw [slices_IndexFunc_api_Letter__arbiter_Can_3_b2] at hM
 refine X.sq (X.q rfl (GS.opsNil (GS.seq ?_)))
 refine X.cond rfl (fun h_1 => ?_) (fun h_1 => ?_)
 ·replace hM := ite_t h_1 hM
  refine GS.skip (GS.seq (GS.block (X.sq (X.q rfl (X.q rfl ?_)))))
  refine GS.opsNil (GS.seq ?_)
  obtain ⟨x, h_2, hM⟩ := bind_of hM
  refine GS.region (X.q rfl (X.q rfl (X.q rfl ?_)))
  refine X.opR rfl (X.indexF (f := e_api_Letter) h_2 (fun _ => rfl) rfl rfl rfl rfl) rfl ?_
  refine X.opR rfl (X.loadF h_2 rfl rfl rfl) rfl ?_
  refine X.call (ok_arbiter_Can_3 x c) rfl rfl rfl (.cons (.shut (n := 9) rfl) (.cons (.shut (n := 9) rfl) .nil)) (GS.opsNil ?_)
  refine X.cond rfl (fun h_3 => ?_) (fun h_3 => ?_)
  ·replace hM := ite_t h_3 hM
   refine X.sq (X.q rfl (X.q rfl ?_))
   refine GS.opsNil ?_
   have hE := Option.some.inj hM
   replace hE := hr_1 _ hE.symm
   subst hE
   exact GS.ret ⟨_, rfl, ⟨30, rfl⟩⟩
  replace hM := ite_f h_3 hM
  refine GS.skip ?_
  refine GS.endB (GS.region ?_)
  refine X.opR rfl (X.addE rfl rfl) rfl (X.q rfl (GS.opsNil ?_))
  have hE := Option.some.inj hM
  exact X.gc [] (hc_2 (w64 (x1 + 1)) hE.symm) rfl rfl rfl (ga rfl rfl) (gb_nil)
 replace hM := ite_f h_1 hM
 refine GS.exit rfl ?_
 obtain ⟨y_1, hM, hy⟩ := map_of hM
 rw [hr_1 _ hy.symm] at hM
 exact X.gc [] (hj_1 () hM) rfl rfl rfl (gk_nil) (gb_nil)
theorem ok_arbiter_Can_4 {x : api_Letter} {c : Int} {c1 : Int} {c2 : (List api_Letter)} {c3 : Int} {r : Bool} (hM : arbiter_Can_4 x c c1 c2 c3 = some r) : Ct Try.prog 69 [(e_api_Letter x), (V.fptr [(V.i c)] 0 0), (V.fptr [(V.i c1)] 0 0), (V.fptr [(V.sl (List.map e_api_Letter c2))] 0 0), (V.fptr [(V.i c3)] 0 0)] (V.b r) := by
 refine ct_of_gs CC_ok rfl ?_
 unfold arbiter_Can_4 at hM
 refine X.sq ?_
 refine X.opW rfl rfl rfl rfl (X.q rfl (GS.opsNil (GS.seq ?_)))
 obtain ⟨x1, h_1, hM⟩ := gb_of hM
 refine X.mid [(6, (V.b ((((decide (x.Kind = 4)) && (decide (x.From = c))) && (decide (x.Round = c1))) && (decide (x.Finding = x1.Finding)))))] ?_ ?_
 ·intro hg
  refine X.split (decide (x.Kind = 4)) (fun h_2 => ?_) (fun h_2 => ?_)
  ·refine X.split (((decide (x.Kind = 4)) && (decide (x.From = c)))) (fun h_3 => ?_) (fun h_3 => ?_)
   ·refine X.split ((((decide (x.Kind = 4)) && (decide (x.From = c))) && (decide (x.Round = c1)))) (fun h_4 => ?_) (fun h_4 => ?_)
    ·refine X.drawc (by kernel_rfl) rfl ?_
     iterate 4 refine X.cop rfl rfl rfl rfl ?_
     iterate 4 refine X.cop (X.on_t rfl rfl rfl h_2) rfl rfl rfl ?_
     refine X.cop rfl (X.pickand_t (y := decide (x.From = c)) rfl h_2 rfl) rfl rfl ?_
     refine X.cop rfl rfl rfl rfl ?_
     iterate 4 refine X.cop (X.on_t rfl rfl rfl h_3) rfl rfl rfl ?_
     refine X.cop rfl (X.pickand_t (y := decide (x.Round = c1)) rfl h_3 rfl) rfl rfl ?_
     refine X.cop rfl rfl rfl rfl ?_
     iterate 4 refine X.cop (X.on_t rfl rfl rfl h_4) rfl rfl rfl ?_
     refine X.cop (X.on_t rfl rfl rfl h_4) (X.indexF (f := e_api_Letter) (h_1 h_4) (fun _ => rfl) rfl rfl rfl rfl) rfl rfl ?_
     refine X.cop (X.on_t rfl rfl rfl h_4) rfl rfl rfl ?_
     refine X.cop (X.on_t rfl rfl rfl h_4) (X.loadF (h_1 h_4) rfl rfl rfl) rfl rfl ?_
     refine X.cop (X.on_t rfl rfl rfl h_4) rfl rfl rfl ?_
     refine X.cop rfl (X.pickand_t (y := decide (x.Finding = x1.Finding)) rfl h_4 rfl) rfl rfl ?_
     refine X.cop rfl rfl rfl rfl ?_
     refine X.cnil ?_
     exact X.norm _ hg rfl (sr rfl)
    refine X.drawc (by kernel_rfl) rfl ?_
    iterate 4 refine X.cop rfl rfl rfl rfl ?_
    iterate 4 refine X.cop (X.on_t rfl rfl rfl h_2) rfl rfl rfl ?_
    refine X.cop rfl (X.pickand_t (y := decide (x.From = c)) rfl h_2 rfl) rfl rfl ?_
    refine X.cop rfl rfl rfl rfl ?_
    iterate 4 refine X.cop (X.on_t rfl rfl rfl h_3) rfl rfl rfl ?_
    refine X.cop rfl (X.pickand_t (y := decide (x.Round = c1)) rfl h_3 rfl) rfl rfl ?_
    refine X.cop rfl rfl rfl rfl ?_
    iterate 8 refine X.coff (X.off_t rfl rfl rfl h_4) rfl rfl ?_
    refine X.cop rfl (X.pickand_f (y := decide (x.Finding = x1.Finding)) rfl h_4 rfl) rfl rfl ?_
    refine X.cop rfl rfl rfl rfl ?_
    refine X.cnil ?_
    exact X.norm _ hg rfl (sr rfl)
   refine X.drawc (by kernel_rfl) rfl ?_
   iterate 4 refine X.cop rfl rfl rfl rfl ?_
   iterate 4 refine X.cop (X.on_t rfl rfl rfl h_2) rfl rfl rfl ?_
   refine X.cop rfl (X.pickand_t (y := decide (x.From = c)) rfl h_2 rfl) rfl rfl ?_
   refine X.cop rfl rfl rfl rfl ?_
   iterate 4 refine X.coff (X.off_t rfl rfl rfl h_3) rfl rfl ?_
   refine X.cop rfl (X.pickand_f (y := decide (x.Round = c1)) rfl h_3 rfl) rfl rfl ?_
   refine X.cop rfl rfl rfl rfl ?_
   iterate 8 refine X.coff (X.off_t rfl rfl rfl (X.and_ff h_3)) rfl rfl ?_
   refine X.cop rfl (X.pickand_f (y := decide (x.Finding = x1.Finding)) rfl (X.and_ff h_3) rfl) rfl rfl ?_
   refine X.cop rfl rfl rfl rfl ?_
   refine X.cnil ?_
   exact X.norm _ hg rfl (sr rfl)
  refine X.drawc (by kernel_rfl) rfl ?_
  iterate 4 refine X.cop rfl rfl rfl rfl ?_
  iterate 4 refine X.coff (X.off_t rfl rfl rfl h_2) rfl rfl ?_
  refine X.cop rfl (X.pickand_f (y := decide (x.From = c)) rfl h_2 rfl) rfl rfl ?_
  refine X.cop rfl rfl rfl rfl ?_
  iterate 4 refine X.coff (X.off_t rfl rfl rfl (X.and_ff h_2)) rfl rfl ?_
  refine X.cop rfl (X.pickand_f (y := decide (x.Round = c1)) rfl (X.and_ff h_2) rfl) rfl rfl ?_
  refine X.cop rfl rfl rfl rfl ?_
  iterate 8 refine X.coff (X.off_t rfl rfl rfl (X.and_ff (X.and_ff h_2))) rfl rfl ?_
  refine X.cop rfl (X.pickand_f (y := decide (x.Finding = x1.Finding)) rfl (X.and_ff (X.and_ff h_2)) rfl) rfl rfl ?_
  refine X.cop rfl rfl rfl rfl ?_
  refine X.cnil ?_
  exact X.norm _ hg rfl (sr rfl)
 cases hM
 exact GS.ret ⟨_, rfl, ⟨30, rfl⟩⟩
theorem ok_slices_IndexFunc_api_Letter__arbiter_Can_4 {s : (List api_Letter)} {c : Int} {c1 : Int} {c2 : (List api_Letter)} {c3 : Int} {r : Int} (hM : slices_IndexFunc_api_Letter__arbiter_Can_4 s c c1 c2 c3 = some r) : Ct Try.prog 67 [(V.sl (List.map e_api_Letter s)), (V.fn 69 [(V.fptr [(V.i c)] 0 0), (V.fptr [(V.i c1)] 0 0), (V.fptr [(V.sl (List.map e_api_Letter c2))] 0 0), (V.fptr [(V.i c3)] 0 0)])] (V.i r) := by
 refine ct_of_gs CC_ok rfl ?_
 unfold slices_IndexFunc_api_Letter__arbiter_Can_4 at hM
 refine X.sq (X.q rfl (GS.opsNil (GS.seq (X.sq (X.q rfl ?_)))))
 refine X.opR rfl (X.lenF rfl rfl rfl) rfl (X.q rfl (GS.opsNil ?_))
 refine X.join (τ := Unit) (fun v => slices_IndexFunc_api_Letter__arbiter_Can_4_j1 = some r) (fun v => ⟨[], [], 0, none, 19⟩) ?_ ?_
 ·intro _ hM
  replace hM : slices_IndexFunc_api_Letter__arbiter_Can_4_j1 = some r := hM
  unfold slices_IndexFunc_api_Letter__arbiter_Can_4_j1 at hM
  refine X.sq (X.q rfl (GS.opsNil ?_))
  cases hM
  exact GS.ret ⟨_, rfl, ⟨30, rfl⟩⟩
 intro hj_1
 refine GS.block ?_
 refine X.gc [] (X.loop (σ := Int) (fun v => ⟨[(0, (V.sl (List.map e_api_Letter s))), (1, (V.fn 69 [(V.fptr [(V.i c)] 0 0), (V.fptr [(V.i c1)] 0 0), (V.fptr [(V.sl (List.map e_api_Letter c2))] 0 0), (V.fptr [(V.i c3)] 0 0)])), (7, (V.i (s.length : Int))), (8, (V.i v))], [], 0, none, 19⟩) hM ?_ rfl) rfl rfl rfl (ga rfl rfl) (gb_nil)
 intro x1 b_1 hM hc_2 hr_1
 rw [slices_IndexFunc_api_Letter__arbiter_Can_4_b2] at hM
 refine X.sq (X.q rfl (GS.opsNil (GS.seq ?_)))
 refine X.cond rfl (fun h_1 => ?_) (fun h_1 => ?_)
 ·replace hM := ite_t h_1 hM
  refine GS.skip (GS.seq (GS.block (X.sq (X.q rfl (X.q rfl ?_)))))
  refine GS.opsNil (GS.seq ?_)
  obtain ⟨x, h_2, hM⟩ := bind_of hM
  obtain ⟨y, h_3, hM⟩ := bind_of hM
  refine GS.region (X.q rfl (X.q rfl (X.q rfl ?_)))
  refine X.opR rfl (X.indexF (f := e_api_Letter) h_2 (fun _ => rfl) rfl rfl rfl rfl) rfl ?_
  refine X.opR rfl (X.loadF h_2 rfl rfl rfl) rfl ?_
  refine X.call (ok_arbiter_Can_4 h_3) rfl rfl rfl (.cons (.shut (n := 9) rfl) (.cons (.shut (n := 9) rfl) (.cons (.shut (n := 9) rfl) (.cons (.shut (n := 9) rfl) (.cons (.shut (n := 9) rfl) .nil))))) (GS.opsNil ?_)
  refine X.cond rfl (fun h_4 => ?_) (fun h_4 => ?_)
  ·replace hM := ite_t h_4 hM
   refine X.sq (X.q rfl (X.q rfl ?_))
   refine GS.opsNil ?_
   have hE := Option.some.inj hM
   replace hE := hr_1 _ hE.symm
   subst hE
   exact GS.ret ⟨_, rfl, ⟨30, rfl⟩⟩
  replace hM := ite_f h_4 hM
  refine GS.skip ?_
  refine GS.endB (GS.region ?_)
  refine X.opR rfl (X.addE rfl rfl) rfl (X.q rfl (GS.opsNil ?_))
  have hE := Option.some.inj hM
  exact X.gc [] (hc_2 (w64 (x1 + 1)) hE.symm) rfl rfl rfl (ga rfl rfl) (gb_nil)
 replace hM := ite_f h_1 hM
 refine GS.exit rfl ?_
 obtain ⟨y_1, hM, hy⟩ := map_of hM
 rw [hr_1 _ hy.symm] at hM
 exact X.gc [] (hj_1 () hM) rfl rfl rfl (gk_nil) (gb_nil)
theorem ok_slices_ContainsFunc_api_Letter__arbiter_Can_4 {s : (List api_Letter)} {c : Int} {c1 : Int} {c2 : (List api_Letter)} {c3 : Int} {r : Bool} (hM : slices_ContainsFunc_api_Letter__arbiter_Can_4 s c c1 c2 c3 = some r) : Ct Try.prog 64 [(V.sl (List.map e_api_Letter s)), (V.fn 69 [(V.fptr [(V.i c)] 0 0), (V.fptr [(V.i c1)] 0 0), (V.fptr [(V.sl (List.map e_api_Letter c2))] 0 0), (V.fptr [(V.i c3)] 0 0)])] (V.b r) := by
 refine ct_of_gs CC_ok rfl ?_
 unfold slices_ContainsFunc_api_Letter__arbiter_Can_4 at hM
 refine X.sq (X.q rfl (GS.opsNil (GS.seq ?_)))
 obtain ⟨y, h_1, hM⟩ := bind_of hM
 refine GS.region (X.q rfl (X.q rfl ?_))
 refine X.call (ok_slices_IndexFunc_api_Letter__arbiter_Can_4 h_1) rfl rfl rfl (.cons (.shut (n := 9) rfl) (.cons (.shut (n := 9) rfl) .nil)) (X.q rfl (X.q rfl ?_))
 refine GS.opsNil ?_
 cases hM
 exact GS.ret ⟨_, rfl, ⟨30, rfl⟩⟩
theorem fold_arbiter_Can_b4 (round : Int) (x : List api_Letter) (y1 : Int) : FoldOK (arbiter_Can_b4 round x y1) Eq := by
 refine ⟨fun _ => rfl, fun _ _ _ h1 h2 => h1.trans h2, fun k s s' t e h => ⟨t, by rw [← e]; exact h, rfl⟩, ?_⟩
 have key : ∀ p, ∃ m : Option Bool, ∀ n, arbiter_Can_b4 round x y1 p n = m.map fun b => bif b then w64 (n + 1) else n := by
  rintro ⟨k, v⟩
  refine ⟨gb (!(v) && (decide (0 ≤ y1))) (slices_ContainsFunc_api_Letter__arbiter_Can_4 x k round x y1) fun y4 => some (v || ((decide (0 ≤ y1)) && y4)), fun n => ?_⟩
  simp only [arbiter_Can_b4, arbiter_Can_j5, gb]
  generalize (if (!(v) && (decide (0 ≤ y1))) = true then slices_ContainsFunc_api_Letter__arbiter_Can_4 x k round x y1 else some default) = m
  cases m with
  | none => rfl
  | some y4 =>
   simp only [Option.bind_some, Option.map_some]
   cases v || ((decide (0 ≤ y1)) && y4) <;> rfl
 intro k l s t u h1 h2
 obtain ⟨mk, ek⟩ := key k
 obtain ⟨ml, el⟩ := key l
 rw [ek] at h1
 rw [el] at h2
 obtain ⟨b, q1, q2⟩ := Option.map_eq_some_iff.1 h1
 obtain ⟨c, q3, q4⟩ := Option.map_eq_some_iff.1 h2
 refine ⟨bif c then w64 (s + 1) else s, u, by rw [el, q3]; rfl, ?_, rfl⟩
 rw [ek, q1, Option.map_some, ← q4, ← q2]
 cases b <;> cases c <;> rfl
end Go.Proofs.Ytkomoedegnckhaa
