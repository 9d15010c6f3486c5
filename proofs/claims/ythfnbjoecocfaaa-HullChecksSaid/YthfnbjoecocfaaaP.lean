/- The program's functions compute the plain ones. Conditions: none. Printed by a program (wip/tools/xg.py). -/
import Derived.Test.YthfnbjoecocfaaaP2
set_option linter.unusedVariables false
set_option linter.unusedSimpArgs false
namespace Go.Proofs.Ythfnbjoecocfaaa
open Go Go.Am Go.Proofs Go.Mx

set_option maxHeartbeats 4000000 in
theorem ok_ref03_Check {s : api_Ship} {r : Int} (hM : ref03_Check s = some r) : Ct Try.prog 24 [(e_api_Ship s)] (V.i r) := by
  refine ct_of_gs CC_ok rfl ?_
  unfold ref03_Check at hM
  refine GS.seq ?_
  refine GS.region ?_
  refine X.opW rfl rfl rfl rfl ?_
  refine X.opR rfl rfl rfl ?_
  refine GS.opsNil ?_
  refine GS.seq ?_
  refine GS.region ?_
  iterate 4 refine X.opR rfl rfl rfl ?_
  refine X.call (ok_ref03_placed s.Lever s.Height) rfl rfl rfl (.cons (.shut (n := 9) rfl) (.cons (.shut (n := 9) rfl) .nil)) ?_
  refine X.opR rfl rfl rfl ?_
  refine GS.opsNil ?_
  iterate 2 refine GS.seq ?_
  refine GS.region ?_
  refine X.mid [(1, (V.ptr 0 0 0)), (41, (V.b (((((!(ref03_in s.ID 1 1099511627776)) || (!(ref03_in s.Light 1 65536))) || (!(ref03_placed s.Lever s.Height))) || (!(ref03_in s.Turn 1 1048576))) || (!(ref03_in s.Least 0 5000)))))] ?_ ?_
  · intro hg
    refine X.split (!(ref03_in s.ID 1 1099511627776)) (fun h_1 => ?_) (fun h_1 => ?_)
    · iterate 2 refine X.opR rfl rfl rfl ?_
      refine X.call (ok_ref03_in s.ID 1 1099511627776) rfl rfl rfl (.cons (.shut (n := 9) rfl) (.cons (.shut (n := 9) rfl) (.cons (.shut (n := 9) rfl) .nil))) ?_
      iterate 2 refine X.opR rfl rfl rfl ?_
      iterate 4 refine X.off (X.off_f rfl rfl rfl h_1) rfl ?_
      refine X.opR rfl (X.pickor_t (y := !(ref03_in s.Light 1 65536)) rfl h_1 rfl) rfl ?_
      refine X.opR rfl rfl rfl ?_
      iterate 2 refine X.off (X.off_f rfl rfl rfl (X.or_tt h_1)) rfl ?_
      refine X.opR rfl (X.pickor_t (y := !(ref03_placed s.Lever s.Height)) rfl (X.or_tt h_1) rfl) rfl ?_
      refine X.opR rfl rfl rfl ?_
      iterate 4 refine X.off (X.off_f rfl rfl rfl (X.or_tt (X.or_tt h_1))) rfl ?_
      refine X.opR rfl (X.pickor_t (y := !(ref03_in s.Turn 1 1048576)) rfl (X.or_tt (X.or_tt h_1)) rfl) rfl ?_
      refine X.opR rfl rfl rfl ?_
      iterate 4 refine X.off (X.off_f rfl rfl rfl (X.or_tt (X.or_tt (X.or_tt h_1)))) rfl ?_
      refine X.opR rfl (X.pickor_t (y := !(ref03_in s.Least 0 5000)) rfl (X.or_tt (X.or_tt (X.or_tt h_1))) rfl) rfl ?_
      refine GS.opsNil ?_
      exact X.norm _ hg rfl (W.sub_cons rfl (W.sub_cons rfl W.sub_nil))
    · refine X.split (((!(ref03_in s.ID 1 1099511627776)) || (!(ref03_in s.Light 1 65536)))) (fun h_2 => ?_) (fun h_2 => ?_)
      · iterate 2 refine X.opR rfl rfl rfl ?_
        refine X.call (ok_ref03_in s.ID 1 1099511627776) rfl rfl rfl (.cons (.shut (n := 9) rfl) (.cons (.shut (n := 9) rfl) (.cons (.shut (n := 9) rfl) .nil))) ?_
        iterate 2 refine X.opR rfl rfl rfl ?_
        iterate 2 refine X.opR (X.on_f rfl rfl rfl h_1) rfl rfl ?_
        refine X.call (ok_ref03_in s.Light 1 65536) (X.on_f rfl rfl rfl h_1) rfl rfl (.cons (.shut (n := 9) rfl) (.cons (.shut (n := 9) rfl) (.cons (.shut (n := 9) rfl) .nil))) ?_
        refine X.opR (X.on_f rfl rfl rfl h_1) rfl rfl ?_
        refine X.opR rfl (X.pickor_f (y := !(ref03_in s.Light 1 65536)) rfl h_1 rfl) rfl ?_
        refine X.opR rfl rfl rfl ?_
        iterate 2 refine X.off (X.off_f rfl rfl rfl h_2) rfl ?_
        refine X.opR rfl (X.pickor_t (y := !(ref03_placed s.Lever s.Height)) rfl h_2 rfl) rfl ?_
        refine X.opR rfl rfl rfl ?_
        iterate 4 refine X.off (X.off_f rfl rfl rfl (X.or_tt h_2)) rfl ?_
        refine X.opR rfl (X.pickor_t (y := !(ref03_in s.Turn 1 1048576)) rfl (X.or_tt h_2) rfl) rfl ?_
        refine X.opR rfl rfl rfl ?_
        iterate 4 refine X.off (X.off_f rfl rfl rfl (X.or_tt (X.or_tt h_2))) rfl ?_
        refine X.opR rfl (X.pickor_t (y := !(ref03_in s.Least 0 5000)) rfl (X.or_tt (X.or_tt h_2)) rfl) rfl ?_
        refine GS.opsNil ?_
        exact X.norm _ hg rfl (W.sub_cons rfl (W.sub_cons rfl W.sub_nil))
      · refine X.split ((((!(ref03_in s.ID 1 1099511627776)) || (!(ref03_in s.Light 1 65536))) || (!(ref03_placed s.Lever s.Height)))) (fun h_3 => ?_) (fun h_3 => ?_)
        · iterate 2 refine X.opR rfl rfl rfl ?_
          refine X.call (ok_ref03_in s.ID 1 1099511627776) rfl rfl rfl (.cons (.shut (n := 9) rfl) (.cons (.shut (n := 9) rfl) (.cons (.shut (n := 9) rfl) .nil))) ?_
          iterate 2 refine X.opR rfl rfl rfl ?_
          iterate 2 refine X.opR (X.on_f rfl rfl rfl h_1) rfl rfl ?_
          refine X.call (ok_ref03_in s.Light 1 65536) (X.on_f rfl rfl rfl h_1) rfl rfl (.cons (.shut (n := 9) rfl) (.cons (.shut (n := 9) rfl) (.cons (.shut (n := 9) rfl) .nil))) ?_
          refine X.opR (X.on_f rfl rfl rfl h_1) rfl rfl ?_
          refine X.opR rfl (X.pickor_f (y := !(ref03_in s.Light 1 65536)) rfl h_1 rfl) rfl ?_
          refine X.opR rfl rfl rfl ?_
          iterate 2 refine X.opR (X.on_f rfl rfl rfl h_2) rfl rfl ?_
          refine X.opR rfl (X.pickor_f (y := !(ref03_placed s.Lever s.Height)) rfl h_2 rfl) rfl ?_
          refine X.opR rfl rfl rfl ?_
          iterate 4 refine X.off (X.off_f rfl rfl rfl h_3) rfl ?_
          refine X.opR rfl (X.pickor_t (y := !(ref03_in s.Turn 1 1048576)) rfl h_3 rfl) rfl ?_
          refine X.opR rfl rfl rfl ?_
          iterate 4 refine X.off (X.off_f rfl rfl rfl (X.or_tt h_3)) rfl ?_
          refine X.opR rfl (X.pickor_t (y := !(ref03_in s.Least 0 5000)) rfl (X.or_tt h_3) rfl) rfl ?_
          refine GS.opsNil ?_
          exact X.norm _ hg rfl (W.sub_cons rfl (W.sub_cons rfl W.sub_nil))
        · refine X.split (((((!(ref03_in s.ID 1 1099511627776)) || (!(ref03_in s.Light 1 65536))) || (!(ref03_placed s.Lever s.Height))) || (!(ref03_in s.Turn 1 1048576)))) (fun h_4 => ?_) (fun h_4 => ?_)
          · iterate 2 refine X.opR rfl rfl rfl ?_
            refine X.call (ok_ref03_in s.ID 1 1099511627776) rfl rfl rfl (.cons (.shut (n := 9) rfl) (.cons (.shut (n := 9) rfl) (.cons (.shut (n := 9) rfl) .nil))) ?_
            iterate 2 refine X.opR rfl rfl rfl ?_
            iterate 2 refine X.opR (X.on_f rfl rfl rfl h_1) rfl rfl ?_
            refine X.call (ok_ref03_in s.Light 1 65536) (X.on_f rfl rfl rfl h_1) rfl rfl (.cons (.shut (n := 9) rfl) (.cons (.shut (n := 9) rfl) (.cons (.shut (n := 9) rfl) .nil))) ?_
            refine X.opR (X.on_f rfl rfl rfl h_1) rfl rfl ?_
            refine X.opR rfl (X.pickor_f (y := !(ref03_in s.Light 1 65536)) rfl h_1 rfl) rfl ?_
            refine X.opR rfl rfl rfl ?_
            iterate 2 refine X.opR (X.on_f rfl rfl rfl h_2) rfl rfl ?_
            refine X.opR rfl (X.pickor_f (y := !(ref03_placed s.Lever s.Height)) rfl h_2 rfl) rfl ?_
            refine X.opR rfl rfl rfl ?_
            iterate 2 refine X.opR (X.on_f rfl rfl rfl h_3) rfl rfl ?_
            refine X.call (ok_ref03_in s.Turn 1 1048576) (X.on_f rfl rfl rfl h_3) rfl rfl (.cons (.shut (n := 9) rfl) (.cons (.shut (n := 9) rfl) (.cons (.shut (n := 9) rfl) .nil))) ?_
            refine X.opR (X.on_f rfl rfl rfl h_3) rfl rfl ?_
            refine X.opR rfl (X.pickor_f (y := !(ref03_in s.Turn 1 1048576)) rfl h_3 rfl) rfl ?_
            refine X.opR rfl rfl rfl ?_
            iterate 4 refine X.off (X.off_f rfl rfl rfl h_4) rfl ?_
            refine X.opR rfl (X.pickor_t (y := !(ref03_in s.Least 0 5000)) rfl h_4 rfl) rfl ?_
            refine GS.opsNil ?_
            exact X.norm _ hg rfl (W.sub_cons rfl (W.sub_cons rfl W.sub_nil))
          · iterate 2 refine X.opR rfl rfl rfl ?_
            refine X.call (ok_ref03_in s.ID 1 1099511627776) rfl rfl rfl (.cons (.shut (n := 9) rfl) (.cons (.shut (n := 9) rfl) (.cons (.shut (n := 9) rfl) .nil))) ?_
            iterate 2 refine X.opR rfl rfl rfl ?_
            iterate 2 refine X.opR (X.on_f rfl rfl rfl h_1) rfl rfl ?_
            refine X.call (ok_ref03_in s.Light 1 65536) (X.on_f rfl rfl rfl h_1) rfl rfl (.cons (.shut (n := 9) rfl) (.cons (.shut (n := 9) rfl) (.cons (.shut (n := 9) rfl) .nil))) ?_
            refine X.opR (X.on_f rfl rfl rfl h_1) rfl rfl ?_
            refine X.opR rfl (X.pickor_f (y := !(ref03_in s.Light 1 65536)) rfl h_1 rfl) rfl ?_
            refine X.opR rfl rfl rfl ?_
            iterate 2 refine X.opR (X.on_f rfl rfl rfl h_2) rfl rfl ?_
            refine X.opR rfl (X.pickor_f (y := !(ref03_placed s.Lever s.Height)) rfl h_2 rfl) rfl ?_
            refine X.opR rfl rfl rfl ?_
            iterate 2 refine X.opR (X.on_f rfl rfl rfl h_3) rfl rfl ?_
            refine X.call (ok_ref03_in s.Turn 1 1048576) (X.on_f rfl rfl rfl h_3) rfl rfl (.cons (.shut (n := 9) rfl) (.cons (.shut (n := 9) rfl) (.cons (.shut (n := 9) rfl) .nil))) ?_
            refine X.opR (X.on_f rfl rfl rfl h_3) rfl rfl ?_
            refine X.opR rfl (X.pickor_f (y := !(ref03_in s.Turn 1 1048576)) rfl h_3 rfl) rfl ?_
            refine X.opR rfl rfl rfl ?_
            iterate 2 refine X.opR (X.on_f rfl rfl rfl h_4) rfl rfl ?_
            refine X.call (ok_ref03_in s.Least 0 5000) (X.on_f rfl rfl rfl h_4) rfl rfl (.cons (.shut (n := 9) rfl) (.cons (.shut (n := 9) rfl) (.cons (.shut (n := 9) rfl) .nil))) ?_
            refine X.opR (X.on_f rfl rfl rfl h_4) rfl rfl ?_
            refine X.opR rfl (X.pickor_f (y := !(ref03_in s.Least 0 5000)) rfl h_4 rfl) rfl ?_
            refine GS.opsNil ?_
            exact X.norm _ hg rfl (W.sub_cons rfl (W.sub_cons rfl W.sub_nil))
  refine X.cond rfl (fun h_5 => ?_) (fun h_5 => ?_)
  · replace hM := ite_t h_5 hM
    refine GS.seq ?_
    refine GS.region ?_
    refine X.opR rfl rfl rfl ?_
    refine GS.opsNil ?_
    have hE := Option.some.inj hM
    subst hE
    exact GS.ret ⟨_, rfl, ⟨30, rfl⟩⟩
  · replace hM := ite_f h_5 hM
    refine GS.skip ?_
    iterate 2 refine GS.seq ?_
    refine GS.region ?_
    iterate 2 refine X.opR rfl rfl rfl ?_
    refine X.opR rfl (X.lenF rfl rfl rfl) rfl ?_
    refine X.opR rfl rfl rfl ?_
    refine GS.opsNil ?_
    refine X.cond rfl (fun h_6 => ?_) (fun h_6 => ?_)
    · replace hM := ite_t h_6 hM
      refine GS.seq ?_
      refine GS.region ?_
      refine X.opR rfl rfl rfl ?_
      refine GS.opsNil ?_
      have hE := Option.some.inj hM
      subst hE
      exact GS.ret ⟨_, rfl, ⟨30, rfl⟩⟩
    · replace hM := ite_f h_6 hM
      refine GS.skip ?_
      iterate 2 refine GS.seq ?_
      refine GS.region ?_
      refine X.opR rfl rfl rfl ?_
      refine GS.opsNil ?_
      refine X.join (τ := Unit) (fun v => ref03_Check_j1 s = some r) (fun v => ⟨[(1, (V.ptr 0 0 0))], [.rows 11 [(e_api_Ship s)]], 0, none, 147⟩) ?_ ?_
      · intro _ hM
        replace hM : ref03_Check_j1 s = some r := hM
        unfold ref03_Check_j1 at hM
        iterate 2 refine GS.seq ?_
        obtain ⟨y, h_7, hM⟩ := bind_of hM
        refine X.drawc (by kernel_rfl) rfl ?_
        iterate 3 refine X.cop rfl rfl rfl rfl ?_
        refine X.ccall (ok_ref03_rooms h_7) rfl rfl rfl rfl (.cons (.shut (n := 9) rfl) .nil) ?_
        refine X.cop rfl (X.addE rfl rfl) rfl rfl ?_
        refine X.cop rfl rfl rfl rfl ?_
        refine X.cnil ?_
        refine X.norm [(1, (V.ptr 0 0 0)), (96, (V.b (decide (65536 < (w64 (s.Light + y))))))] ?_ rfl (W.sub_cons rfl (W.sub_cons rfl W.sub_nil))
        refine X.cond rfl (fun h_8 => ?_) (fun h_8 => ?_)
        · replace hM := ite_t h_8 hM
          refine GS.seq ?_
          refine GS.region ?_
          refine X.opR rfl rfl rfl ?_
          refine GS.opsNil ?_
          have hE := Option.some.inj hM
          subst hE
          exact GS.ret ⟨_, rfl, ⟨30, rfl⟩⟩
        · replace hM := ite_f h_8 hM
          refine GS.skip ?_
          refine GS.seq ?_
          obtain ⟨y1, h_9, hM⟩ := bind_of hM
          refine GS.region ?_
          iterate 2 refine X.opR rfl rfl rfl ?_
          refine X.call (ok_ref01_Check h_9) rfl rfl rfl (.cons (.shut (n := 9) rfl) .nil) ?_
          refine X.opR rfl rfl rfl ?_
          refine GS.opsNil ?_
          iterate 2 refine GS.seq ?_
          refine GS.region ?_
          iterate 2 refine X.opR rfl rfl rfl ?_
          refine GS.opsNil ?_
          refine X.cond rfl (fun h_10 => ?_) (fun h_10 => ?_)
          · replace hM := ite_t h_10 hM
            refine GS.seq ?_
            refine GS.region ?_
            iterate 2 refine X.opR rfl rfl rfl ?_
            refine GS.opsNil ?_
            have hE := Option.some.inj hM
            subst hE
            exact GS.ret ⟨_, rfl, ⟨30, rfl⟩⟩
          · replace hM := ite_f h_10 hM
            refine GS.skip ?_
            refine GS.seq ?_
            obtain ⟨y2, h_11, hM⟩ := bind_of hM
            refine GS.region ?_
            iterate 2 refine X.opR rfl rfl rfl ?_
            refine X.call (ok_ref01_Check h_11) rfl rfl rfl (.cons (.shut (n := 9) rfl) .nil) ?_
            refine X.opR rfl rfl rfl ?_
            refine GS.opsNil ?_
            iterate 2 refine GS.seq ?_
            refine GS.region ?_
            iterate 2 refine X.opR rfl rfl rfl ?_
            refine GS.opsNil ?_
            refine X.cond rfl (fun h_12 => ?_) (fun h_12 => ?_)
            · replace hM := ite_t h_12 hM
              refine GS.seq ?_
              refine GS.region ?_
              iterate 2 refine X.opR rfl rfl rfl ?_
              refine GS.opsNil ?_
              have hE := Option.some.inj hM
              subst hE
              exact GS.ret ⟨_, rfl, ⟨30, rfl⟩⟩
            · replace hM := ite_f h_12 hM
              refine GS.skip ?_
              iterate 2 refine GS.seq ?_
              refine GS.region ?_
              refine X.opR rfl rfl rfl ?_
              refine GS.opsNil ?_
              refine X.join (τ := Unit) (fun v => ref03_Check_j2 s = some r) (fun v => ⟨[(1, (V.ptr 0 0 0))], [.rows 11 [(e_api_Ship s)]], 0, none, 147⟩) ?_ ?_
              · intro _ hM
                replace hM : ref03_Check_j2 s = some r := hM
                unfold ref03_Check_j2 at hM
                refine GS.seq ?_
                obtain ⟨y3, h_13, hM⟩ := bind_of hM
                refine GS.region ?_
                iterate 3 refine X.opR rfl rfl rfl ?_
                refine X.call (ok_ref03_known h_13) rfl rfl rfl (.cons (.shut (n := 9) rfl) (.cons (.shut (n := 9) rfl) .nil)) ?_
                refine X.opR rfl rfl rfl ?_
                refine GS.opsNil ?_
                refine GS.seq ?_
                obtain ⟨y4, h_14, hM⟩ := bind_of hM
                refine GS.region ?_
                iterate 3 refine X.opR rfl rfl rfl ?_
                refine X.call (ok_ref03_known h_14) rfl rfl rfl (.cons (.shut (n := 9) rfl) (.cons (.shut (n := 9) rfl) .nil)) ?_
                refine X.opR rfl rfl rfl ?_
                refine GS.opsNil ?_
                iterate 2 refine GS.seq ?_
                refine GS.region ?_
                refine X.mid [(146, (V.b ((!y3) || (!y4))))] ?_ ?_
                · intro hg
                  refine X.split (!y3) (fun h_15 => ?_) (fun h_15 => ?_)
                  · iterate 3 refine X.opR rfl rfl rfl ?_
                    iterate 2 refine X.off (X.off_f rfl rfl rfl h_15) rfl ?_
                    refine X.opR rfl (X.pickor_t (y := !y4) rfl h_15 rfl) rfl ?_
                    refine GS.opsNil ?_
                    exact X.norm _ hg rfl (W.sub_cons rfl W.sub_nil)
                  · iterate 3 refine X.opR rfl rfl rfl ?_
                    iterate 2 refine X.opR (X.on_f rfl rfl rfl h_15) rfl rfl ?_
                    refine X.opR rfl (X.pickor_f (y := !y4) rfl h_15 rfl) rfl ?_
                    refine GS.opsNil ?_
                    exact X.norm _ hg rfl (W.sub_cons rfl W.sub_nil)
                refine X.cond rfl (fun h_16 => ?_) (fun h_16 => ?_)
                · replace hM := ite_t h_16 hM
                  refine GS.seq ?_
                  refine GS.region ?_
                  refine X.opR rfl rfl rfl ?_
                  refine GS.opsNil ?_
                  have hE := Option.some.inj hM
                  subst hE
                  exact GS.ret ⟨_, rfl, ⟨30, rfl⟩⟩
                · replace hM := ite_f h_16 hM
                  refine GS.skip ?_
                  refine GS.seq ?_
                  refine GS.region ?_
                  refine X.opR rfl rfl rfl ?_
                  refine GS.opsNil ?_
                  have hE := Option.some.inj hM
                  subst hE
                  exact GS.ret ⟨_, rfl, ⟨30, rfl⟩⟩
              · intro hj_2
                refine GS.block ?_
                refine X.gc [some 0] (X.loop (σ := Int) (fun v => ⟨[(1, (V.ptr 0 0 0)), (8, (V.i v))], [.rows 11 [(e_api_Ship s)]], 0, none, 147⟩) hM ?_ rfl) rfl rfl rfl (gk_cons rfl ⟨9, rfl⟩ (gk_cons rfl ⟨9, rfl⟩ gk_nil)) (gb_box rfl rfl ⟨9, rfl⟩ gb_nil)
                intro i b_1 hM hc_3 hr_1
                rw [ref03_Check_b3] at hM
                iterate 2 refine GS.seq ?_
                refine GS.region ?_
                iterate 4 refine X.opR rfl rfl rfl ?_
                refine X.opR rfl (X.lenF rfl rfl rfl) rfl ?_
                refine X.opR rfl rfl rfl ?_
                refine GS.opsNil ?_
                refine X.cond rfl (fun h_17 => ?_) (fun h_17 => ?_)
                · replace hM := ite_t h_17 hM
                  refine GS.skip ?_
                  refine GS.seq ?_
                  refine GS.block ?_
                  refine GS.seq ?_
                  obtain ⟨x, h_18, hM⟩ := bind_of hM
                  obtain ⟨x1, h_19, hM⟩ := bind_of hM
                  refine X.drawc (by kernel_rfl) rfl ?_
                  iterate 4 refine X.cop rfl rfl rfl rfl ?_
                  refine X.cop rfl (X.indexF (f := e_api_Knot) h_18 (fun _ => rfl) rfl rfl rfl rfl) rfl rfl ?_
                  refine X.cop rfl rfl rfl rfl ?_
                  refine X.cop rfl (X.loadF h_18 rfl rfl rfl) rfl rfl ?_
                  iterate 4 refine X.cop rfl rfl rfl rfl ?_
                  refine X.cop rfl (X.subE rfl rfl) rfl rfl ?_
                  refine X.cop rfl (X.indexF (f := e_api_Knot) h_19 (fun _ => rfl) rfl rfl rfl rfl) rfl rfl ?_
                  refine X.cop rfl rfl rfl rfl ?_
                  refine X.cop rfl (X.loadF h_19 rfl rfl rfl) rfl rfl ?_
                  refine X.cop rfl rfl rfl rfl ?_
                  refine X.cnil ?_
                  refine X.norm [(1, (V.ptr 0 0 0)), (8, (V.i i)), (132, (V.b (decide (x.Y ≤ x1.Y))))] ?_ rfl (W.sub_cons rfl (W.sub_cons rfl (W.sub_cons rfl W.sub_nil)))
                  refine X.cond rfl (fun h_20 => ?_) (fun h_20 => ?_)
                  · replace hM := ite_t h_20 hM
                    refine GS.seq ?_
                    refine GS.region ?_
                    refine X.opR rfl rfl rfl ?_
                    refine GS.opsNil ?_
                    have hE := Option.some.inj hM
                    replace hE := hr_1 _ hE.symm
                    subst hE
                    exact GS.ret ⟨_, rfl, ⟨30, rfl⟩⟩
                  · replace hM := ite_f h_20 hM
                    refine GS.skip ?_
                    refine GS.endB ?_
                    refine GS.region ?_
                    refine X.opR rfl rfl rfl ?_
                    refine X.opR rfl (X.addE rfl rfl) rfl ?_
                    refine X.opR rfl rfl rfl ?_
                    refine GS.opsNil ?_
                    have hE := Option.some.inj hM
                    exact X.gc [some 0] (hc_3 (w64 (i + 1)) hE.symm) rfl rfl rfl (gk_cons rfl ⟨9, rfl⟩ (gk_cons rfl ⟨9, rfl⟩ gk_nil)) (gb_box rfl rfl ⟨9, rfl⟩ gb_nil)
                · replace hM := ite_f h_17 hM
                  refine GS.exit rfl ?_
                  obtain ⟨y_1, hM, hy⟩ := map_of hM
                  rw [hr_1 _ hy.symm] at hM
                  exact X.gc [some 0] (hj_2 () hM) rfl rfl rfl (gk_cons rfl ⟨9, rfl⟩ gk_nil) (gb_box rfl rfl ⟨9, rfl⟩ gb_nil)
      · intro hj_1
        refine GS.block ?_
        refine X.gc [some 0] (X.loop (σ := Int) (fun v => ⟨[(1, (V.ptr 0 0 0)), (4, (V.i v))], [.rows 11 [(e_api_Ship s)]], 0, none, 147⟩) hM ?_ rfl) rfl rfl rfl (gk_cons rfl ⟨9, rfl⟩ (gk_cons rfl ⟨9, rfl⟩ gk_nil)) (gb_box rfl rfl ⟨9, rfl⟩ gb_nil)
        intro i1 b_1 hM hc_4 hr_1
        rw [ref03_Check_b4] at hM
        iterate 2 refine GS.seq ?_
        refine GS.region ?_
        iterate 3 refine X.opR rfl rfl rfl ?_
        refine X.opR rfl (X.lenF rfl rfl rfl) rfl ?_
        refine X.opR rfl rfl rfl ?_
        refine GS.opsNil ?_
        refine X.cond rfl (fun h_21 => ?_) (fun h_21 => ?_)
        · replace hM := ite_t h_21 hM
          refine GS.skip ?_
          refine GS.seq ?_
          refine GS.block ?_
          refine GS.seq ?_
          obtain ⟨x2, h_22, hM⟩ := bind_of hM
          refine GS.region ?_
          iterate 3 refine X.opR rfl rfl rfl ?_
          refine X.opR rfl (X.indexF (f := e_api_Hold) h_22 (fun _ => rfl) rfl rfl rfl rfl) rfl ?_
          refine X.opR rfl (X.loadF h_22 rfl rfl rfl) rfl ?_
          refine X.opW rfl rfl rfl rfl ?_
          refine X.op0W rfl rfl rfl ?_
          refine GS.opsNil ?_
          refine GS.seq ?_
          refine GS.region ?_
          iterate 4 refine X.opR rfl rfl rfl ?_
          refine X.call (ok_ref03_placed x2.Lever x2.Height) rfl rfl rfl (.cons (.shut (n := 9) rfl) (.cons (.shut (n := 9) rfl) .nil)) ?_
          refine X.opR rfl rfl rfl ?_
          refine GS.opsNil ?_
          iterate 2 refine GS.seq ?_
          refine GS.region ?_
          refine X.mid [(1, (V.ptr 0 0 0)), (4, (V.i i1)), (5, (V.ptr 1 0 0)), (76, (V.b (((!(ref03_in x2.ID 1 1099511627776)) || (!(ref03_in x2.Room 0 65536))) || (!(ref03_placed x2.Lever x2.Height)))))] ?_ ?_
          · intro hg
            refine X.split (!(ref03_in x2.ID 1 1099511627776)) (fun h_23 => ?_) (fun h_23 => ?_)
            · iterate 2 refine X.opR rfl rfl rfl ?_
              refine X.call (ok_ref03_in x2.ID 1 1099511627776) rfl rfl rfl (.cons (.shut (n := 9) rfl) (.cons (.shut (n := 9) rfl) (.cons (.shut (n := 9) rfl) .nil))) ?_
              iterate 2 refine X.opR rfl rfl rfl ?_
              iterate 4 refine X.off (X.off_f rfl rfl rfl h_23) rfl ?_
              refine X.opR rfl (X.pickor_t (y := !(ref03_in x2.Room 0 65536)) rfl h_23 rfl) rfl ?_
              refine X.opR rfl rfl rfl ?_
              iterate 2 refine X.off (X.off_f rfl rfl rfl (X.or_tt h_23)) rfl ?_
              refine X.opR rfl (X.pickor_t (y := !(ref03_placed x2.Lever x2.Height)) rfl (X.or_tt h_23) rfl) rfl ?_
              refine GS.opsNil ?_
              exact X.norm _ hg rfl (W.sub_cons rfl (W.sub_cons rfl (W.sub_cons rfl (W.sub_cons rfl W.sub_nil))))
            · refine X.split (((!(ref03_in x2.ID 1 1099511627776)) || (!(ref03_in x2.Room 0 65536)))) (fun h_24 => ?_) (fun h_24 => ?_)
              · iterate 2 refine X.opR rfl rfl rfl ?_
                refine X.call (ok_ref03_in x2.ID 1 1099511627776) rfl rfl rfl (.cons (.shut (n := 9) rfl) (.cons (.shut (n := 9) rfl) (.cons (.shut (n := 9) rfl) .nil))) ?_
                iterate 2 refine X.opR rfl rfl rfl ?_
                iterate 2 refine X.opR (X.on_f rfl rfl rfl h_23) rfl rfl ?_
                refine X.call (ok_ref03_in x2.Room 0 65536) (X.on_f rfl rfl rfl h_23) rfl rfl (.cons (.shut (n := 9) rfl) (.cons (.shut (n := 9) rfl) (.cons (.shut (n := 9) rfl) .nil))) ?_
                refine X.opR (X.on_f rfl rfl rfl h_23) rfl rfl ?_
                refine X.opR rfl (X.pickor_f (y := !(ref03_in x2.Room 0 65536)) rfl h_23 rfl) rfl ?_
                refine X.opR rfl rfl rfl ?_
                iterate 2 refine X.off (X.off_f rfl rfl rfl h_24) rfl ?_
                refine X.opR rfl (X.pickor_t (y := !(ref03_placed x2.Lever x2.Height)) rfl h_24 rfl) rfl ?_
                refine GS.opsNil ?_
                exact X.norm _ hg rfl (W.sub_cons rfl (W.sub_cons rfl (W.sub_cons rfl (W.sub_cons rfl W.sub_nil))))
              · iterate 2 refine X.opR rfl rfl rfl ?_
                refine X.call (ok_ref03_in x2.ID 1 1099511627776) rfl rfl rfl (.cons (.shut (n := 9) rfl) (.cons (.shut (n := 9) rfl) (.cons (.shut (n := 9) rfl) .nil))) ?_
                iterate 2 refine X.opR rfl rfl rfl ?_
                iterate 2 refine X.opR (X.on_f rfl rfl rfl h_23) rfl rfl ?_
                refine X.call (ok_ref03_in x2.Room 0 65536) (X.on_f rfl rfl rfl h_23) rfl rfl (.cons (.shut (n := 9) rfl) (.cons (.shut (n := 9) rfl) (.cons (.shut (n := 9) rfl) .nil))) ?_
                refine X.opR (X.on_f rfl rfl rfl h_23) rfl rfl ?_
                refine X.opR rfl (X.pickor_f (y := !(ref03_in x2.Room 0 65536)) rfl h_23 rfl) rfl ?_
                refine X.opR rfl rfl rfl ?_
                iterate 2 refine X.opR (X.on_f rfl rfl rfl h_24) rfl rfl ?_
                refine X.opR rfl (X.pickor_f (y := !(ref03_placed x2.Lever x2.Height)) rfl h_24 rfl) rfl ?_
                refine GS.opsNil ?_
                exact X.norm _ hg rfl (W.sub_cons rfl (W.sub_cons rfl (W.sub_cons rfl (W.sub_cons rfl W.sub_nil))))
          refine X.cond rfl (fun h_25 => ?_) (fun h_25 => ?_)
          · replace hM := ite_t h_25 hM
            refine GS.seq ?_
            refine GS.region ?_
            refine X.opR rfl rfl rfl ?_
            refine GS.opsNil ?_
            have hE := Option.some.inj hM
            replace hE := hr_1 _ hE.symm
            subst hE
            exact GS.ret ⟨_, rfl, ⟨30, rfl⟩⟩
          · replace hM := ite_f h_25 hM
            refine GS.skip ?_
            refine GS.seq ?_
            refine GS.region ?_
            refine X.opR rfl rfl rfl ?_
            refine GS.opsNil ?_
            refine X.join (τ := Unit) (fun v => ref03_Check_j5 i1 = some b_1) (fun v => ⟨[(1, (V.ptr 0 0 0)), (4, (V.i i1))], [.rows 11 [(e_api_Ship s)]], 0, none, 147⟩) ?_ ?_
            · intro _ hM
              replace hM : ref03_Check_j5 i1 = some b_1 := hM
              unfold ref03_Check_j5 at hM
              refine GS.endB ?_
              refine GS.region ?_
              refine X.opR rfl rfl rfl ?_
              refine X.opR rfl (X.addE rfl rfl) rfl ?_
              refine X.opR rfl rfl rfl ?_
              refine GS.opsNil ?_
              have hE := Option.some.inj hM
              exact X.gc [some 0] (hc_4 (w64 (i1 + 1)) hE.symm) rfl rfl rfl (gk_cons rfl ⟨9, rfl⟩ (gk_cons rfl ⟨9, rfl⟩ gk_nil)) (gb_box rfl rfl ⟨9, rfl⟩ gb_nil)
            · intro hj_5
              refine GS.block ?_
              refine X.gc [some 0, some 1] (X.loop (σ := Int) (fun v => ⟨[(1, (V.ptr 0 0 0)), (4, (V.i i1)), (5, (V.ptr 1 0 0)), (6, (V.i v))], [.rows 11 [(e_api_Ship s)], .rows 4 [(e_api_Hold x2)]], 0, none, 147⟩) hM ?_ rfl) rfl rfl rfl (gk_cons rfl ⟨9, rfl⟩ (gk_cons rfl ⟨9, rfl⟩ (gk_cons rfl ⟨9, rfl⟩ (gk_cons rfl ⟨9, rfl⟩ gk_nil)))) (gb_box rfl rfl ⟨9, rfl⟩ (gb_box rfl rfl ⟨9, rfl⟩ gb_nil))
              intro k b_2 hM hc_6 hr_2
              rw [ref03_Check_b6] at hM
              iterate 2 refine GS.seq ?_
              refine GS.region ?_
              iterate 3 refine X.opR rfl rfl rfl ?_
              refine GS.opsNil ?_
              refine X.cond rfl (fun h_26 => ?_) (fun h_26 => ?_)
              · replace hM := ite_t h_26 hM
                refine GS.skip ?_
                refine GS.seq ?_
                refine GS.block ?_
                refine GS.seq ?_
                obtain ⟨x3, h_27, hM⟩ := bind_of hM
                refine X.drawc (by kernel_rfl) rfl ?_
                iterate 3 refine X.cop rfl rfl rfl rfl ?_
                refine X.cop rfl (X.indexF (f := e_api_Hold) h_27 (fun _ => rfl) rfl rfl rfl rfl) rfl rfl ?_
                refine X.cop rfl rfl rfl rfl ?_
                refine X.cop rfl (X.loadF h_27 rfl rfl rfl) rfl rfl ?_
                iterate 3 refine X.cop rfl rfl rfl rfl ?_
                refine X.cnil ?_
                refine X.norm [(1, (V.ptr 0 0 0)), (4, (V.i i1)), (5, (V.ptr 1 0 0)), (6, (V.i k)), (90, (V.b (decide (x3.ID = x2.ID))))] ?_ rfl (W.sub_cons rfl (W.sub_cons rfl (W.sub_cons rfl (W.sub_cons rfl (W.sub_cons rfl W.sub_nil)))))
                refine X.cond rfl (fun h_28 => ?_) (fun h_28 => ?_)
                · replace hM := ite_t h_28 hM
                  refine GS.seq ?_
                  refine GS.region ?_
                  refine X.opR rfl rfl rfl ?_
                  refine GS.opsNil ?_
                  have hE := Option.some.inj hM
                  replace hE := hr_2 _ hE.symm
                  replace hE := hr_1 _ hE.symm
                  subst hE
                  exact GS.ret ⟨_, rfl, ⟨30, rfl⟩⟩
                · replace hM := ite_f h_28 hM
                  refine GS.skip ?_
                  refine GS.endB ?_
                  refine GS.region ?_
                  refine X.opR rfl rfl rfl ?_
                  refine X.opR rfl (X.addE rfl rfl) rfl ?_
                  refine X.opR rfl rfl rfl ?_
                  refine GS.opsNil ?_
                  have hE := Option.some.inj hM
                  exact X.gc [some 0, some 1] (hc_6 (w64 (k + 1)) hE.symm) rfl rfl rfl (gk_cons rfl ⟨9, rfl⟩ (gk_cons rfl ⟨9, rfl⟩ (gk_cons rfl ⟨9, rfl⟩ (gk_cons rfl ⟨9, rfl⟩ gk_nil)))) (gb_box rfl rfl ⟨9, rfl⟩ (gb_box rfl rfl ⟨9, rfl⟩ gb_nil))
              · replace hM := ite_f h_26 hM
                refine GS.exit rfl ?_
                obtain ⟨y_2, hM, hy⟩ := map_of hM
                rw [hr_2 _ hy.symm] at hM
                exact X.gc [some 0] (hj_5 () hM) rfl rfl rfl (gk_cons rfl ⟨9, rfl⟩ (gk_cons rfl ⟨9, rfl⟩ gk_nil)) (gb_box rfl rfl ⟨9, rfl⟩ gb_nil)
        · replace hM := ite_f h_21 hM
          refine GS.exit rfl ?_
          obtain ⟨y_1, hM, hy⟩ := map_of hM
          rw [hr_1 _ hy.symm] at hM
          exact X.gc [some 0] (hj_1 () hM) rfl rfl rfl (gk_cons rfl ⟨9, rfl⟩ gk_nil) (gb_box rfl rfl ⟨9, rfl⟩ gb_nil)

theorem ok_ref03_span (s : api_Span) (lo : Int) (hi : Int) : Ct Try.prog 70 [(e_api_Span s), (V.i lo), (V.i hi)] (V.b (ref03_span s lo hi)) := by
  refine ct_of_gs CC_ok rfl ?_
  generalize hM : ref03_span s lo hi = r
  unfold ref03_span at hM
  refine GS.seq ?_
  refine GS.region ?_
  refine X.opW rfl rfl rfl rfl ?_
  refine X.opR rfl rfl rfl ?_
  refine GS.opsNil ?_
  refine GS.seq ?_
  refine GS.region ?_
  refine X.mid [(6, (V.b (((decide (lo ≤ s.Lo)) && (decide (s.Lo ≤ s.Hi))) && (decide (s.Hi ≤ hi)))))] ?_ ?_
  · intro hg
    refine X.split (decide (lo ≤ s.Lo)) (fun h_1 => ?_) (fun h_1 => ?_)
    · refine X.split (((decide (lo ≤ s.Lo)) && (decide (s.Lo ≤ s.Hi)))) (fun h_2 => ?_) (fun h_2 => ?_)
      · iterate 5 refine X.opR rfl rfl rfl ?_
        iterate 5 refine X.opR (X.on_t rfl rfl rfl h_1) rfl rfl ?_
        refine X.opR rfl (X.pickand_t (y := decide (s.Lo ≤ s.Hi)) rfl h_1 rfl) rfl ?_
        refine X.opR rfl rfl rfl ?_
        iterate 4 refine X.opR (X.on_t rfl rfl rfl h_2) rfl rfl ?_
        refine X.opR rfl (X.pickand_t (y := decide (s.Hi ≤ hi)) rfl h_2 rfl) rfl ?_
        refine X.opR rfl rfl rfl ?_
        refine GS.opsNil ?_
        exact X.norm _ hg rfl (W.sub_cons rfl W.sub_nil)
      · iterate 5 refine X.opR rfl rfl rfl ?_
        iterate 5 refine X.opR (X.on_t rfl rfl rfl h_1) rfl rfl ?_
        refine X.opR rfl (X.pickand_t (y := decide (s.Lo ≤ s.Hi)) rfl h_1 rfl) rfl ?_
        refine X.opR rfl rfl rfl ?_
        iterate 4 refine X.off (X.off_t rfl rfl rfl h_2) rfl ?_
        refine X.opR rfl (X.pickand_f (y := decide (s.Hi ≤ hi)) rfl h_2 rfl) rfl ?_
        refine X.opR rfl rfl rfl ?_
        refine GS.opsNil ?_
        exact X.norm _ hg rfl (W.sub_cons rfl W.sub_nil)
    · iterate 5 refine X.opR rfl rfl rfl ?_
      iterate 5 refine X.off (X.off_t rfl rfl rfl h_1) rfl ?_
      refine X.opR rfl (X.pickand_f (y := decide (s.Lo ≤ s.Hi)) rfl h_1 rfl) rfl ?_
      refine X.opR rfl rfl rfl ?_
      iterate 4 refine X.off (X.off_t rfl rfl rfl (X.and_ff h_1)) rfl ?_
      refine X.opR rfl (X.pickand_f (y := decide (s.Hi ≤ hi)) rfl (X.and_ff h_1) rfl) rfl ?_
      refine X.opR rfl rfl rfl ?_
      refine GS.opsNil ?_
      exact X.norm _ hg rfl (W.sub_cons rfl W.sub_nil)
  subst hM
  exact GS.ret ⟨_, rfl, ⟨30, rfl⟩⟩

theorem ok_ref03_sums {l : (List api_Span)} {r : api_Span} (hM : ref03_sums l = some r) : Ct Try.prog 71 [(V.sl (List.map e_api_Span l))] (e_api_Span r) := by
  refine ct_of_gs CC_ok rfl ?_
  unfold ref03_sums at hM
  refine GS.seq ?_
  refine GS.region ?_
  refine X.opW rfl rfl rfl rfl ?_
  refine GS.opsNil ?_
  refine GS.seq ?_
  refine GS.region ?_
  refine X.opW rfl rfl rfl rfl ?_
  refine GS.opsNil ?_
  iterate 2 refine GS.seq ?_
  refine GS.region ?_
  refine X.opR rfl rfl rfl ?_
  refine GS.opsNil ?_
  refine X.join (τ := Int × Int) (fun v => ref03_sums_j1 v.1 v.2 = some r) (fun v => ⟨[(2, (V.ptr 0 0 0)), (3, (V.ptr 1 0 0))], [.rows 2 [(V.agg [(V.i 0), (V.i 0)])], .rows 2 [(V.agg [(V.i v.1), (V.i v.2)])]], 0, none, 30⟩) ?_ ?_
  · rintro ⟨Lo, Hi⟩ hM
    replace hM : ref03_sums_j1 Lo Hi = some r := hM
    unfold ref03_sums_j1 at hM
    refine GS.seq ?_
    refine GS.region ?_
    refine X.opR rfl rfl rfl ?_
    refine X.op0W rfl rfl rfl ?_
    refine GS.opsNil ?_
    have hE := Option.some.inj hM
    subst hE
    exact GS.ret ⟨_, rfl, ⟨30, rfl⟩⟩
  · intro hj_1
    refine GS.block ?_
    refine X.gc [some 0, some 1] (X.loop (σ := (Int × Int × Int)) (fun v => ⟨[(0, (V.sl (List.map e_api_Span l))), (2, (V.ptr 0 0 0)), (3, (V.ptr 1 0 0)), (4, (V.i v.1))], [.rows 2 [(V.agg [(V.i 0), (V.i 0)])], .rows 2 [(V.agg [(V.i v.2.1), (V.i v.2.2)])]], 0, none, 30⟩) hM ?_ rfl) rfl rfl rfl (gk_cons rfl ⟨9, rfl⟩ (gk_cons rfl ⟨9, rfl⟩ (gk_cons rfl ⟨9, rfl⟩ (gk_cons rfl ⟨9, rfl⟩ gk_nil)))) (gb_box rfl rfl ⟨9, rfl⟩ (gb_box rfl rfl ⟨9, rfl⟩ gb_nil))
    rintro ⟨i, Lo1, Hi1⟩ b_1 hM hc_2 hr_1
    rw [ref03_sums_b2] at hM
    iterate 2 refine GS.seq ?_
    refine GS.region ?_
    iterate 2 refine X.opR rfl rfl rfl ?_
    refine X.opR rfl (X.lenF rfl rfl rfl) rfl ?_
    refine X.opR rfl rfl rfl ?_
    refine GS.opsNil ?_
    refine X.cond rfl (fun h_1 => ?_) (fun h_1 => ?_)
    · replace hM := ite_t h_1 hM
      refine GS.skip ?_
      refine GS.seq ?_
      refine GS.block ?_
      refine GS.seq ?_
      obtain ⟨x, h_2, hM⟩ := bind_of hM
      refine X.draw (by kernel_rfl) ?_
      iterate 4 refine X.dop rfl rfl rfl rfl (by kernel_rfl) rfl rfl ?_
      refine X.dop rfl (X.indexF (f := e_api_Span) h_2 (fun _ => rfl) rfl rfl rfl rfl) rfl rfl (by kernel_rfl) rfl rfl ?_
      refine X.dop rfl rfl rfl rfl (by kernel_rfl) rfl rfl ?_
      refine X.dop rfl (X.loadF h_2 rfl rfl rfl) rfl rfl (by kernel_rfl) rfl rfl ?_
      refine X.dop rfl (X.addE rfl rfl) rfl rfl (by kernel_rfl) rfl rfl ?_
      refine X.dop rfl rfl rfl rfl (by kernel_rfl) rfl rfl ?_
      refine X.dop0 rfl rfl rfl rfl (by kernel_rfl) rfl ?_
      refine X.dnil ?_
      refine X.norm [(0, (V.sl (List.map e_api_Span l))), (2, (V.ptr 0 0 0)), (3, (V.ptr 1 0 0)), (4, (V.i i))] ?_ rfl (W.sub_cons rfl (W.sub_cons rfl (W.sub_cons rfl (W.sub_cons rfl W.sub_nil))))
      obtain ⟨x1, h_3, hM⟩ := bind_of hM
      refine X.draw (by kernel_rfl) ?_
      iterate 4 refine X.dop rfl rfl rfl rfl (by kernel_rfl) rfl rfl ?_
      refine X.dop rfl (X.indexF (f := e_api_Span) h_3 (fun _ => rfl) rfl rfl rfl rfl) rfl rfl (by kernel_rfl) rfl rfl ?_
      refine X.dop rfl rfl rfl rfl (by kernel_rfl) rfl rfl ?_
      refine X.dop rfl (X.loadF h_3 rfl rfl rfl) rfl rfl (by kernel_rfl) rfl rfl ?_
      refine X.dop rfl (X.addE rfl rfl) rfl rfl (by kernel_rfl) rfl rfl ?_
      refine X.dop rfl rfl rfl rfl (by kernel_rfl) rfl rfl ?_
      refine X.dop0 rfl rfl rfl rfl (by kernel_rfl) rfl ?_
      refine X.dnil ?_
      refine X.norm [(0, (V.sl (List.map e_api_Span l))), (2, (V.ptr 0 0 0)), (3, (V.ptr 1 0 0)), (4, (V.i i))] ?_ rfl (W.sub_cons rfl (W.sub_cons rfl (W.sub_cons rfl (W.sub_cons rfl W.sub_nil))))
      refine GS.endB ?_
      refine GS.region ?_
      refine X.opR rfl rfl rfl ?_
      refine X.opR rfl (X.addE rfl rfl) rfl ?_
      refine X.opR rfl rfl rfl ?_
      refine GS.opsNil ?_
      have hE := Option.some.inj hM
      exact X.gc [some 0, some 1] (hc_2 (w64 (i + 1), w64 (Lo1 + x.Lo), w64 (Hi1 + x1.Hi)) hE.symm) rfl rfl rfl (gk_cons rfl ⟨9, rfl⟩ (gk_cons rfl ⟨9, rfl⟩ (gk_cons rfl ⟨9, rfl⟩ (gk_cons rfl ⟨9, rfl⟩ gk_nil)))) (gb_box rfl rfl ⟨9, rfl⟩ (gb_box rfl rfl ⟨9, rfl⟩ gb_nil))
    · replace hM := ite_f h_1 hM
      refine GS.exit rfl ?_
      obtain ⟨y_1, hM, hy⟩ := map_of hM
      rw [hr_1 _ hy.symm] at hM
      exact X.gc [some 0, some 1] (hj_1 (Lo1, Hi1) hM) rfl rfl rfl (gk_cons rfl ⟨9, rfl⟩ (gk_cons rfl ⟨9, rfl⟩ gk_nil)) (gb_box rfl rfl ⟨9, rfl⟩ (gb_box rfl rfl ⟨9, rfl⟩ gb_nil))

theorem ok_ref03_load {s : api_Ship} {l : api_Load} {r : Int} (hM : ref03_load s l = some r) : Ct Try.prog 72 [(e_api_Ship s), (e_api_Load l)] (V.i r) := by
  refine ct_of_gs CC_ok rfl ?_
  unfold ref03_load at hM
  refine GS.seq ?_
  refine GS.region ?_
  iterate 2 refine X.opW rfl rfl rfl rfl ?_
  refine X.opR rfl rfl rfl ?_
  refine GS.opsNil ?_
  iterate 2 refine GS.seq ?_
  refine GS.region ?_
  iterate 2 refine X.opR rfl rfl rfl ?_
  refine X.opR rfl (X.lenF rfl rfl rfl) rfl ?_
  iterate 2 refine X.opR rfl rfl rfl ?_
  refine X.opR rfl (X.lenF rfl rfl rfl) rfl ?_
  refine X.opR rfl rfl rfl ?_
  refine GS.opsNil ?_
  refine X.cond rfl (fun h_1 => ?_) (fun h_1 => ?_)
  · replace hM := ite_t h_1 hM
    refine GS.seq ?_
    refine GS.region ?_
    refine X.opR rfl rfl rfl ?_
    refine GS.opsNil ?_
    have hE := Option.some.inj hM
    subst hE
    exact GS.ret ⟨_, rfl, ⟨30, rfl⟩⟩
  · replace hM := ite_f h_1 hM
    refine GS.skip ?_
    iterate 2 refine GS.seq ?_
    refine GS.region ?_
    refine X.opR rfl rfl rfl ?_
    refine GS.opsNil ?_
    refine X.join (τ := Unit) (fun v => ref03_load_j1 l = some r) (fun v => ⟨[(3, (V.ptr 0 0 0))], [.rows 3 [(e_api_Load l)]], 0, none, 67⟩) ?_ ?_
    · intro _ hM
      replace hM : ref03_load_j1 l = some r := hM
      unfold ref03_load_j1 at hM
      refine GS.seq ?_
      refine GS.region ?_
      iterate 2 refine X.opR rfl rfl rfl ?_
      refine X.call (ok_ref03_span l.All 0 65536) rfl rfl rfl (.cons (.shut (n := 9) rfl) (.cons (.shut (n := 9) rfl) (.cons (.shut (n := 9) rfl) .nil))) ?_
      refine X.opR rfl rfl rfl ?_
      refine GS.opsNil ?_
      iterate 2 refine GS.seq ?_
      refine GS.region ?_
      iterate 2 refine X.opR rfl rfl rfl ?_
      refine GS.opsNil ?_
      refine X.cond rfl (fun h_2 => ?_) (fun h_2 => ?_)
      · replace hM := ite_t h_2 hM
        refine GS.seq ?_
        refine GS.region ?_
        refine X.opR rfl rfl rfl ?_
        refine GS.opsNil ?_
        have hE := Option.some.inj hM
        subst hE
        exact GS.ret ⟨_, rfl, ⟨30, rfl⟩⟩
      · replace hM := ite_f h_2 hM
        refine GS.skip ?_
        iterate 2 refine GS.seq ?_
        refine GS.region ?_
        iterate 6 refine X.opR rfl rfl rfl ?_
        refine X.opR rfl (X.subE rfl rfl) rfl ?_
        refine X.opR rfl rfl rfl ?_
        refine GS.opsNil ?_
        refine X.cond rfl (fun h_3 => ?_) (fun h_3 => ?_)
        · replace hM := ite_t h_3 hM
          refine GS.seq ?_
          refine GS.region ?_
          refine X.opR rfl rfl rfl ?_
          refine GS.opsNil ?_
          have hE := Option.some.inj hM
          subst hE
          exact GS.ret ⟨_, rfl, ⟨30, rfl⟩⟩
        · replace hM := ite_f h_3 hM
          refine GS.skip ?_
          refine GS.seq ?_
          obtain ⟨y, h_4, hM⟩ := bind_of hM
          refine GS.region ?_
          iterate 2 refine X.opR rfl rfl rfl ?_
          refine X.call (ok_ref03_sums h_4) rfl rfl rfl (.cons (.shut (n := 9) rfl) .nil) ?_
          refine X.opW rfl rfl rfl rfl ?_
          refine X.op0W rfl rfl rfl ?_
          refine GS.opsNil ?_
          iterate 2 refine GS.seq ?_
          refine GS.region ?_
          refine X.mid [(66, (V.b ((decide (l.All.Hi < y.Lo)) || (decide (y.Hi < l.All.Lo)))))] ?_ ?_
          · intro hg
            refine X.split (decide (l.All.Hi < y.Lo)) (fun h_5 => ?_) (fun h_5 => ?_)
            · iterate 7 refine X.opR rfl rfl rfl ?_
              iterate 6 refine X.off (X.off_f rfl rfl rfl h_5) rfl ?_
              refine X.opR rfl (X.pickor_t (y := decide (y.Hi < l.All.Lo)) rfl h_5 rfl) rfl ?_
              refine GS.opsNil ?_
              exact X.norm _ hg rfl (W.sub_cons rfl W.sub_nil)
            · iterate 7 refine X.opR rfl rfl rfl ?_
              iterate 6 refine X.opR (X.on_f rfl rfl rfl h_5) rfl rfl ?_
              refine X.opR rfl (X.pickor_f (y := decide (y.Hi < l.All.Lo)) rfl h_5 rfl) rfl ?_
              refine GS.opsNil ?_
              exact X.norm _ hg rfl (W.sub_cons rfl W.sub_nil)
          refine X.cond rfl (fun h_6 => ?_) (fun h_6 => ?_)
          · replace hM := ite_t h_6 hM
            refine GS.seq ?_
            refine GS.region ?_
            refine X.opR rfl rfl rfl ?_
            refine GS.opsNil ?_
            have hE := Option.some.inj hM
            subst hE
            exact GS.ret ⟨_, rfl, ⟨30, rfl⟩⟩
          · replace hM := ite_f h_6 hM
            refine GS.skip ?_
            refine GS.seq ?_
            refine GS.region ?_
            refine X.opR rfl rfl rfl ?_
            refine GS.opsNil ?_
            have hE := Option.some.inj hM
            subst hE
            exact GS.ret ⟨_, rfl, ⟨30, rfl⟩⟩
    · intro hj_1
      refine GS.block ?_
      refine X.gc [some 0, some 1] (X.loop (σ := Int) (fun v => ⟨[(2, (V.ptr 0 0 0)), (3, (V.ptr 1 0 0)), (5, (V.i v))], [.rows 11 [(e_api_Ship s)], .rows 3 [(e_api_Load l)]], 0, none, 67⟩) hM ?_ rfl) rfl rfl rfl (gk_cons rfl ⟨9, rfl⟩ (gk_cons rfl ⟨9, rfl⟩ (gk_cons rfl ⟨9, rfl⟩ gk_nil))) (gb_box rfl rfl ⟨9, rfl⟩ (gb_box rfl rfl ⟨9, rfl⟩ gb_nil))
      intro i b_1 hM hc_2 hr_1
      rw [ref03_load_b2] at hM
      iterate 2 refine GS.seq ?_
      refine GS.region ?_
      iterate 3 refine X.opR rfl rfl rfl ?_
      refine X.opR rfl (X.lenF rfl rfl rfl) rfl ?_
      refine X.opR rfl rfl rfl ?_
      refine GS.opsNil ?_
      refine X.cond rfl (fun h_7 => ?_) (fun h_7 => ?_)
      · replace hM := ite_t h_7 hM
        refine GS.skip ?_
        refine GS.seq ?_
        refine GS.block ?_
        refine GS.seq ?_
        obtain ⟨x, h_8, hM⟩ := bind_of hM
        obtain ⟨x1, h_9, hM⟩ := bind_of hM
        refine X.drawc (by kernel_rfl) rfl ?_
        iterate 3 refine X.cop rfl rfl rfl rfl ?_
        refine X.cop rfl (X.indexF (f := e_api_Span) h_8 (fun _ => rfl) rfl rfl rfl rfl) rfl rfl ?_
        refine X.cop rfl (X.loadF h_8 rfl rfl rfl) rfl rfl ?_
        iterate 3 refine X.cop rfl rfl rfl rfl ?_
        refine X.cop rfl (X.indexF (f := e_api_Hold) h_9 (fun _ => rfl) rfl rfl rfl rfl) rfl rfl ?_
        refine X.cop rfl rfl rfl rfl ?_
        refine X.cop rfl (X.loadF h_9 rfl rfl rfl) rfl rfl ?_
        refine X.ccall (ok_ref03_span x 0 x1.Room) rfl rfl rfl rfl (.cons (.shut (n := 9) rfl) (.cons (.shut (n := 9) rfl) (.cons (.shut (n := 9) rfl) .nil))) ?_
        refine X.cop rfl rfl rfl rfl ?_
        refine X.cnil ?_
        refine X.norm [(2, (V.ptr 0 0 0)), (3, (V.ptr 1 0 0)), (5, (V.i i)), (6, (V.b (ref03_span x 0 x1.Room)))] ?_ rfl (W.sub_cons rfl (W.sub_cons rfl (W.sub_cons rfl (W.sub_cons rfl W.sub_nil))))
        refine GS.seq ?_
        refine GS.region ?_
        iterate 2 refine X.opR rfl rfl rfl ?_
        refine GS.opsNil ?_
        refine X.cond rfl (fun h_10 => ?_) (fun h_10 => ?_)
        · replace hM := ite_t h_10 hM
          refine GS.seq ?_
          refine GS.region ?_
          refine X.opR rfl rfl rfl ?_
          refine GS.opsNil ?_
          have hE := Option.some.inj hM
          replace hE := hr_1 _ hE.symm
          subst hE
          exact GS.ret ⟨_, rfl, ⟨30, rfl⟩⟩
        · replace hM := ite_f h_10 hM
          refine GS.skip ?_
          refine GS.endB ?_
          refine GS.region ?_
          refine X.opR rfl rfl rfl ?_
          refine X.opR rfl (X.addE rfl rfl) rfl ?_
          refine X.opR rfl rfl rfl ?_
          refine GS.opsNil ?_
          have hE := Option.some.inj hM
          exact X.gc [some 0, some 1] (hc_2 (w64 (i + 1)) hE.symm) rfl rfl rfl (gk_cons rfl ⟨9, rfl⟩ (gk_cons rfl ⟨9, rfl⟩ (gk_cons rfl ⟨9, rfl⟩ gk_nil))) (gb_box rfl rfl ⟨9, rfl⟩ (gb_box rfl rfl ⟨9, rfl⟩ gb_nil))
      · replace hM := ite_f h_7 hM
        refine GS.exit rfl ?_
        obtain ⟨y_1, hM, hy⟩ := map_of hM
        rw [hr_1 _ hy.symm] at hM
        exact X.gc [some 1] (hj_1 () hM) rfl rfl rfl (gk_cons rfl ⟨9, rfl⟩ gk_nil) (gb_box rfl rfl ⟨9, rfl⟩ gb_nil)

theorem ok_ref03_CheckLoad {s : api_Ship} {l : api_Load} {r : Int} (hM : ref03_CheckLoad s l = some r) : Ct Try.prog 26 [(e_api_Ship s), (e_api_Load l)] (V.i r) := by
  refine ct_of_gs CC_ok rfl ?_
  unfold ref03_CheckLoad at hM
  refine GS.seq ?_
  refine GS.region ?_
  iterate 2 refine X.opW rfl rfl rfl rfl ?_
  refine X.opR rfl rfl rfl ?_
  refine GS.opsNil ?_
  refine GS.seq ?_
  obtain ⟨y, h_1, hM⟩ := bind_of hM
  refine GS.region ?_
  refine X.opR rfl rfl rfl ?_
  refine X.call (ok_ref03_Check h_1) rfl rfl rfl (.cons (.shut (n := 9) rfl) .nil) ?_
  refine X.opR rfl rfl rfl ?_
  refine GS.opsNil ?_
  iterate 2 refine GS.seq ?_
  refine GS.region ?_
  iterate 2 refine X.opR rfl rfl rfl ?_
  refine GS.opsNil ?_
  refine X.cond rfl (fun h_2 => ?_) (fun h_2 => ?_)
  · replace hM := ite_t h_2 hM
    refine GS.seq ?_
    refine GS.region ?_
    iterate 2 refine X.opR rfl rfl rfl ?_
    refine GS.opsNil ?_
    have hE := Option.some.inj hM
    subst hE
    exact GS.ret ⟨_, rfl, ⟨30, rfl⟩⟩
  · replace hM := ite_f h_2 hM
    refine GS.skip ?_
    refine GS.seq ?_
    obtain ⟨y1, h_3, hM⟩ := bind_of hM
    refine GS.region ?_
    iterate 2 refine X.opR rfl rfl rfl ?_
    refine X.call (ok_ref03_load h_3) rfl rfl rfl (.cons (.shut (n := 9) rfl) (.cons (.shut (n := 9) rfl) .nil)) ?_
    refine X.opR rfl rfl rfl ?_
    refine GS.opsNil ?_
    have hE := Option.some.inj hM
    subst hE
    exact GS.ret ⟨_, rfl, ⟨30, rfl⟩⟩

theorem ok_ref03_totals {l : api_Load} {r : api_Span} (hM : ref03_totals l = some r) : Ct Try.prog 74 [(e_api_Load l)] (e_api_Span r) := by
  refine ct_of_gs CC_ok rfl ?_
  unfold ref03_totals at hM
  refine GS.seq ?_
  refine GS.region ?_
  iterate 2 refine X.opW rfl rfl rfl rfl ?_
  refine GS.opsNil ?_
  refine GS.seq ?_
  obtain ⟨y, h_1, hM⟩ := bind_of hM
  refine GS.region ?_
  iterate 2 refine X.opR rfl rfl rfl ?_
  refine X.call (ok_ref03_sums h_1) rfl rfl rfl (.cons (.shut (n := 9) rfl) .nil) ?_
  refine X.opW rfl rfl rfl rfl ?_
  refine X.op0W rfl rfl rfl ?_
  refine GS.opsNil ?_
  refine GS.seq ?_
  refine GS.region ?_
  iterate 5 refine X.opR rfl rfl rfl ?_
  refine X.opR rfl (X.maxE rfl rfl) rfl ?_
  iterate 5 refine X.opR rfl rfl rfl ?_
  refine X.opR rfl (X.minE rfl rfl) rfl ?_
  refine X.opR rfl rfl rfl ?_
  refine X.op0W rfl rfl rfl ?_
  refine GS.opsNil ?_
  have hE := Option.some.inj hM
  subst hE
  exact GS.ret ⟨_, rfl, ⟨30, rfl⟩⟩

theorem ok_ref03_Narrow {s : api_Ship} {l : api_Load} {r : api_Load × Int} (hM : ref03_Narrow s l = some r) : Ct Try.prog 22 [(e_api_Ship s), (e_api_Load l)] (V.tup [(e_api_Load r.1), (V.i r.2)]) := by
  refine ct_of_gs CC_ok rfl ?_
  unfold ref03_Narrow at hM
  refine GS.seq ?_
  refine GS.region ?_
  iterate 3 refine X.opW rfl rfl rfl rfl ?_
  refine X.opR rfl rfl rfl ?_
  refine GS.opsNil ?_
  refine GS.seq ?_
  obtain ⟨y, h_1, hM⟩ := bind_of hM
  refine GS.region ?_
  iterate 2 refine X.opR rfl rfl rfl ?_
  refine X.call (ok_ref03_CheckLoad h_1) rfl rfl rfl (.cons (.shut (n := 9) rfl) (.cons (.shut (n := 9) rfl) .nil)) ?_
  refine X.opR rfl rfl rfl ?_
  refine GS.opsNil ?_
  iterate 2 refine GS.seq ?_
  refine GS.region ?_
  iterate 2 refine X.opR rfl rfl rfl ?_
  refine GS.opsNil ?_
  refine X.cond rfl (fun h_2 => ?_) (fun h_2 => ?_)
  · replace hM := ite_t h_2 hM
    refine GS.seq ?_
    refine GS.region ?_
    iterate 2 refine X.opR rfl rfl rfl ?_
    refine X.op0W rfl rfl rfl ?_
    refine X.opR rfl rfl rfl ?_
    refine GS.opsNil ?_
    have hE := Option.some.inj hM
    subst hE
    exact GS.ret ⟨_, rfl, ⟨30, rfl⟩⟩
  · replace hM := ite_f h_2 hM
    refine GS.skip ?_
    refine GS.seq ?_
    obtain ⟨y1, h_3, hM⟩ := bind_of hM
    refine GS.region ?_
    iterate 2 refine X.opR rfl rfl rfl ?_
    refine X.call (ok_ref03_sums h_3) rfl rfl rfl (.cons (.shut (n := 9) rfl) .nil) ?_
    refine X.opW (H' := [.rows 11 [(e_api_Ship s)], .rows 3 [(e_api_Load l)], .rows 3 [(V.agg [V.nil, (V.i 0), (V.i 0)])], .rows 2 [(V.agg [(V.i 0), (V.i 0)])]]) rfl rfl rfl rfl ?_
    refine X.op0W (H' := [.rows 11 [(e_api_Ship s)], .rows 3 [(e_api_Load l)], .rows 3 [(V.agg [V.nil, (V.i 0), (V.i 0)])], .rows 2 [(e_api_Span y1)]]) rfl rfl rfl ?_
    refine GS.opsNil ?_
    refine GS.seq ?_
    obtain ⟨y2, h_4, hM⟩ := bind_of hM
    refine GS.region ?_
    refine X.opR rfl rfl rfl ?_
    refine X.call (ok_ref03_totals h_4) rfl rfl rfl (.cons (.shut (n := 9) rfl) .nil) ?_
    refine X.opR rfl rfl rfl ?_
    refine X.opW (H' := [.rows 11 [(e_api_Ship s)], .rows 3 [(e_api_Load l)], .rows 3 [(V.agg [V.nil, (V.i 0), (V.i 0)])], .rows 2 [(e_api_Span y1)], .rows 3 [(V.agg [V.nil, (V.i 0), (V.i 0)])]]) rfl rfl rfl rfl ?_
    refine X.op0W (H' := [.rows 11 [(e_api_Ship s)], .rows 3 [(e_api_Load l)], .rows 3 [(V.agg [V.nil, (V.i 0), (V.i 0)])], .rows 2 [(e_api_Span y1)], .rows 3 [(V.agg [V.nil, (V.i y2.Lo), (V.i y2.Hi)])]]) rfl rfl rfl ?_
    refine GS.opsNil ?_
    iterate 2 refine GS.seq ?_
    refine GS.region ?_
    refine X.opR rfl rfl rfl ?_
    refine GS.opsNil ?_
    refine X.join (τ := (List api_Span)) (fun v => ref03_Narrow_j1 y2 v = some r) (fun v => ⟨[(4, (V.ptr 0 0 0)), (8, (V.ptr 1 0 0))], [.rows 3 [(V.agg [V.nil, (V.i 0), (V.i 0)])], .rows 3 [(V.agg [(ovl 2 v), (V.i y2.Lo), (V.i y2.Hi)])], obl 2 e_api_Span v], 0, none, 71⟩) ?_ ?_
    · intro l1 hM
      replace hM : ref03_Narrow_j1 y2 l1 = some r := hM
      unfold ref03_Narrow_j1 at hM
      refine GS.seq ?_
      refine GS.region ?_
      refine X.opR rfl rfl rfl ?_
      refine X.op0W rfl (v := undefV) (wr := [(0, .rows 3 [(V.agg [(ovl 2 l1), (V.i y2.Lo), (V.i y2.Hi)])])]) (by rcases X.ovl_or (z := true) 2 l1 with h0 | ⟨n0, h0⟩ <;> simp only [h0] <;> rfl) rfl ?_
      refine X.opR rfl rfl rfl ?_
      refine GS.opsNil ?_
      have hE := Option.some.inj hM
      subst hE
      exact GS.ret ⟨_, rfl, FR.tup (.cons (FR.agg (.cons (FR.ovl (f := e_api_Span) (l := l1) 9 rfl rfl (fun _ => rfl)) (.cons ⟨30, rfl⟩ (.cons ⟨30, rfl⟩ .nil)))) (.cons ⟨30, rfl⟩ .nil))⟩
    · intro hj_1
      refine GS.block ?_
      refine X.gc [some 1, some 2, some 3, some 4, none] (X.loop (σ := (Int × (List api_Span))) (fun v => ⟨[(3, (V.ptr 0 0 0)), (4, (V.ptr 1 0 0)), (7, (V.ptr 2 0 0)), (8, (V.ptr 3 0 0)), (9, (V.i v.1))], [.rows 3 [(e_api_Load l)], .rows 3 [(V.agg [V.nil, (V.i 0), (V.i 0)])], .rows 2 [(e_api_Span y1)], .rows 3 [(V.agg [(ovl 4 v.2), (V.i y2.Lo), (V.i y2.Hi)])], obl 2 e_api_Span v.2], 0, none, 71⟩) hM ?_ rfl) rfl rfl rfl (gk_cons rfl ⟨9, rfl⟩ (gk_cons rfl ⟨9, rfl⟩ (gk_cons rfl ⟨9, rfl⟩ (gk_cons rfl ⟨9, rfl⟩ (gk_cons rfl ⟨9, rfl⟩ gk_nil))))) (gb_box rfl rfl ⟨9, rfl⟩ (gb_box rfl rfl ⟨9, rfl⟩ (gb_box rfl rfl ⟨9, rfl⟩ (gb_box rfl rfl ⟨9, rfl⟩ (gb_pad' rfl gb_nil)))))
      rintro ⟨i, l3⟩ b_1 hM hc_2 hr_1
      rw [ref03_Narrow_b2] at hM
      iterate 2 refine GS.seq ?_
      refine GS.region ?_
      iterate 3 refine X.opR rfl rfl rfl ?_
      refine X.opR rfl (X.lenF rfl rfl rfl) rfl ?_
      refine X.opR rfl rfl rfl ?_
      refine GS.opsNil ?_
      refine X.cond rfl (fun h_5 => ?_) (fun h_5 => ?_)
      · replace hM := ite_t h_5 hM
        refine GS.skip ?_
        refine GS.seq ?_
        refine GS.block ?_
        refine GS.seq ?_
        obtain ⟨x, h_6, hM⟩ := bind_of hM
        refine GS.region ?_
        iterate 3 refine X.opR rfl rfl rfl ?_
        refine X.opR rfl (X.indexF (f := e_api_Span) h_6 (fun _ => rfl) rfl rfl rfl rfl) rfl ?_
        refine X.opR rfl (X.loadF h_6 rfl rfl rfl) rfl ?_
        refine X.opW (H' := [.rows 3 [(e_api_Load l)], .rows 3 [(V.agg [V.nil, (V.i 0), (V.i 0)])], .rows 2 [(e_api_Span y1)], .rows 3 [(V.agg [(ovl 4 l3), (V.i y2.Lo), (V.i y2.Hi)])], obl 2 e_api_Span l3, .rows 2 [(V.agg [(V.i 0), (V.i 0)])]]) rfl rfl rfl rfl ?_
        refine X.op0W (H' := [.rows 3 [(e_api_Load l)], .rows 3 [(V.agg [V.nil, (V.i 0), (V.i 0)])], .rows 2 [(e_api_Span y1)], .rows 3 [(V.agg [(ovl 4 l3), (V.i y2.Lo), (V.i y2.Hi)])], obl 2 e_api_Span l3, .rows 2 [(e_api_Span x)]]) rfl rfl rfl ?_
        refine GS.opsNil ?_
        refine GS.seq ?_
        refine GS.region ?_
        iterate 9 refine X.opR rfl rfl rfl ?_
        iterate 2 refine X.opR rfl (X.subE rfl rfl) rfl ?_
        refine X.opR rfl (X.maxE rfl rfl) rfl ?_
        refine X.opR rfl rfl rfl ?_
        refine GS.opsNil ?_
        refine GS.seq ?_
        refine GS.region ?_
        iterate 9 refine X.opR rfl rfl rfl ?_
        iterate 2 refine X.opR rfl (X.subE rfl rfl) rfl ?_
        refine X.opR rfl (X.minE rfl rfl) rfl ?_
        refine X.opR rfl rfl rfl ?_
        refine GS.opsNil ?_
        obtain ⟨l2, h_7, hM⟩ := bind_of hM
        refine GS.region ?_
        iterate 5 refine X.opR rfl rfl rfl ?_
        refine X.opW (H' := [.rows 3 [(e_api_Load l)], .rows 3 [(V.agg [V.nil, (V.i 0), (V.i 0)])], .rows 2 [(e_api_Span y1)], .rows 3 [(V.agg [(ovl 4 l3), (V.i y2.Lo), (V.i y2.Hi)])], obl 2 e_api_Span l3, .rows 2 [(e_api_Span x)], .rows 2 (List.map e_api_Span ([(⟨max x.Lo (w64 (y2.Lo - (w64 (y1.Hi - x.Hi)))), min x.Hi (w64 (y2.Hi - (w64 (y1.Lo - x.Lo))))⟩ : api_Span)]))]) rfl rfl rfl rfl ?_
        refine X.appN (f := e_api_Span) h_7 (fun _ => rfl) (by rfl) (by rfl) (by rfl) (by rfl) (by rfl) (by rfl) (by rfl) (by rfl) (by rfl) (by rfl) (by rfl) (by exact rfl) (by rfl) (by rfl) ?_
        refine X.opR rfl rfl rfl ?_
        refine X.op0W (H' := [.rows 3 [(e_api_Load l)], .rows 3 [(V.agg [V.nil, (V.i 0), (V.i 0)])], .rows 2 [(e_api_Span y1)], .rows 3 [(V.agg [(V.osl 7 0 (List.length l2)), (V.i y2.Lo), (V.i y2.Hi)])], .dead, .rows 2 [(e_api_Span x)], .rows 2 (List.map e_api_Span ([(⟨max x.Lo (w64 (y2.Lo - (w64 (y1.Hi - x.Hi)))), min x.Hi (w64 (y2.Hi - (w64 (y1.Lo - x.Lo))))⟩ : api_Span)])), .rows 2 (List.map e_api_Span l2)]) rfl rfl rfl ?_
        refine GS.opsNil ?_
        refine GS.endB ?_
        refine GS.region ?_
        refine X.opR rfl rfl rfl ?_
        refine X.opR rfl (X.addE rfl rfl) rfl ?_
        refine X.opR rfl rfl rfl ?_
        refine GS.opsNil ?_
        have hE := Option.some.inj hM
        exact X.gc [some 0, some 1, some 2, some 3, some 7] (hc_2 (w64 (i + 1), l2) hE.symm) rfl rfl rfl (gk_cons rfl ⟨9, rfl⟩ (gk_cons rfl ⟨9, rfl⟩ (gk_cons rfl ⟨9, rfl⟩ (gk_cons rfl ⟨9, rfl⟩ (gk_cons rfl ⟨9, rfl⟩ gk_nil))))) (gb_box rfl rfl ⟨9, rfl⟩ (gb_box rfl rfl ⟨9, rfl⟩ (gb_box rfl rfl ⟨9, rfl⟩ (gb_box rfl rfl (rn_agg (.cons (rv_ne (app_ne h_7) rfl) (.cons ⟨9, rfl⟩ (.cons ⟨9, rfl⟩ .nil)))) (gb_obl' 9 (app_ne h_7) rfl rfl (fun _ => rfl) gb_nil)))))
      · replace hM := ite_f h_5 hM
        refine GS.exit rfl ?_
        obtain ⟨y_1, hM, hy⟩ := map_of hM
        rw [hr_1 _ hy.symm] at hM
        exact X.gc [some 1, some 3, some 4] (hj_1 l3 hM) rfl rfl rfl (gk_cons rfl ⟨9, rfl⟩ (gk_cons rfl ⟨9, rfl⟩ gk_nil)) (gb_box rfl rfl ⟨9, rfl⟩ (gb_box rfl rfl (rn_agg (.cons (rn_ovl rfl) (.cons ⟨9, rfl⟩ (.cons ⟨9, rfl⟩ .nil)))) (gb_obl 9 rfl rfl (fun _ => rfl) gb_nil)))

theorem ok_hull_fits {l : api_Load} {x : (List Int)} {r : Bool} (hM : hull_fits l x = some r) : Ct Try.prog 89 [(e_api_Load l), (V.sl (List.map V.i x))] (V.b r) := by
  refine ct_of_gs CC_ok rfl ?_
  unfold hull_fits at hM
  refine GS.seq ?_
  refine GS.region ?_
  refine X.opW rfl rfl rfl rfl ?_
  refine X.opR rfl rfl rfl ?_
  refine GS.opsNil ?_
  iterate 2 refine GS.seq ?_
  refine GS.region ?_
  refine X.opR rfl rfl rfl ?_
  refine X.opR rfl (X.lenF rfl rfl rfl) rfl ?_
  iterate 2 refine X.opR rfl rfl rfl ?_
  refine X.opR rfl (X.lenF rfl rfl rfl) rfl ?_
  refine X.opR rfl rfl rfl ?_
  refine GS.opsNil ?_
  refine X.cond rfl (fun h_1 => ?_) (fun h_1 => ?_)
  · replace hM := ite_t h_1 hM
    refine GS.seq ?_
    refine GS.region ?_
    refine X.opR rfl rfl rfl ?_
    refine GS.opsNil ?_
    have hE := Option.some.inj hM
    subst hE
    exact GS.ret ⟨_, rfl, ⟨30, rfl⟩⟩
  · replace hM := ite_f h_1 hM
    refine GS.skip ?_
    iterate 2 refine GS.seq ?_
    refine GS.region ?_
    refine X.opR rfl rfl rfl ?_
    refine X.opR rfl (X.lenF rfl rfl rfl) rfl ?_
    refine X.opR rfl rfl rfl ?_
    refine GS.opsNil ?_
    refine X.join (τ := Unit) (fun v => hull_fits_j1 l x = some r) (fun v => ⟨[(1, (V.sl (List.map V.i x))), (2, (V.ptr 0 0 0))], [.rows 3 [(e_api_Load l)]], 0, none, 45⟩) ?_ ?_
    · intro _ hM
      replace hM : hull_fits_j1 l x = some r := hM
      unfold hull_fits_j1 at hM
      refine GS.seq ?_
      obtain ⟨y, h_2, hM⟩ := bind_of hM
      refine X.drawc (by kernel_rfl) rfl ?_
      refine X.cop rfl rfl rfl rfl ?_
      refine X.ccall (ok_hull_sum h_2) rfl rfl rfl rfl (.cons (.shut (n := 9) rfl) .nil) ?_
      iterate 6 refine X.cop rfl rfl rfl rfl ?_
      refine X.ccall (ok_hull_within y l.All.Lo l.All.Hi) rfl rfl rfl rfl (.cons (.shut (n := 9) rfl) (.cons (.shut (n := 9) rfl) (.cons (.shut (n := 9) rfl) .nil))) ?_
      refine X.cop rfl rfl rfl rfl ?_
      refine X.cnil ?_
      refine X.norm [(4, (V.b (hull_within y l.All.Lo l.All.Hi)))] ?_ rfl (W.sub_cons rfl W.sub_nil)
      have hE := Option.some.inj hM
      subst hE
      exact GS.ret ⟨_, rfl, ⟨30, rfl⟩⟩
    · intro hj_1
      refine GS.block ?_
      refine X.gc [some 0] (X.loop (σ := Int) (fun v => ⟨[(1, (V.sl (List.map V.i x))), (2, (V.ptr 0 0 0)), (13, (V.sl (List.map V.i x))), (14, (V.i (x.length : Int))), (15, (V.i v))], [.rows 3 [(e_api_Load l)]], 0, none, 45⟩) hM ?_ rfl) rfl rfl rfl (gk_cons rfl ⟨9, rfl⟩ (gk_cons rfl ⟨9, rfl⟩ (gk_cons rfl ⟨9, rfl⟩ (gk_cons rfl ⟨9, rfl⟩ (gk_cons rfl ⟨9, rfl⟩ gk_nil))))) (gb_box rfl rfl ⟨9, rfl⟩ gb_nil)
      intro x4 b_1 hM hc_2 hr_1
      rw [hull_fits_b2] at hM
      refine GS.seq ?_
      refine GS.region ?_
      refine X.opR rfl rfl rfl ?_
      refine GS.opsNil ?_
      refine GS.seq ?_
      refine X.cond rfl (fun h_3 => ?_) (fun h_3 => ?_)
      · replace hM := ite_t h_3 hM
        refine GS.skip ?_
        refine GS.seq ?_
        refine GS.block ?_
        refine GS.seq ?_
        obtain ⟨x1, h_4, hM⟩ := bind_of hM
        refine GS.region ?_
        refine X.opR rfl rfl rfl ?_
        refine X.opR rfl (X.indexF (f := V.i) h_4 (fun _ => rfl) rfl rfl rfl rfl) rfl ?_
        refine X.opR rfl (X.loadF h_4 rfl rfl rfl) rfl ?_
        iterate 2 refine X.opR rfl rfl rfl ?_
        refine GS.opsNil ?_
        refine GS.seq ?_
        obtain ⟨x2, h_5, hM⟩ := bind_of hM
        obtain ⟨x3, h_6, hM⟩ := bind_of hM
        refine X.drawc (by kernel_rfl) rfl ?_
        iterate 4 refine X.cop rfl rfl rfl rfl ?_
        refine X.cop rfl (X.indexF (f := e_api_Span) h_5 (fun _ => rfl) rfl rfl rfl rfl) rfl rfl ?_
        refine X.cop rfl rfl rfl rfl ?_
        refine X.cop rfl (X.loadF h_5 rfl rfl rfl) rfl rfl ?_
        iterate 3 refine X.cop rfl rfl rfl rfl ?_
        refine X.cop rfl (X.indexF (f := e_api_Span) h_6 (fun _ => rfl) rfl rfl rfl rfl) rfl rfl ?_
        refine X.cop rfl rfl rfl rfl ?_
        refine X.cop rfl (X.loadF h_6 rfl rfl rfl) rfl rfl ?_
        refine X.ccall (ok_hull_within x1 x2.Lo x3.Hi) rfl rfl rfl rfl (.cons (.shut (n := 9) rfl) (.cons (.shut (n := 9) rfl) (.cons (.shut (n := 9) rfl) .nil))) ?_
        refine X.cop rfl rfl rfl rfl ?_
        refine X.cnil ?_
        refine X.norm [(1, (V.sl (List.map V.i x))), (2, (V.ptr 0 0 0)), (13, (V.sl (List.map V.i x))), (14, (V.i (x.length : Int))), (15, (V.i x4)), (34, (V.b (!(hull_within x1 x2.Lo x3.Hi))))] ?_ rfl (W.sub_cons rfl (W.sub_cons rfl (W.sub_cons rfl (W.sub_cons rfl (W.sub_cons rfl (W.sub_cons rfl W.sub_nil))))))
        refine X.cond rfl (fun h_7 => ?_) (fun h_7 => ?_)
        · replace hM := ite_t h_7 hM
          refine GS.seq ?_
          refine GS.region ?_
          refine X.opR rfl rfl rfl ?_
          refine GS.opsNil ?_
          have hE := Option.some.inj hM
          replace hE := hr_1 _ hE.symm
          subst hE
          exact GS.ret ⟨_, rfl, ⟨30, rfl⟩⟩
        · replace hM := ite_f h_7 hM
          refine GS.skip ?_
          refine GS.endB ?_
          refine GS.region ?_
          refine X.opR rfl (X.addE rfl rfl) rfl ?_
          refine X.opR rfl rfl rfl ?_
          refine GS.opsNil ?_
          have hE := Option.some.inj hM
          exact X.gc [some 0] (hc_2 (w64 (x4 + 1)) hE.symm) rfl rfl rfl (gk_cons rfl ⟨9, rfl⟩ (gk_cons rfl ⟨9, rfl⟩ (gk_cons rfl ⟨9, rfl⟩ (gk_cons rfl ⟨9, rfl⟩ (gk_cons rfl ⟨9, rfl⟩ gk_nil))))) (gb_box rfl rfl ⟨9, rfl⟩ gb_nil)
      · replace hM := ite_f h_3 hM
        refine GS.exit rfl ?_
        obtain ⟨y_1, hM, hy⟩ := map_of hM
        rw [hr_1 _ hy.symm] at hM
        exact X.gc [some 0] (hj_1 () hM) rfl rfl rfl (gk_cons rfl ⟨9, rfl⟩ (gk_cons rfl ⟨9, rfl⟩ gk_nil)) (gb_box rfl rfl ⟨9, rfl⟩ gb_nil)

theorem ok_hull_Fits {s : api_Ship} {l : api_Load} {x : (List Int)} {r : Bool} (hM : hull_Fits s l x = some r) : Ct Try.prog 27 [(e_api_Ship s), (e_api_Load l), (V.sl (List.map V.i x))] (V.b r) := by
  refine ct_of_gs CC_ok rfl ?_
  unfold hull_Fits at hM
  refine GS.seq ?_
  refine GS.region ?_
  iterate 2 refine X.opW rfl rfl rfl rfl ?_
  refine X.opR rfl rfl rfl ?_
  refine GS.opsNil ?_
  refine GS.seq ?_
  obtain ⟨y, h_1, hM⟩ := bind_of hM
  obtain ⟨y1, h_2, hM⟩ := gb_of hM
  refine GS.region ?_
  refine X.mid [(6, (V.b ((decide (y = 0)) && y1)))] ?_ ?_
  · intro hg
    refine X.split (decide (y = 0)) (fun h_3 => ?_) (fun h_3 => ?_)
    · iterate 2 refine X.opR rfl rfl rfl ?_
      refine X.call (ok_hull_CheckLoad h_1) rfl rfl rfl (.cons (.shut (n := 9) rfl) (.cons (.shut (n := 9) rfl) .nil)) ?_
      iterate 2 refine X.opR rfl rfl rfl ?_
      iterate 2 refine X.opR (X.on_t rfl rfl rfl h_3) rfl rfl ?_
      refine X.call (ok_hull_fits (h_2 h_3)) (X.on_t rfl rfl rfl h_3) rfl rfl (.cons (.shut (n := 9) rfl) (.cons (.shut (n := 9) rfl) .nil)) ?_
      refine X.opR rfl (X.pickand_t (y := y1) rfl h_3 rfl) rfl ?_
      refine X.opR rfl rfl rfl ?_
      refine GS.opsNil ?_
      exact X.norm _ hg rfl (W.sub_cons rfl W.sub_nil)
    · iterate 2 refine X.opR rfl rfl rfl ?_
      refine X.call (ok_hull_CheckLoad h_1) rfl rfl rfl (.cons (.shut (n := 9) rfl) (.cons (.shut (n := 9) rfl) .nil)) ?_
      iterate 2 refine X.opR rfl rfl rfl ?_
      iterate 3 refine X.off (X.off_t rfl rfl rfl h_3) rfl ?_
      refine X.opR rfl (X.pickand_f (y := y1) rfl h_3 rfl) rfl ?_
      refine X.opR rfl rfl rfl ?_
      refine GS.opsNil ?_
      exact X.norm _ hg rfl (W.sub_cons rfl W.sub_nil)
  have hE := Option.some.inj hM
  subst hE
  exact GS.ret ⟨_, rfl, ⟨30, rfl⟩⟩

theorem ok_ref03_total {x : (List Int)} {r : Int} (hM : ref03_total x = some r) : Ct Try.prog 135 [(V.sl (List.map V.i x))] (V.i r) := by
  refine ct_of_gs CC_ok rfl ?_
  unfold ref03_total at hM
  refine GS.seq ?_
  refine GS.region ?_
  refine X.opR rfl rfl rfl ?_
  refine GS.opsNil ?_
  refine GS.seq ?_
  refine GS.region ?_
  refine X.opR rfl rfl rfl ?_
  refine GS.opsNil ?_
  iterate 2 refine GS.seq ?_
  refine GS.region ?_
  refine X.opR rfl rfl rfl ?_
  refine GS.opsNil ?_
  refine X.join (τ := Int) (fun v => ref03_total_j1 v = some r) (fun v => ⟨[(3, (V.i v))], [], 0, none, 18⟩) ?_ ?_
  · intro n hM
    replace hM : ref03_total_j1 n = some r := hM
    unfold ref03_total_j1 at hM
    refine GS.seq ?_
    refine GS.region ?_
    iterate 2 refine X.opR rfl rfl rfl ?_
    refine GS.opsNil ?_
    have hE := Option.some.inj hM
    subst hE
    exact GS.ret ⟨_, rfl, ⟨30, rfl⟩⟩
  · intro hj_1
    refine GS.block ?_
    refine X.gc [] (X.loop (σ := (Int × Int)) (fun v => ⟨[(0, (V.sl (List.map V.i x))), (3, (V.i v.1)), (4, (V.i v.2))], [], 0, none, 18⟩) hM ?_ rfl) rfl rfl rfl (gk_cons rfl ⟨9, rfl⟩ (gk_cons rfl ⟨9, rfl⟩ (gk_cons rfl ⟨9, rfl⟩ gk_nil))) (gb_nil)
    rintro ⟨n1, i⟩ b_1 hM hc_2 hr_1
    rw [ref03_total_b2] at hM
    iterate 2 refine GS.seq ?_
    refine GS.region ?_
    iterate 2 refine X.opR rfl rfl rfl ?_
    refine X.opR rfl (X.lenF rfl rfl rfl) rfl ?_
    refine X.opR rfl rfl rfl ?_
    refine GS.opsNil ?_
    refine X.cond rfl (fun h_1 => ?_) (fun h_1 => ?_)
    · replace hM := ite_t h_1 hM
      refine GS.skip ?_
      refine GS.seq ?_
      refine GS.block ?_
      obtain ⟨x1, h_2, hM⟩ := bind_of hM
      refine GS.region ?_
      iterate 3 refine X.opR rfl rfl rfl ?_
      refine X.opR rfl (X.indexF (f := V.i) h_2 (fun _ => rfl) rfl rfl rfl rfl) rfl ?_
      refine X.opR rfl (X.loadF h_2 rfl rfl rfl) rfl ?_
      refine X.opR rfl (X.addE rfl rfl) rfl ?_
      refine X.opR rfl rfl rfl ?_
      refine GS.opsNil ?_
      refine GS.endB ?_
      refine GS.region ?_
      refine X.opR rfl rfl rfl ?_
      refine X.opR rfl (X.addE rfl rfl) rfl ?_
      refine X.opR rfl rfl rfl ?_
      refine GS.opsNil ?_
      have hE := Option.some.inj hM
      exact X.gc [] (hc_2 (w64 (n1 + x1), w64 (i + 1)) hE.symm) rfl rfl rfl (gk_cons rfl ⟨9, rfl⟩ (gk_cons rfl ⟨9, rfl⟩ (gk_cons rfl ⟨9, rfl⟩ gk_nil))) (gb_nil)
    · replace hM := ite_f h_1 hM
      refine GS.exit rfl ?_
      obtain ⟨y_1, hM, hy⟩ := map_of hM
      rw [hr_1 _ hy.symm] at hM
      exact X.gc [] (hj_1 n1 hM) rfl rfl rfl (gk_cons rfl ⟨9, rfl⟩ gk_nil) (gb_nil)

theorem ok_ref03_fits {l : api_Load} {x : (List Int)} {r : Bool} (hM : ref03_fits l x = some r) : Ct Try.prog 90 [(e_api_Load l), (V.sl (List.map V.i x))] (V.b r) := by
  refine ct_of_gs CC_ok rfl ?_
  unfold ref03_fits at hM
  refine GS.seq ?_
  refine GS.region ?_
  refine X.opW rfl rfl rfl rfl ?_
  refine X.opR rfl rfl rfl ?_
  refine GS.opsNil ?_
  iterate 2 refine GS.seq ?_
  refine GS.region ?_
  refine X.opR rfl rfl rfl ?_
  refine X.opR rfl (X.lenF rfl rfl rfl) rfl ?_
  iterate 2 refine X.opR rfl rfl rfl ?_
  refine X.opR rfl (X.lenF rfl rfl rfl) rfl ?_
  refine X.opR rfl rfl rfl ?_
  refine GS.opsNil ?_
  refine X.cond rfl (fun h_1 => ?_) (fun h_1 => ?_)
  · replace hM := ite_t h_1 hM
    refine GS.seq ?_
    refine GS.region ?_
    refine X.opR rfl rfl rfl ?_
    refine GS.opsNil ?_
    have hE := Option.some.inj hM
    subst hE
    exact GS.ret ⟨_, rfl, ⟨30, rfl⟩⟩
  · replace hM := ite_f h_1 hM
    refine GS.skip ?_
    iterate 2 refine GS.seq ?_
    refine GS.region ?_
    refine X.opR rfl rfl rfl ?_
    refine GS.opsNil ?_
    refine X.join (τ := Unit) (fun v => ref03_fits_j1 l x = some r) (fun v => ⟨[(1, (V.sl (List.map V.i x))), (2, (V.ptr 0 0 0))], [.rows 3 [(e_api_Load l)]], 0, none, 45⟩) ?_ ?_
    · intro _ hM
      replace hM : ref03_fits_j1 l x = some r := hM
      unfold ref03_fits_j1 at hM
      refine GS.seq ?_
      obtain ⟨y, h_2, hM⟩ := bind_of hM
      refine X.drawc (by kernel_rfl) rfl ?_
      refine X.cop rfl rfl rfl rfl ?_
      refine X.ccall (ok_ref03_total h_2) rfl rfl rfl rfl (.cons (.shut (n := 9) rfl) .nil) ?_
      iterate 6 refine X.cop rfl rfl rfl rfl ?_
      refine X.ccall (ok_ref03_in y l.All.Lo l.All.Hi) rfl rfl rfl rfl (.cons (.shut (n := 9) rfl) (.cons (.shut (n := 9) rfl) (.cons (.shut (n := 9) rfl) .nil))) ?_
      refine X.cop rfl rfl rfl rfl ?_
      refine X.cnil ?_
      refine X.norm [(4, (V.b (ref03_in y l.All.Lo l.All.Hi)))] ?_ rfl (W.sub_cons rfl W.sub_nil)
      have hE := Option.some.inj hM
      subst hE
      exact GS.ret ⟨_, rfl, ⟨30, rfl⟩⟩
    · intro hj_1
      refine GS.block ?_
      refine X.gc [some 0] (X.loop (σ := Int) (fun v => ⟨[(1, (V.sl (List.map V.i x))), (2, (V.ptr 0 0 0)), (5, (V.i v))], [.rows 3 [(e_api_Load l)]], 0, none, 45⟩) hM ?_ rfl) rfl rfl rfl (gk_cons rfl ⟨9, rfl⟩ (gk_cons rfl ⟨9, rfl⟩ (gk_cons rfl ⟨9, rfl⟩ gk_nil))) (gb_box rfl rfl ⟨9, rfl⟩ gb_nil)
      intro i b_1 hM hc_2 hr_1
      rw [ref03_fits_b2] at hM
      iterate 2 refine GS.seq ?_
      refine GS.region ?_
      iterate 2 refine X.opR rfl rfl rfl ?_
      refine X.opR rfl (X.lenF rfl rfl rfl) rfl ?_
      refine X.opR rfl rfl rfl ?_
      refine GS.opsNil ?_
      refine X.cond rfl (fun h_3 => ?_) (fun h_3 => ?_)
      · replace hM := ite_t h_3 hM
        refine GS.skip ?_
        refine GS.seq ?_
        refine GS.block ?_
        refine GS.seq ?_
        obtain ⟨x1, h_4, hM⟩ := bind_of hM
        obtain ⟨x2, h_5, hM⟩ := bind_of hM
        obtain ⟨x3, h_6, hM⟩ := bind_of hM
        refine X.drawc (by kernel_rfl) rfl ?_
        iterate 2 refine X.cop rfl rfl rfl rfl ?_
        refine X.cop rfl (X.indexF (f := V.i) h_4 (fun _ => rfl) rfl rfl rfl rfl) rfl rfl ?_
        refine X.cop rfl (X.loadF h_4 rfl rfl rfl) rfl rfl ?_
        iterate 3 refine X.cop rfl rfl rfl rfl ?_
        refine X.cop rfl (X.indexF (f := e_api_Span) h_5 (fun _ => rfl) rfl rfl rfl rfl) rfl rfl ?_
        refine X.cop rfl rfl rfl rfl ?_
        refine X.cop rfl (X.loadF h_5 rfl rfl rfl) rfl rfl ?_
        iterate 3 refine X.cop rfl rfl rfl rfl ?_
        refine X.cop rfl (X.indexF (f := e_api_Span) h_6 (fun _ => rfl) rfl rfl rfl rfl) rfl rfl ?_
        refine X.cop rfl rfl rfl rfl ?_
        refine X.cop rfl (X.loadF h_6 rfl rfl rfl) rfl rfl ?_
        refine X.ccall (ok_ref03_in x1 x2.Lo x3.Hi) rfl rfl rfl rfl (.cons (.shut (n := 9) rfl) (.cons (.shut (n := 9) rfl) (.cons (.shut (n := 9) rfl) .nil))) ?_
        refine X.cop rfl rfl rfl rfl ?_
        refine X.cnil ?_
        refine X.norm [(1, (V.sl (List.map V.i x))), (2, (V.ptr 0 0 0)), (5, (V.i i)), (35, (V.b (!(ref03_in x1 x2.Lo x3.Hi))))] ?_ rfl (W.sub_cons rfl (W.sub_cons rfl (W.sub_cons rfl (W.sub_cons rfl W.sub_nil))))
        refine X.cond rfl (fun h_7 => ?_) (fun h_7 => ?_)
        · replace hM := ite_t h_7 hM
          refine GS.seq ?_
          refine GS.region ?_
          refine X.opR rfl rfl rfl ?_
          refine GS.opsNil ?_
          have hE := Option.some.inj hM
          replace hE := hr_1 _ hE.symm
          subst hE
          exact GS.ret ⟨_, rfl, ⟨30, rfl⟩⟩
        · replace hM := ite_f h_7 hM
          refine GS.skip ?_
          refine GS.endB ?_
          refine GS.region ?_
          refine X.opR rfl rfl rfl ?_
          refine X.opR rfl (X.addE rfl rfl) rfl ?_
          refine X.opR rfl rfl rfl ?_
          refine GS.opsNil ?_
          have hE := Option.some.inj hM
          exact X.gc [some 0] (hc_2 (w64 (i + 1)) hE.symm) rfl rfl rfl (gk_cons rfl ⟨9, rfl⟩ (gk_cons rfl ⟨9, rfl⟩ (gk_cons rfl ⟨9, rfl⟩ gk_nil))) (gb_box rfl rfl ⟨9, rfl⟩ gb_nil)
      · replace hM := ite_f h_3 hM
        refine GS.exit rfl ?_
        obtain ⟨y_1, hM, hy⟩ := map_of hM
        rw [hr_1 _ hy.symm] at hM
        exact X.gc [some 0] (hj_1 () hM) rfl rfl rfl (gk_cons rfl ⟨9, rfl⟩ (gk_cons rfl ⟨9, rfl⟩ gk_nil)) (gb_box rfl rfl ⟨9, rfl⟩ gb_nil)

theorem ok_ref03_Fits {s : api_Ship} {l : api_Load} {x : (List Int)} {r : Bool} (hM : ref03_Fits s l x = some r) : Ct Try.prog 28 [(e_api_Ship s), (e_api_Load l), (V.sl (List.map V.i x))] (V.b r) := by
  refine ct_of_gs CC_ok rfl ?_
  unfold ref03_Fits at hM
  refine GS.seq ?_
  refine GS.region ?_
  iterate 2 refine X.opW rfl rfl rfl rfl ?_
  refine X.opR rfl rfl rfl ?_
  refine GS.opsNil ?_
  refine GS.seq ?_
  obtain ⟨y, h_1, hM⟩ := bind_of hM
  obtain ⟨y1, h_2, hM⟩ := gb_of hM
  refine GS.region ?_
  refine X.mid [(6, (V.b ((decide (y = 0)) && y1)))] ?_ ?_
  · intro hg
    refine X.split (decide (y = 0)) (fun h_3 => ?_) (fun h_3 => ?_)
    · iterate 2 refine X.opR rfl rfl rfl ?_
      refine X.call (ok_ref03_CheckLoad h_1) rfl rfl rfl (.cons (.shut (n := 9) rfl) (.cons (.shut (n := 9) rfl) .nil)) ?_
      iterate 2 refine X.opR rfl rfl rfl ?_
      iterate 2 refine X.opR (X.on_t rfl rfl rfl h_3) rfl rfl ?_
      refine X.call (ok_ref03_fits (h_2 h_3)) (X.on_t rfl rfl rfl h_3) rfl rfl (.cons (.shut (n := 9) rfl) (.cons (.shut (n := 9) rfl) .nil)) ?_
      refine X.opR rfl (X.pickand_t (y := y1) rfl h_3 rfl) rfl ?_
      refine X.opR rfl rfl rfl ?_
      refine GS.opsNil ?_
      exact X.norm _ hg rfl (W.sub_cons rfl W.sub_nil)
    · iterate 2 refine X.opR rfl rfl rfl ?_
      refine X.call (ok_ref03_CheckLoad h_1) rfl rfl rfl (.cons (.shut (n := 9) rfl) (.cons (.shut (n := 9) rfl) .nil)) ?_
      iterate 2 refine X.opR rfl rfl rfl ?_
      iterate 3 refine X.off (X.off_t rfl rfl rfl h_3) rfl ?_
      refine X.opR rfl (X.pickand_f (y := y1) rfl h_3 rfl) rfl ?_
      refine X.opR rfl rfl rfl ?_
      refine GS.opsNil ?_
      exact X.norm _ hg rfl (W.sub_cons rfl W.sub_nil)
  have hE := Option.some.inj hM
  subst hE
  exact GS.ret ⟨_, rfl, ⟨30, rfl⟩⟩

set_option maxHeartbeats 4000000 in
theorem ok_law03_HullChecks {s : api_Ship} {l : api_Load} {x : (List Int)} {r : Bool} (hM : law03_HullChecks s l x = some r) : Ct Try.prog 4 [(e_api_Ship s), (e_api_Load l), (V.sl (List.map V.i x))] (V.b r) := by
  refine ct_of_gs CC_ok rfl ?_
  unfold law03_HullChecks at hM
  refine GS.seq ?_
  refine GS.region ?_
  iterate 2 refine X.opW rfl rfl rfl rfl ?_
  refine X.opR rfl rfl rfl ?_
  refine GS.opsNil ?_
  iterate 2 refine GS.seq ?_
  refine GS.region ?_
  refine X.mid [(2, (V.sl (List.map V.i x))), (3, (V.ptr 0 0 0)), (4, (V.ptr 1 0 0)), (19, (V.b ((!(law03_short s l)) || (decide (20 < (x.length : Int))))))] ?_ ?_
  · intro hg
    refine X.split (!(law03_short s l)) (fun h_1 => ?_) (fun h_1 => ?_)
    · iterate 2 refine X.opR rfl rfl rfl ?_
      refine X.call (ok_law03_short s l) rfl rfl rfl (.cons (.shut (n := 9) rfl) (.cons (.shut (n := 9) rfl) .nil)) ?_
      iterate 2 refine X.opR rfl rfl rfl ?_
      iterate 3 refine X.off (X.off_f rfl rfl rfl h_1) rfl ?_
      refine X.opR rfl (X.pickor_t (y := decide (20 < (x.length : Int))) rfl h_1 rfl) rfl ?_
      refine GS.opsNil ?_
      exact X.norm _ hg rfl (W.sub_cons rfl (W.sub_cons rfl (W.sub_cons rfl (W.sub_cons rfl W.sub_nil))))
    · iterate 2 refine X.opR rfl rfl rfl ?_
      refine X.call (ok_law03_short s l) rfl rfl rfl (.cons (.shut (n := 9) rfl) (.cons (.shut (n := 9) rfl) .nil)) ?_
      iterate 2 refine X.opR rfl rfl rfl ?_
      refine X.opR (X.on_f rfl rfl rfl h_1) rfl rfl ?_
      refine X.opR (X.on_f rfl rfl rfl h_1) (X.lenF rfl rfl rfl) rfl ?_
      refine X.opR (X.on_f rfl rfl rfl h_1) rfl rfl ?_
      refine X.opR rfl (X.pickor_f (y := decide (20 < (x.length : Int))) rfl h_1 rfl) rfl ?_
      refine GS.opsNil ?_
      exact X.norm _ hg rfl (W.sub_cons rfl (W.sub_cons rfl (W.sub_cons rfl (W.sub_cons rfl W.sub_nil))))
  refine X.cond rfl (fun h_2 => ?_) (fun h_2 => ?_)
  · replace hM := ite_t h_2 hM
    refine GS.seq ?_
    obtain ⟨y, h_3, hM⟩ := bind_of hM
    refine GS.region ?_
    refine X.call (ok_law03_sanity h_3) rfl rfl rfl .nil ?_
    refine X.opR rfl rfl rfl ?_
    refine GS.opsNil ?_
    have hE := Option.some.inj hM
    subst hE
    exact GS.ret ⟨_, rfl, ⟨30, rfl⟩⟩
  · replace hM := ite_f h_2 hM
    refine GS.skip ?_
    refine GS.seq ?_
    obtain ⟨y1, h_4, hM⟩ := bind_of hM
    refine GS.region ?_
    iterate 2 refine X.opR rfl rfl rfl ?_
    refine X.call (ok_hull_Narrow h_4) rfl rfl rfl (.cons (.shut (n := 9) rfl) (.cons (.shut (n := 9) rfl) .nil)) ?_
    iterate 3 refine X.opR rfl rfl rfl ?_
    refine X.opW rfl rfl rfl rfl ?_
    refine X.op0W rfl rfl rfl ?_
    refine X.opR rfl rfl rfl ?_
    refine GS.opsNil ?_
    refine GS.seq ?_
    obtain ⟨y2, h_5, hM⟩ := bind_of hM
    refine GS.region ?_
    iterate 2 refine X.opR rfl rfl rfl ?_
    refine X.call (ok_ref03_Narrow h_5) rfl rfl rfl (.cons (.shut (n := 9) rfl) (.cons (.shut (n := 9) rfl) .nil)) ?_
    iterate 3 refine X.opR rfl rfl rfl ?_
    refine X.opW (H' := [.rows 11 [(e_api_Ship s)], .rows 3 [(e_api_Load l)], .rows 3 [(e_api_Load y1.1)], .rows 3 [(V.agg [V.nil, (V.i 0), (V.i 0)])]]) rfl rfl rfl rfl ?_
    refine X.op0W (H' := [.rows 11 [(e_api_Ship s)], .rows 3 [(e_api_Load l)], .rows 3 [(e_api_Load y1.1)], .rows 3 [(e_api_Load y2.1)]]) rfl rfl rfl ?_
    refine X.opR rfl rfl rfl ?_
    refine GS.opsNil ?_
    refine GS.seq ?_
    obtain ⟨y3, h_6, hM⟩ := bind_of hM
    obtain ⟨y4, h_7, hM⟩ := gb_of hM
    obtain ⟨y5, h_8, hM⟩ := gb_of hM
    obtain ⟨y6, h_9, hM⟩ := gb_of hM
    obtain ⟨y7, h_10, hM⟩ := gb_of hM
    obtain ⟨y8, h_11, hM⟩ := gb_of hM
    obtain ⟨y9, h_12, hM⟩ := gb_of hM
    obtain ⟨y10, h_13, hM⟩ := gb_of hM
    refine X.mid [(6, (V.b (((((y3 && (decide (y4 = y5))) && (decide (y6 = y7))) && (y8 == y9)) && y10) && (decide (y1.2 = y2.2)))))] ?_ ?_
    · intro hg
      refine X.split (y3) (fun h_14 => ?_) (fun h_14 => ?_)
      · refine X.split ((y3 && (decide (y4 = y5)))) (fun h_15 => ?_) (fun h_15 => ?_)
        · refine X.split (((y3 && (decide (y4 = y5))) && (decide (y6 = y7)))) (fun h_16 => ?_) (fun h_16 => ?_)
          · refine X.split ((((y3 && (decide (y4 = y5))) && (decide (y6 = y7))) && (y8 == y9))) (fun h_17 => ?_) (fun h_17 => ?_)
            · refine X.split (((((y3 && (decide (y4 = y5))) && (decide (y6 = y7))) && (y8 == y9)) && y10)) (fun h_18 => ?_) (fun h_18 => ?_)
              · refine X.drawc (by kernel_rfl) rfl ?_
                refine X.ccall (ok_law03_sanity h_6) rfl rfl rfl rfl .nil ?_
                refine X.cop rfl rfl rfl rfl ?_
                refine X.cop (X.on_t rfl rfl rfl h_14) rfl rfl rfl ?_
                refine X.ccall (ok_hull_Check (h_7 h_14)) (X.on_t rfl rfl rfl h_14) rfl rfl rfl (.cons (.shut (n := 9) rfl) .nil) ?_
                refine X.cop (X.on_t rfl rfl rfl h_14) rfl rfl rfl ?_
                refine X.ccall (ok_ref03_Check (h_8 h_14)) (X.on_t rfl rfl rfl h_14) rfl rfl rfl (.cons (.shut (n := 9) rfl) .nil) ?_
                refine X.cop (X.on_t rfl rfl rfl h_14) rfl rfl rfl ?_
                refine X.cop rfl (X.pickand_t (y := decide (y4 = y5)) rfl h_14 rfl) rfl rfl ?_
                refine X.cop rfl rfl rfl rfl ?_
                iterate 2 refine X.cop (X.on_t rfl rfl rfl h_15) rfl rfl rfl ?_
                refine X.ccall (ok_hull_CheckLoad (h_9 h_15)) (X.on_t rfl rfl rfl h_15) rfl rfl rfl (.cons (.shut (n := 9) rfl) (.cons (.shut (n := 9) rfl) .nil)) ?_
                iterate 2 refine X.cop (X.on_t rfl rfl rfl h_15) rfl rfl rfl ?_
                refine X.ccall (ok_ref03_CheckLoad (h_10 h_15)) (X.on_t rfl rfl rfl h_15) rfl rfl rfl (.cons (.shut (n := 9) rfl) (.cons (.shut (n := 9) rfl) .nil)) ?_
                refine X.cop (X.on_t rfl rfl rfl h_15) rfl rfl rfl ?_
                refine X.cop rfl (X.pickand_t (y := decide (y6 = y7)) rfl h_15 rfl) rfl rfl ?_
                refine X.cop rfl rfl rfl rfl ?_
                iterate 3 refine X.cop (X.on_t rfl rfl rfl h_16) rfl rfl rfl ?_
                refine X.ccall (ok_hull_Fits (h_11 h_16)) (X.on_t rfl rfl rfl h_16) rfl rfl rfl (.cons (.shut (n := 9) rfl) (.cons (.shut (n := 9) rfl) (.cons (.shut (n := 9) rfl) .nil))) ?_
                iterate 3 refine X.cop (X.on_t rfl rfl rfl h_16) rfl rfl rfl ?_
                refine X.ccall (ok_ref03_Fits (h_12 h_16)) (X.on_t rfl rfl rfl h_16) rfl rfl rfl (.cons (.shut (n := 9) rfl) (.cons (.shut (n := 9) rfl) (.cons (.shut (n := 9) rfl) .nil))) ?_
                refine X.cop (X.on_t rfl rfl rfl h_16) rfl rfl rfl ?_
                refine X.cop rfl (X.pickand_t (y := (y8 == y9)) rfl h_16 rfl) rfl rfl ?_
                refine X.cop rfl rfl rfl rfl ?_
                iterate 2 refine X.cop (X.on_t rfl rfl rfl h_17) rfl rfl rfl ?_
                refine X.ccall (ok_ref03_SameLoads (h_13 h_17)) (X.on_t rfl rfl rfl h_17) rfl rfl rfl (.cons (.shut (n := 9) rfl) (.cons (.shut (n := 9) rfl) .nil)) ?_
                refine X.cop rfl (X.pickand_t (y := y10) rfl h_17 rfl) rfl rfl ?_
                refine X.cop rfl rfl rfl rfl ?_
                iterate 3 refine X.cop (X.on_t rfl rfl rfl h_18) rfl rfl rfl ?_
                refine X.cop rfl (X.pickand_t (y := decide (y1.2 = y2.2)) rfl h_18 rfl) rfl rfl ?_
                refine X.cop rfl rfl rfl rfl ?_
                refine X.cnil ?_
                exact X.norm _ hg rfl (W.sub_cons rfl W.sub_nil)
              · refine X.drawc (by kernel_rfl) rfl ?_
                refine X.ccall (ok_law03_sanity h_6) rfl rfl rfl rfl .nil ?_
                refine X.cop rfl rfl rfl rfl ?_
                refine X.cop (X.on_t rfl rfl rfl h_14) rfl rfl rfl ?_
                refine X.ccall (ok_hull_Check (h_7 h_14)) (X.on_t rfl rfl rfl h_14) rfl rfl rfl (.cons (.shut (n := 9) rfl) .nil) ?_
                refine X.cop (X.on_t rfl rfl rfl h_14) rfl rfl rfl ?_
                refine X.ccall (ok_ref03_Check (h_8 h_14)) (X.on_t rfl rfl rfl h_14) rfl rfl rfl (.cons (.shut (n := 9) rfl) .nil) ?_
                refine X.cop (X.on_t rfl rfl rfl h_14) rfl rfl rfl ?_
                refine X.cop rfl (X.pickand_t (y := decide (y4 = y5)) rfl h_14 rfl) rfl rfl ?_
                refine X.cop rfl rfl rfl rfl ?_
                iterate 2 refine X.cop (X.on_t rfl rfl rfl h_15) rfl rfl rfl ?_
                refine X.ccall (ok_hull_CheckLoad (h_9 h_15)) (X.on_t rfl rfl rfl h_15) rfl rfl rfl (.cons (.shut (n := 9) rfl) (.cons (.shut (n := 9) rfl) .nil)) ?_
                iterate 2 refine X.cop (X.on_t rfl rfl rfl h_15) rfl rfl rfl ?_
                refine X.ccall (ok_ref03_CheckLoad (h_10 h_15)) (X.on_t rfl rfl rfl h_15) rfl rfl rfl (.cons (.shut (n := 9) rfl) (.cons (.shut (n := 9) rfl) .nil)) ?_
                refine X.cop (X.on_t rfl rfl rfl h_15) rfl rfl rfl ?_
                refine X.cop rfl (X.pickand_t (y := decide (y6 = y7)) rfl h_15 rfl) rfl rfl ?_
                refine X.cop rfl rfl rfl rfl ?_
                iterate 3 refine X.cop (X.on_t rfl rfl rfl h_16) rfl rfl rfl ?_
                refine X.ccall (ok_hull_Fits (h_11 h_16)) (X.on_t rfl rfl rfl h_16) rfl rfl rfl (.cons (.shut (n := 9) rfl) (.cons (.shut (n := 9) rfl) (.cons (.shut (n := 9) rfl) .nil))) ?_
                iterate 3 refine X.cop (X.on_t rfl rfl rfl h_16) rfl rfl rfl ?_
                refine X.ccall (ok_ref03_Fits (h_12 h_16)) (X.on_t rfl rfl rfl h_16) rfl rfl rfl (.cons (.shut (n := 9) rfl) (.cons (.shut (n := 9) rfl) (.cons (.shut (n := 9) rfl) .nil))) ?_
                refine X.cop (X.on_t rfl rfl rfl h_16) rfl rfl rfl ?_
                refine X.cop rfl (X.pickand_t (y := (y8 == y9)) rfl h_16 rfl) rfl rfl ?_
                refine X.cop rfl rfl rfl rfl ?_
                iterate 2 refine X.cop (X.on_t rfl rfl rfl h_17) rfl rfl rfl ?_
                refine X.ccall (ok_ref03_SameLoads (h_13 h_17)) (X.on_t rfl rfl rfl h_17) rfl rfl rfl (.cons (.shut (n := 9) rfl) (.cons (.shut (n := 9) rfl) .nil)) ?_
                refine X.cop rfl (X.pickand_t (y := y10) rfl h_17 rfl) rfl rfl ?_
                refine X.cop rfl rfl rfl rfl ?_
                iterate 3 refine X.coff (X.off_t rfl rfl rfl h_18) rfl rfl ?_
                refine X.cop rfl (X.pickand_f (y := decide (y1.2 = y2.2)) rfl h_18 rfl) rfl rfl ?_
                refine X.cop rfl rfl rfl rfl ?_
                refine X.cnil ?_
                exact X.norm _ hg rfl (W.sub_cons rfl W.sub_nil)
            · refine X.drawc (by kernel_rfl) rfl ?_
              refine X.ccall (ok_law03_sanity h_6) rfl rfl rfl rfl .nil ?_
              refine X.cop rfl rfl rfl rfl ?_
              refine X.cop (X.on_t rfl rfl rfl h_14) rfl rfl rfl ?_
              refine X.ccall (ok_hull_Check (h_7 h_14)) (X.on_t rfl rfl rfl h_14) rfl rfl rfl (.cons (.shut (n := 9) rfl) .nil) ?_
              refine X.cop (X.on_t rfl rfl rfl h_14) rfl rfl rfl ?_
              refine X.ccall (ok_ref03_Check (h_8 h_14)) (X.on_t rfl rfl rfl h_14) rfl rfl rfl (.cons (.shut (n := 9) rfl) .nil) ?_
              refine X.cop (X.on_t rfl rfl rfl h_14) rfl rfl rfl ?_
              refine X.cop rfl (X.pickand_t (y := decide (y4 = y5)) rfl h_14 rfl) rfl rfl ?_
              refine X.cop rfl rfl rfl rfl ?_
              iterate 2 refine X.cop (X.on_t rfl rfl rfl h_15) rfl rfl rfl ?_
              refine X.ccall (ok_hull_CheckLoad (h_9 h_15)) (X.on_t rfl rfl rfl h_15) rfl rfl rfl (.cons (.shut (n := 9) rfl) (.cons (.shut (n := 9) rfl) .nil)) ?_
              iterate 2 refine X.cop (X.on_t rfl rfl rfl h_15) rfl rfl rfl ?_
              refine X.ccall (ok_ref03_CheckLoad (h_10 h_15)) (X.on_t rfl rfl rfl h_15) rfl rfl rfl (.cons (.shut (n := 9) rfl) (.cons (.shut (n := 9) rfl) .nil)) ?_
              refine X.cop (X.on_t rfl rfl rfl h_15) rfl rfl rfl ?_
              refine X.cop rfl (X.pickand_t (y := decide (y6 = y7)) rfl h_15 rfl) rfl rfl ?_
              refine X.cop rfl rfl rfl rfl ?_
              iterate 3 refine X.cop (X.on_t rfl rfl rfl h_16) rfl rfl rfl ?_
              refine X.ccall (ok_hull_Fits (h_11 h_16)) (X.on_t rfl rfl rfl h_16) rfl rfl rfl (.cons (.shut (n := 9) rfl) (.cons (.shut (n := 9) rfl) (.cons (.shut (n := 9) rfl) .nil))) ?_
              iterate 3 refine X.cop (X.on_t rfl rfl rfl h_16) rfl rfl rfl ?_
              refine X.ccall (ok_ref03_Fits (h_12 h_16)) (X.on_t rfl rfl rfl h_16) rfl rfl rfl (.cons (.shut (n := 9) rfl) (.cons (.shut (n := 9) rfl) (.cons (.shut (n := 9) rfl) .nil))) ?_
              refine X.cop (X.on_t rfl rfl rfl h_16) rfl rfl rfl ?_
              refine X.cop rfl (X.pickand_t (y := (y8 == y9)) rfl h_16 rfl) rfl rfl ?_
              refine X.cop rfl rfl rfl rfl ?_
              iterate 3 refine X.coff (X.off_t rfl rfl rfl h_17) rfl rfl ?_
              refine X.cop rfl (X.pickand_f (y := y10) rfl h_17 rfl) rfl rfl ?_
              refine X.cop rfl rfl rfl rfl ?_
              iterate 3 refine X.coff (X.off_t rfl rfl rfl (X.and_ff h_17)) rfl rfl ?_
              refine X.cop rfl (X.pickand_f (y := decide (y1.2 = y2.2)) rfl (X.and_ff h_17) rfl) rfl rfl ?_
              refine X.cop rfl rfl rfl rfl ?_
              refine X.cnil ?_
              exact X.norm _ hg rfl (W.sub_cons rfl W.sub_nil)
          · refine X.drawc (by kernel_rfl) rfl ?_
            refine X.ccall (ok_law03_sanity h_6) rfl rfl rfl rfl .nil ?_
            refine X.cop rfl rfl rfl rfl ?_
            refine X.cop (X.on_t rfl rfl rfl h_14) rfl rfl rfl ?_
            refine X.ccall (ok_hull_Check (h_7 h_14)) (X.on_t rfl rfl rfl h_14) rfl rfl rfl (.cons (.shut (n := 9) rfl) .nil) ?_
            refine X.cop (X.on_t rfl rfl rfl h_14) rfl rfl rfl ?_
            refine X.ccall (ok_ref03_Check (h_8 h_14)) (X.on_t rfl rfl rfl h_14) rfl rfl rfl (.cons (.shut (n := 9) rfl) .nil) ?_
            refine X.cop (X.on_t rfl rfl rfl h_14) rfl rfl rfl ?_
            refine X.cop rfl (X.pickand_t (y := decide (y4 = y5)) rfl h_14 rfl) rfl rfl ?_
            refine X.cop rfl rfl rfl rfl ?_
            iterate 2 refine X.cop (X.on_t rfl rfl rfl h_15) rfl rfl rfl ?_
            refine X.ccall (ok_hull_CheckLoad (h_9 h_15)) (X.on_t rfl rfl rfl h_15) rfl rfl rfl (.cons (.shut (n := 9) rfl) (.cons (.shut (n := 9) rfl) .nil)) ?_
            iterate 2 refine X.cop (X.on_t rfl rfl rfl h_15) rfl rfl rfl ?_
            refine X.ccall (ok_ref03_CheckLoad (h_10 h_15)) (X.on_t rfl rfl rfl h_15) rfl rfl rfl (.cons (.shut (n := 9) rfl) (.cons (.shut (n := 9) rfl) .nil)) ?_
            refine X.cop (X.on_t rfl rfl rfl h_15) rfl rfl rfl ?_
            refine X.cop rfl (X.pickand_t (y := decide (y6 = y7)) rfl h_15 rfl) rfl rfl ?_
            refine X.cop rfl rfl rfl rfl ?_
            iterate 9 refine X.coff (X.off_t rfl rfl rfl h_16) rfl rfl ?_
            refine X.cop rfl (X.pickand_f (y := (y8 == y9)) rfl h_16 rfl) rfl rfl ?_
            refine X.cop rfl rfl rfl rfl ?_
            iterate 3 refine X.coff (X.off_t rfl rfl rfl (X.and_ff h_16)) rfl rfl ?_
            refine X.cop rfl (X.pickand_f (y := y10) rfl (X.and_ff h_16) rfl) rfl rfl ?_
            refine X.cop rfl rfl rfl rfl ?_
            iterate 3 refine X.coff (X.off_t rfl rfl rfl (X.and_ff (X.and_ff h_16))) rfl rfl ?_
            refine X.cop rfl (X.pickand_f (y := decide (y1.2 = y2.2)) rfl (X.and_ff (X.and_ff h_16)) rfl) rfl rfl ?_
            refine X.cop rfl rfl rfl rfl ?_
            refine X.cnil ?_
            exact X.norm _ hg rfl (W.sub_cons rfl W.sub_nil)
        · refine X.drawc (by kernel_rfl) rfl ?_
          refine X.ccall (ok_law03_sanity h_6) rfl rfl rfl rfl .nil ?_
          refine X.cop rfl rfl rfl rfl ?_
          refine X.cop (X.on_t rfl rfl rfl h_14) rfl rfl rfl ?_
          refine X.ccall (ok_hull_Check (h_7 h_14)) (X.on_t rfl rfl rfl h_14) rfl rfl rfl (.cons (.shut (n := 9) rfl) .nil) ?_
          refine X.cop (X.on_t rfl rfl rfl h_14) rfl rfl rfl ?_
          refine X.ccall (ok_ref03_Check (h_8 h_14)) (X.on_t rfl rfl rfl h_14) rfl rfl rfl (.cons (.shut (n := 9) rfl) .nil) ?_
          refine X.cop (X.on_t rfl rfl rfl h_14) rfl rfl rfl ?_
          refine X.cop rfl (X.pickand_t (y := decide (y4 = y5)) rfl h_14 rfl) rfl rfl ?_
          refine X.cop rfl rfl rfl rfl ?_
          iterate 7 refine X.coff (X.off_t rfl rfl rfl h_15) rfl rfl ?_
          refine X.cop rfl (X.pickand_f (y := decide (y6 = y7)) rfl h_15 rfl) rfl rfl ?_
          refine X.cop rfl rfl rfl rfl ?_
          iterate 9 refine X.coff (X.off_t rfl rfl rfl (X.and_ff h_15)) rfl rfl ?_
          refine X.cop rfl (X.pickand_f (y := (y8 == y9)) rfl (X.and_ff h_15) rfl) rfl rfl ?_
          refine X.cop rfl rfl rfl rfl ?_
          iterate 3 refine X.coff (X.off_t rfl rfl rfl (X.and_ff (X.and_ff h_15))) rfl rfl ?_
          refine X.cop rfl (X.pickand_f (y := y10) rfl (X.and_ff (X.and_ff h_15)) rfl) rfl rfl ?_
          refine X.cop rfl rfl rfl rfl ?_
          iterate 3 refine X.coff (X.off_t rfl rfl rfl (X.and_ff (X.and_ff (X.and_ff h_15)))) rfl rfl ?_
          refine X.cop rfl (X.pickand_f (y := decide (y1.2 = y2.2)) rfl (X.and_ff (X.and_ff (X.and_ff h_15))) rfl) rfl rfl ?_
          refine X.cop rfl rfl rfl rfl ?_
          refine X.cnil ?_
          exact X.norm _ hg rfl (W.sub_cons rfl W.sub_nil)
      · refine X.drawc (by kernel_rfl) rfl ?_
        refine X.ccall (ok_law03_sanity h_6) rfl rfl rfl rfl .nil ?_
        refine X.cop rfl rfl rfl rfl ?_
        iterate 5 refine X.coff (X.off_t rfl rfl rfl h_14) rfl rfl ?_
        refine X.cop rfl (X.pickand_f (y := decide (y4 = y5)) rfl h_14 rfl) rfl rfl ?_
        refine X.cop rfl rfl rfl rfl ?_
        iterate 7 refine X.coff (X.off_t rfl rfl rfl (X.and_ff h_14)) rfl rfl ?_
        refine X.cop rfl (X.pickand_f (y := decide (y6 = y7)) rfl (X.and_ff h_14) rfl) rfl rfl ?_
        refine X.cop rfl rfl rfl rfl ?_
        iterate 9 refine X.coff (X.off_t rfl rfl rfl (X.and_ff (X.and_ff h_14))) rfl rfl ?_
        refine X.cop rfl (X.pickand_f (y := (y8 == y9)) rfl (X.and_ff (X.and_ff h_14)) rfl) rfl rfl ?_
        refine X.cop rfl rfl rfl rfl ?_
        iterate 3 refine X.coff (X.off_t rfl rfl rfl (X.and_ff (X.and_ff (X.and_ff h_14)))) rfl rfl ?_
        refine X.cop rfl (X.pickand_f (y := y10) rfl (X.and_ff (X.and_ff (X.and_ff h_14))) rfl) rfl rfl ?_
        refine X.cop rfl rfl rfl rfl ?_
        iterate 3 refine X.coff (X.off_t rfl rfl rfl (X.and_ff (X.and_ff (X.and_ff (X.and_ff h_14))))) rfl rfl ?_
        refine X.cop rfl (X.pickand_f (y := decide (y1.2 = y2.2)) rfl (X.and_ff (X.and_ff (X.and_ff (X.and_ff h_14)))) rfl) rfl rfl ?_
        refine X.cop rfl rfl rfl rfl ?_
        refine X.cnil ?_
        exact X.norm _ hg rfl (W.sub_cons rfl W.sub_nil)
    have hE := Option.some.inj hM
    subst hE
    exact GS.ret ⟨_, rfl, ⟨30, rfl⟩⟩

end Go.Proofs.Ythfnbjoecocfaaa
