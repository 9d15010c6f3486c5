/- The program's functions compute the plain ones. Conditions: none. Printed by a program (wip/tools/xg.py). -/
import Derived.Test.YtphmekpaalfliaaP2
set_option linter.unusedVariables false
set_option linter.unusedSimpArgs false
namespace Go.Proofs.Ytphmekpaalfliaa
open Go Go.Am Go.Proofs Go.Mx

set_option maxHeartbeats 4000000 in
theorem ok_tide_CheckProof {w : api_Water} {s : api_Span} {height : Int} {cuts : (List Int)} {r : Int} (hM : tide_CheckProof w s height cuts = some r) : Ct Try.prog 50 [(e_api_Water w), (e_api_Span s), (V.i height), (V.sl (List.map V.i cuts))] (V.i r) := by
  refine ct_of_gs CC_ok rfl ?_
  unfold tide_CheckProof at hM
  refine GS.seq ?_
  refine GS.region ?_
  iterate 2 refine X.opW rfl rfl rfl rfl ?_
  refine X.opR rfl rfl rfl ?_
  refine GS.opsNil ?_
  refine GS.scope ?_
  iterate 2 refine GS.seq ?_
  obtain ⟨y, h_1, hM⟩ := bind_of hM
  refine GS.region ?_
  iterate 2 refine X.opR rfl rfl rfl ?_
  refine X.call (ok_tide_asked h_1) rfl rfl rfl (.cons (.shut (n := 9) rfl) (.cons (.shut (n := 9) rfl) .nil)) ?_
  refine X.opR rfl rfl rfl ?_
  refine GS.opsNil ?_
  refine GS.seq ?_
  refine GS.region ?_
  iterate 2 refine X.opR rfl rfl rfl ?_
  refine GS.opsNil ?_
  refine X.cond rfl (fun h_2 => ?_) (fun h_2 => ?_)
  · replace hM := ite_t h_2 hM
    refine GS.seq ?_
    refine GS.region ?_
    iterate 2 refine X.opR rfl rfl rfl ?_
    refine GS.opsNil ?_
    have hE := Option.some.inj hM
    subst hE
    exact GS.ret ⟨_, rfl, ⟨30, rfl⟩⟩
  · replace hM := ite_f h_2 hM
    refine GS.skip ?_
    iterate 2 refine GS.seq ?_
    refine GS.region ?_
    refine X.opR rfl rfl rfl ?_
    refine X.opR rfl (X.lenF rfl rfl rfl) rfl ?_
    refine X.opR rfl rfl rfl ?_
    refine GS.opsNil ?_
    refine X.cond rfl (fun h_3 => ?_) (fun h_3 => ?_)
    · replace hM := ite_t h_3 hM
      refine GS.seq ?_
      refine GS.region ?_
      refine X.opR rfl rfl rfl ?_
      refine GS.opsNil ?_
      have hE := Option.some.inj hM
      subst hE
      exact GS.ret ⟨_, rfl, ⟨30, rfl⟩⟩
    · replace hM := ite_f h_3 hM
      refine GS.skip ?_
      refine GS.seq ?_
      refine GS.region ?_
      iterate 3 refine X.opR rfl rfl rfl ?_
      refine GS.opsNil ?_
      iterate 2 refine GS.seq ?_
      refine GS.region ?_
      refine X.opR rfl rfl rfl ?_
      refine X.opR rfl (X.lenF rfl rfl rfl) rfl ?_
      refine X.opR rfl rfl rfl ?_
      refine GS.opsNil ?_
      refine X.join (τ := Unit) (fun v => tide_CheckProof_j1 w s height cuts = some r) (fun v => ⟨[(2, (V.i height)), (3, (V.sl (List.map V.i cuts))), (4, (V.ptr 0 0 0)), (5, (V.ptr 1 0 0))], [.rows 3 [(e_api_Water w)], .rows 2 [(e_api_Span s)]], 0, none, 88⟩) ?_ ?_
      · intro _ hM
        replace hM : tide_CheckProof_j1 w s height cuts = some r := hM
        unfold tide_CheckProof_j1 at hM
        refine GS.seq ?_
        obtain ⟨l, h_4, hM⟩ := bind_of hM
        obtain ⟨l1, h_5, hM⟩ := bind_of hM
        refine X.midS ⟨[(2, (V.i height)), (4, (V.ptr 0 0 0)), (5, (V.ptr 1 0 0)), (13, (V.osl 2 0 (List.length l1)))], [.rows 3 [(e_api_Water w)], .rows 2 [(e_api_Span s)], .rows 1 (List.map V.i l1)], 0, none, 88⟩ ?_ ?_
        · intro hg
          refine X.drawAll [[0, 1, 2, 3, 4, 5, 6, 7], [0, 2, 1, 3, 4, 5, 6, 7], [0, 2, 3, 1, 4, 5, 6, 7], [0, 2, 3, 4, 1, 5, 6, 7], [0, 2, 3, 4, 5, 1, 6, 7], [2, 0, 1, 3, 4, 5, 6, 7], [2, 0, 3, 1, 4, 5, 6, 7], [2, 0, 3, 4, 1, 5, 6, 7], [2, 0, 3, 4, 5, 1, 6, 7], [2, 3, 0, 1, 4, 5, 6, 7], [2, 3, 0, 4, 1, 5, 6, 7], [2, 3, 0, 4, 5, 1, 6, 7], [2, 3, 4, 0, 1, 5, 6, 7], [2, 3, 4, 0, 5, 1, 6, 7], [2, 3, 4, 5, 0, 1, 6, 7]] (by kernel_rfl) ?_
          refine (X.all_cons ?_ (X.all_cons ?_ (X.all_cons ?_ (X.all_cons ?_ (X.all_cons ?_ (X.all_cons ?_ (X.all_cons ?_ (X.all_cons ?_ (X.all_cons ?_ (X.all_cons ?_ (X.all_cons ?_ (X.all_cons ?_ (X.all_cons ?_ (X.all_cons ?_ (X.all_cons ?_ X.all_nil)))))))))))))))
          · refine X.opR rfl rfl rfl ?_
            refine clone_int (r := l) (i := 3) h_4 rfl rfl rfl rfl rfl (fun z_2 => ?_)
            iterate 2 refine X.opR rfl rfl rfl ?_
            refine X.opR rfl (X.addE rfl rfl) rfl ?_
            refine X.opW (H' := [.rows 3 [(e_api_Water w)], .rows 2 [(e_api_Span s)], .dead, oblz z_2 1 V.i l, .rows 1 (List.map V.i ([w64 (s.Hi + 1)]))]) rfl rfl rfl rfl ?_
            refine X.appN (f := V.i) h_5 (fun _ => rfl) (by rfl) (by rfl) (by rfl) (by rfl) (by rfl) (by rfl) (by rfl) (by rfl) (by rfl) (by rfl) (by rfl) (by exact rfl) (by rfl) (by rfl) ?_
            refine X.opR rfl rfl rfl ?_
            refine GS.opsNil ?_
            exact X.gc [some 0, some 1, some 5] hg rfl rfl rfl (gk_cons rfl ⟨9, rfl⟩ (gk_cons rfl ⟨9, rfl⟩ (gk_cons rfl ⟨9, rfl⟩ (gk_cons rfl ⟨9, rfl⟩ gk_nil)))) (gb_box rfl rfl ⟨9, rfl⟩ (gb_box rfl rfl ⟨9, rfl⟩ (gb_rows 9 rfl rfl (fun _ => rfl) gb_nil)))
          · iterate 2 refine X.opR rfl rfl rfl ?_
            refine clone_int (r := l) (i := 3) h_4 rfl rfl rfl rfl rfl (fun z_3 => ?_)
            refine X.opR rfl rfl rfl ?_
            refine X.opR rfl (X.addE rfl rfl) rfl ?_
            refine X.opW (H' := [.rows 3 [(e_api_Water w)], .rows 2 [(e_api_Span s)], .dead, oblz z_3 1 V.i l, .rows 1 (List.map V.i ([w64 (s.Hi + 1)]))]) rfl rfl rfl rfl ?_
            refine X.appN (f := V.i) h_5 (fun _ => rfl) (by rfl) (by rfl) (by rfl) (by rfl) (by rfl) (by rfl) (by rfl) (by rfl) (by rfl) (by rfl) (by rfl) (by exact rfl) (by rfl) (by rfl) ?_
            refine X.opR rfl rfl rfl ?_
            refine GS.opsNil ?_
            exact X.gc [some 0, some 1, some 5] hg rfl rfl rfl (gk_cons rfl ⟨9, rfl⟩ (gk_cons rfl ⟨9, rfl⟩ (gk_cons rfl ⟨9, rfl⟩ (gk_cons rfl ⟨9, rfl⟩ gk_nil)))) (gb_box rfl rfl ⟨9, rfl⟩ (gb_box rfl rfl ⟨9, rfl⟩ (gb_rows 9 rfl rfl (fun _ => rfl) gb_nil)))
          · iterate 3 refine X.opR rfl rfl rfl ?_
            refine clone_int (r := l) (i := 3) h_4 rfl rfl rfl rfl rfl (fun z_4 => ?_)
            refine X.opR rfl (X.addE rfl rfl) rfl ?_
            refine X.opW (H' := [.rows 3 [(e_api_Water w)], .rows 2 [(e_api_Span s)], .dead, oblz z_4 1 V.i l, .rows 1 (List.map V.i ([w64 (s.Hi + 1)]))]) rfl rfl rfl rfl ?_
            refine X.appN (f := V.i) h_5 (fun _ => rfl) (by rfl) (by rfl) (by rfl) (by rfl) (by rfl) (by rfl) (by rfl) (by rfl) (by rfl) (by rfl) (by rfl) (by exact rfl) (by rfl) (by rfl) ?_
            refine X.opR rfl rfl rfl ?_
            refine GS.opsNil ?_
            exact X.gc [some 0, some 1, some 5] hg rfl rfl rfl (gk_cons rfl ⟨9, rfl⟩ (gk_cons rfl ⟨9, rfl⟩ (gk_cons rfl ⟨9, rfl⟩ (gk_cons rfl ⟨9, rfl⟩ gk_nil)))) (gb_box rfl rfl ⟨9, rfl⟩ (gb_box rfl rfl ⟨9, rfl⟩ (gb_rows 9 rfl rfl (fun _ => rfl) gb_nil)))
          · iterate 3 refine X.opR rfl rfl rfl ?_
            refine X.opR rfl (X.addE rfl rfl) rfl ?_
            refine clone_int (r := l) (i := 3) h_4 rfl rfl rfl rfl rfl (fun z_5 => ?_)
            refine X.opW (H' := [.rows 3 [(e_api_Water w)], .rows 2 [(e_api_Span s)], .dead, oblz z_5 1 V.i l, .rows 1 (List.map V.i ([w64 (s.Hi + 1)]))]) rfl rfl rfl rfl ?_
            refine X.appN (f := V.i) h_5 (fun _ => rfl) (by rfl) (by rfl) (by rfl) (by rfl) (by rfl) (by rfl) (by rfl) (by rfl) (by rfl) (by rfl) (by rfl) (by exact rfl) (by rfl) (by rfl) ?_
            refine X.opR rfl rfl rfl ?_
            refine GS.opsNil ?_
            exact X.gc [some 0, some 1, some 5] hg rfl rfl rfl (gk_cons rfl ⟨9, rfl⟩ (gk_cons rfl ⟨9, rfl⟩ (gk_cons rfl ⟨9, rfl⟩ (gk_cons rfl ⟨9, rfl⟩ gk_nil)))) (gb_box rfl rfl ⟨9, rfl⟩ (gb_box rfl rfl ⟨9, rfl⟩ (gb_rows 9 rfl rfl (fun _ => rfl) gb_nil)))
          · iterate 3 refine X.opR rfl rfl rfl ?_
            refine X.opR rfl (X.addE rfl rfl) rfl ?_
            refine X.opW rfl rfl rfl rfl ?_
            refine clone_int (r := l) (i := 4) h_4 rfl rfl rfl rfl rfl (fun z_6 => ?_)
            refine X.appN (f := V.i) h_5 (fun _ => rfl) (by rfl) (by rfl) (by rfl) (by rfl) (by rfl) (by rfl) (by rfl) (by rfl) (by rfl) (by rfl) (by rfl) (by exact rfl) (by rfl) (by rfl) ?_
            refine X.opR rfl rfl rfl ?_
            refine GS.opsNil ?_
            exact X.gc [some 0, some 1, some 5] hg rfl rfl rfl (gk_cons rfl ⟨9, rfl⟩ (gk_cons rfl ⟨9, rfl⟩ (gk_cons rfl ⟨9, rfl⟩ (gk_cons rfl ⟨9, rfl⟩ gk_nil)))) (gb_box rfl rfl ⟨9, rfl⟩ (gb_box rfl rfl ⟨9, rfl⟩ (gb_rows 9 rfl rfl (fun _ => rfl) gb_nil)))
          · iterate 2 refine X.opR rfl rfl rfl ?_
            refine clone_int (r := l) (i := 3) h_4 rfl rfl rfl rfl rfl (fun z_7 => ?_)
            refine X.opR rfl rfl rfl ?_
            refine X.opR rfl (X.addE rfl rfl) rfl ?_
            refine X.opW (H' := [.rows 3 [(e_api_Water w)], .rows 2 [(e_api_Span s)], .dead, oblz z_7 1 V.i l, .rows 1 (List.map V.i ([w64 (s.Hi + 1)]))]) rfl rfl rfl rfl ?_
            refine X.appN (f := V.i) h_5 (fun _ => rfl) (by rfl) (by rfl) (by rfl) (by rfl) (by rfl) (by rfl) (by rfl) (by rfl) (by rfl) (by rfl) (by rfl) (by exact rfl) (by rfl) (by rfl) ?_
            refine X.opR rfl rfl rfl ?_
            refine GS.opsNil ?_
            exact X.gc [some 0, some 1, some 5] hg rfl rfl rfl (gk_cons rfl ⟨9, rfl⟩ (gk_cons rfl ⟨9, rfl⟩ (gk_cons rfl ⟨9, rfl⟩ (gk_cons rfl ⟨9, rfl⟩ gk_nil)))) (gb_box rfl rfl ⟨9, rfl⟩ (gb_box rfl rfl ⟨9, rfl⟩ (gb_rows 9 rfl rfl (fun _ => rfl) gb_nil)))
          · iterate 3 refine X.opR rfl rfl rfl ?_
            refine clone_int (r := l) (i := 3) h_4 rfl rfl rfl rfl rfl (fun z_8 => ?_)
            refine X.opR rfl (X.addE rfl rfl) rfl ?_
            refine X.opW (H' := [.rows 3 [(e_api_Water w)], .rows 2 [(e_api_Span s)], .dead, oblz z_8 1 V.i l, .rows 1 (List.map V.i ([w64 (s.Hi + 1)]))]) rfl rfl rfl rfl ?_
            refine X.appN (f := V.i) h_5 (fun _ => rfl) (by rfl) (by rfl) (by rfl) (by rfl) (by rfl) (by rfl) (by rfl) (by rfl) (by rfl) (by rfl) (by rfl) (by exact rfl) (by rfl) (by rfl) ?_
            refine X.opR rfl rfl rfl ?_
            refine GS.opsNil ?_
            exact X.gc [some 0, some 1, some 5] hg rfl rfl rfl (gk_cons rfl ⟨9, rfl⟩ (gk_cons rfl ⟨9, rfl⟩ (gk_cons rfl ⟨9, rfl⟩ (gk_cons rfl ⟨9, rfl⟩ gk_nil)))) (gb_box rfl rfl ⟨9, rfl⟩ (gb_box rfl rfl ⟨9, rfl⟩ (gb_rows 9 rfl rfl (fun _ => rfl) gb_nil)))
          · iterate 3 refine X.opR rfl rfl rfl ?_
            refine X.opR rfl (X.addE rfl rfl) rfl ?_
            refine clone_int (r := l) (i := 3) h_4 rfl rfl rfl rfl rfl (fun z_9 => ?_)
            refine X.opW (H' := [.rows 3 [(e_api_Water w)], .rows 2 [(e_api_Span s)], .dead, oblz z_9 1 V.i l, .rows 1 (List.map V.i ([w64 (s.Hi + 1)]))]) rfl rfl rfl rfl ?_
            refine X.appN (f := V.i) h_5 (fun _ => rfl) (by rfl) (by rfl) (by rfl) (by rfl) (by rfl) (by rfl) (by rfl) (by rfl) (by rfl) (by rfl) (by rfl) (by exact rfl) (by rfl) (by rfl) ?_
            refine X.opR rfl rfl rfl ?_
            refine GS.opsNil ?_
            exact X.gc [some 0, some 1, some 5] hg rfl rfl rfl (gk_cons rfl ⟨9, rfl⟩ (gk_cons rfl ⟨9, rfl⟩ (gk_cons rfl ⟨9, rfl⟩ (gk_cons rfl ⟨9, rfl⟩ gk_nil)))) (gb_box rfl rfl ⟨9, rfl⟩ (gb_box rfl rfl ⟨9, rfl⟩ (gb_rows 9 rfl rfl (fun _ => rfl) gb_nil)))
          · iterate 3 refine X.opR rfl rfl rfl ?_
            refine X.opR rfl (X.addE rfl rfl) rfl ?_
            refine X.opW rfl rfl rfl rfl ?_
            refine clone_int (r := l) (i := 4) h_4 rfl rfl rfl rfl rfl (fun z_10 => ?_)
            refine X.appN (f := V.i) h_5 (fun _ => rfl) (by rfl) (by rfl) (by rfl) (by rfl) (by rfl) (by rfl) (by rfl) (by rfl) (by rfl) (by rfl) (by rfl) (by exact rfl) (by rfl) (by rfl) ?_
            refine X.opR rfl rfl rfl ?_
            refine GS.opsNil ?_
            exact X.gc [some 0, some 1, some 5] hg rfl rfl rfl (gk_cons rfl ⟨9, rfl⟩ (gk_cons rfl ⟨9, rfl⟩ (gk_cons rfl ⟨9, rfl⟩ (gk_cons rfl ⟨9, rfl⟩ gk_nil)))) (gb_box rfl rfl ⟨9, rfl⟩ (gb_box rfl rfl ⟨9, rfl⟩ (gb_rows 9 rfl rfl (fun _ => rfl) gb_nil)))
          · iterate 3 refine X.opR rfl rfl rfl ?_
            refine clone_int (r := l) (i := 3) h_4 rfl rfl rfl rfl rfl (fun z_11 => ?_)
            refine X.opR rfl (X.addE rfl rfl) rfl ?_
            refine X.opW (H' := [.rows 3 [(e_api_Water w)], .rows 2 [(e_api_Span s)], .dead, oblz z_11 1 V.i l, .rows 1 (List.map V.i ([w64 (s.Hi + 1)]))]) rfl rfl rfl rfl ?_
            refine X.appN (f := V.i) h_5 (fun _ => rfl) (by rfl) (by rfl) (by rfl) (by rfl) (by rfl) (by rfl) (by rfl) (by rfl) (by rfl) (by rfl) (by rfl) (by exact rfl) (by rfl) (by rfl) ?_
            refine X.opR rfl rfl rfl ?_
            refine GS.opsNil ?_
            exact X.gc [some 0, some 1, some 5] hg rfl rfl rfl (gk_cons rfl ⟨9, rfl⟩ (gk_cons rfl ⟨9, rfl⟩ (gk_cons rfl ⟨9, rfl⟩ (gk_cons rfl ⟨9, rfl⟩ gk_nil)))) (gb_box rfl rfl ⟨9, rfl⟩ (gb_box rfl rfl ⟨9, rfl⟩ (gb_rows 9 rfl rfl (fun _ => rfl) gb_nil)))
          · iterate 3 refine X.opR rfl rfl rfl ?_
            refine X.opR rfl (X.addE rfl rfl) rfl ?_
            refine clone_int (r := l) (i := 3) h_4 rfl rfl rfl rfl rfl (fun z_12 => ?_)
            refine X.opW (H' := [.rows 3 [(e_api_Water w)], .rows 2 [(e_api_Span s)], .dead, oblz z_12 1 V.i l, .rows 1 (List.map V.i ([w64 (s.Hi + 1)]))]) rfl rfl rfl rfl ?_
            refine X.appN (f := V.i) h_5 (fun _ => rfl) (by rfl) (by rfl) (by rfl) (by rfl) (by rfl) (by rfl) (by rfl) (by rfl) (by rfl) (by rfl) (by rfl) (by exact rfl) (by rfl) (by rfl) ?_
            refine X.opR rfl rfl rfl ?_
            refine GS.opsNil ?_
            exact X.gc [some 0, some 1, some 5] hg rfl rfl rfl (gk_cons rfl ⟨9, rfl⟩ (gk_cons rfl ⟨9, rfl⟩ (gk_cons rfl ⟨9, rfl⟩ (gk_cons rfl ⟨9, rfl⟩ gk_nil)))) (gb_box rfl rfl ⟨9, rfl⟩ (gb_box rfl rfl ⟨9, rfl⟩ (gb_rows 9 rfl rfl (fun _ => rfl) gb_nil)))
          · iterate 3 refine X.opR rfl rfl rfl ?_
            refine X.opR rfl (X.addE rfl rfl) rfl ?_
            refine X.opW rfl rfl rfl rfl ?_
            refine clone_int (r := l) (i := 4) h_4 rfl rfl rfl rfl rfl (fun z_13 => ?_)
            refine X.appN (f := V.i) h_5 (fun _ => rfl) (by rfl) (by rfl) (by rfl) (by rfl) (by rfl) (by rfl) (by rfl) (by rfl) (by rfl) (by rfl) (by rfl) (by exact rfl) (by rfl) (by rfl) ?_
            refine X.opR rfl rfl rfl ?_
            refine GS.opsNil ?_
            exact X.gc [some 0, some 1, some 5] hg rfl rfl rfl (gk_cons rfl ⟨9, rfl⟩ (gk_cons rfl ⟨9, rfl⟩ (gk_cons rfl ⟨9, rfl⟩ (gk_cons rfl ⟨9, rfl⟩ gk_nil)))) (gb_box rfl rfl ⟨9, rfl⟩ (gb_box rfl rfl ⟨9, rfl⟩ (gb_rows 9 rfl rfl (fun _ => rfl) gb_nil)))
          · iterate 2 refine X.opR rfl rfl rfl ?_
            refine X.opR rfl (X.addE rfl rfl) rfl ?_
            refine X.opR rfl rfl rfl ?_
            refine clone_int (r := l) (i := 3) h_4 rfl rfl rfl rfl rfl (fun z_14 => ?_)
            refine X.opW (H' := [.rows 3 [(e_api_Water w)], .rows 2 [(e_api_Span s)], .dead, oblz z_14 1 V.i l, .rows 1 (List.map V.i ([w64 (s.Hi + 1)]))]) rfl rfl rfl rfl ?_
            refine X.appN (f := V.i) h_5 (fun _ => rfl) (by rfl) (by rfl) (by rfl) (by rfl) (by rfl) (by rfl) (by rfl) (by rfl) (by rfl) (by rfl) (by rfl) (by exact rfl) (by rfl) (by rfl) ?_
            refine X.opR rfl rfl rfl ?_
            refine GS.opsNil ?_
            exact X.gc [some 0, some 1, some 5] hg rfl rfl rfl (gk_cons rfl ⟨9, rfl⟩ (gk_cons rfl ⟨9, rfl⟩ (gk_cons rfl ⟨9, rfl⟩ (gk_cons rfl ⟨9, rfl⟩ gk_nil)))) (gb_box rfl rfl ⟨9, rfl⟩ (gb_box rfl rfl ⟨9, rfl⟩ (gb_rows 9 rfl rfl (fun _ => rfl) gb_nil)))
          · iterate 2 refine X.opR rfl rfl rfl ?_
            refine X.opR rfl (X.addE rfl rfl) rfl ?_
            refine X.opR rfl rfl rfl ?_
            refine X.opW rfl rfl rfl rfl ?_
            refine clone_int (r := l) (i := 4) h_4 rfl rfl rfl rfl rfl (fun z_15 => ?_)
            refine X.appN (f := V.i) h_5 (fun _ => rfl) (by rfl) (by rfl) (by rfl) (by rfl) (by rfl) (by rfl) (by rfl) (by rfl) (by rfl) (by rfl) (by rfl) (by exact rfl) (by rfl) (by rfl) ?_
            refine X.opR rfl rfl rfl ?_
            refine GS.opsNil ?_
            exact X.gc [some 0, some 1, some 5] hg rfl rfl rfl (gk_cons rfl ⟨9, rfl⟩ (gk_cons rfl ⟨9, rfl⟩ (gk_cons rfl ⟨9, rfl⟩ (gk_cons rfl ⟨9, rfl⟩ gk_nil)))) (gb_box rfl rfl ⟨9, rfl⟩ (gb_box rfl rfl ⟨9, rfl⟩ (gb_rows 9 rfl rfl (fun _ => rfl) gb_nil)))
          · iterate 2 refine X.opR rfl rfl rfl ?_
            refine X.opR rfl (X.addE rfl rfl) rfl ?_
            refine X.opW rfl rfl rfl rfl ?_
            refine X.opR rfl rfl rfl ?_
            refine clone_int (r := l) (i := 4) h_4 rfl rfl rfl rfl rfl (fun z_16 => ?_)
            refine X.appN (f := V.i) h_5 (fun _ => rfl) (by rfl) (by rfl) (by rfl) (by rfl) (by rfl) (by rfl) (by rfl) (by rfl) (by rfl) (by rfl) (by rfl) (by exact rfl) (by rfl) (by rfl) ?_
            refine X.opR rfl rfl rfl ?_
            refine GS.opsNil ?_
            exact X.gc [some 0, some 1, some 5] hg rfl rfl rfl (gk_cons rfl ⟨9, rfl⟩ (gk_cons rfl ⟨9, rfl⟩ (gk_cons rfl ⟨9, rfl⟩ (gk_cons rfl ⟨9, rfl⟩ gk_nil)))) (gb_box rfl rfl ⟨9, rfl⟩ (gb_box rfl rfl ⟨9, rfl⟩ (gb_rows 9 rfl rfl (fun _ => rfl) gb_nil)))
        refine GS.seq ?_
        refine GS.region ?_
        iterate 3 refine X.opR rfl rfl rfl ?_
        refine GS.opsNil ?_
        refine GS.seq ?_
        obtain ⟨y1, h_6, hM⟩ := bind_of hM
        refine X.draw (by kernel_rfl) ?_
        iterate 2 refine X.dop rfl rfl rfl rfl (by kernel_rfl) rfl rfl ?_
        refine X.dcall (ok_tide_parts h_6) rfl rfl rfl (by kernel_rfl) rfl (.cons (.shut (n := 9) rfl) .nil) ?_
        iterate 2 refine X.dop rfl rfl rfl rfl (by kernel_rfl) rfl rfl ?_
        refine X.dop0 rfl rfl rfl rfl (by kernel_rfl) rfl ?_
        refine X.dnil ?_
        refine X.norm [(2, (V.i height)), (13, (V.osl 2 0 (List.length l1))), (14, (V.i s.Lo)), (15, (V.ptr 3 0 0))] ?_ rfl (W.sub_cons rfl (W.sub_cons rfl (W.sub_cons rfl (W.sub_cons rfl W.sub_nil))))
        refine GS.seq ?_
        refine GS.label ?_
        iterate 2 refine GS.seq ?_
        refine GS.region ?_
        refine X.opR rfl rfl rfl ?_
        refine X.opR rfl (X.lenO (l := l1) rfl rfl rfl) rfl ?_
        refine X.opR rfl rfl rfl ?_
        refine GS.opsNil ?_
        refine X.join (τ := Int) (fun v => tide_CheckProof_j2 v = some r) (fun v => ⟨[(14, (V.i v))], [], 0, none, 88⟩) ?_ ?_
        · intro from_ hM
          replace hM : tide_CheckProof_j2 from_ = some r := hM
          unfold tide_CheckProof_j2 at hM
          iterate 2 refine GS.seq ?_
          refine GS.region ?_
          iterate 2 refine X.opR rfl rfl rfl ?_
          refine GS.opsNil ?_
          refine X.cond rfl (fun h_7 => ?_) (fun h_7 => ?_)
          · replace hM := ite_t h_7 hM
            refine GS.seq ?_
            refine GS.region ?_
            refine X.opR rfl rfl rfl ?_
            refine GS.opsNil ?_
            have hE := Option.some.inj hM
            subst hE
            exact GS.ret ⟨_, rfl, ⟨30, rfl⟩⟩
          · replace hM := ite_f h_7 hM
            refine GS.skip ?_
            refine GS.seq ?_
            refine GS.region ?_
            refine X.opR rfl rfl rfl ?_
            refine GS.opsNil ?_
            have hE := Option.some.inj hM
            subst hE
            exact GS.ret ⟨_, rfl, ⟨30, rfl⟩⟩
        · intro hj_2
          refine GS.block ?_
          refine X.gc [some 3, some 2] (X.loop (σ := (Int × Int × (Option (List (Int × Int))))) (fun v => ⟨[(2, (V.i height)), (14, (V.i v.1)), (15, (V.ptr 0 0 0)), (60, (V.osl 1 0 (List.length l1))), (61, (V.i (l1.length : Int))), (62, (V.i v.2.1))], [.rows 5 [(V.agg [(V.i w.Level), (V.sl (List.map e_api_Cycle w.Cycles)), (V.sl (List.map e_api_Shift w.Shifts)), (e_parts y1), (e_mi v.2.2)])], .rows 1 (List.map V.i l1)], 0, none, 88⟩) hM ?_ rfl) rfl rfl rfl (gk_cons rfl ⟨9, rfl⟩ (gk_cons rfl ⟨9, rfl⟩ (gk_cons rfl ⟨9, rfl⟩ (gk_cons rfl ⟨9, rfl⟩ (gk_cons rfl ⟨9, rfl⟩ (gk_cons rfl ⟨9, rfl⟩ gk_nil)))))) (gb_box rfl rfl (rn_agg (.cons ⟨9, rfl⟩ (.cons ⟨9, rfl⟩ (.cons ⟨9, rfl⟩ (.cons ⟨9, rfl⟩ (.cons (rv_mi) .nil)))))) (gb_rows 9 rfl rfl (fun _ => rfl) gb_nil))
          rintro ⟨from_1, x1, lowest2⟩ b_1 hM hc_3 hr_1
          rw [tide_CheckProof_b3] at hM
          refine GS.seq ?_
          refine GS.region ?_
          refine X.opR rfl rfl rfl ?_
          refine GS.opsNil ?_
          refine GS.seq ?_
          refine X.cond rfl (fun h_8 => ?_) (fun h_8 => ?_)
          · replace hM := ite_t h_8 hM
            refine GS.skip ?_
            refine GS.seq ?_
            refine GS.block ?_
            refine GS.seq ?_
            obtain ⟨x, h_9, hM⟩ := bind_of hM
            refine GS.region ?_
            refine X.opR rfl (X.indexO h_9 rfl rfl rfl rfl rfl) rfl ?_
            refine X.opR rfl (X.loadO h_9 rfl rfl rfl rfl) rfl ?_
            refine X.opR rfl rfl rfl ?_
            refine GS.opsNil ?_
            refine GS.seq ?_
            refine GS.region ?_
            refine X.opR rfl rfl rfl ?_
            refine X.op0W rfl rfl rfl ?_
            refine GS.opsNil ?_
            iterate 2 refine GS.seq ?_
            refine GS.region ?_
            iterate 2 refine X.opR rfl rfl rfl ?_
            refine GS.opsNil ?_
            refine X.join (τ := (Option (List (Int × Int)))) (fun v => tide_CheckProof_j4 x1 x v = some b_1) (fun v => ⟨[(2, (V.i height)), (15, (V.ptr 0 0 0)), (17, (V.i x)), (60, (V.osl 1 0 (List.length l1))), (61, (V.i (l1.length : Int))), (62, (V.i x1))], [.rows 5 [(V.agg [(V.i w.Level), (V.sl (List.map e_api_Cycle w.Cycles)), (V.sl (List.map e_api_Shift w.Shifts)), (e_parts y1), (e_mi v)])], .rows 1 (List.map V.i l1)], 0, none, 88⟩) ?_ ?_
            · intro lowest hM
              replace hM : tide_CheckProof_j4 x1 x lowest = some b_1 := hM
              unfold tide_CheckProof_j4 at hM
              refine GS.region ?_
              iterate 2 refine X.opR rfl rfl rfl ?_
              refine GS.opsNil ?_
              refine GS.endB ?_
              refine GS.region ?_
              refine X.opR rfl (X.addE rfl rfl) rfl ?_
              refine X.opR rfl rfl rfl ?_
              refine GS.opsNil ?_
              have hE := Option.some.inj hM
              exact X.gc [some 0, some 1] (hc_3 (x, w64 (x1 + 1), lowest) hE.symm) rfl rfl rfl (gk_cons rfl ⟨9, rfl⟩ (gk_cons rfl ⟨9, rfl⟩ (gk_cons rfl ⟨9, rfl⟩ (gk_cons rfl ⟨9, rfl⟩ (gk_cons rfl ⟨9, rfl⟩ (gk_cons rfl ⟨9, rfl⟩ gk_nil)))))) (gb_box rfl rfl (rn_agg (.cons ⟨9, rfl⟩ (.cons ⟨9, rfl⟩ (.cons ⟨9, rfl⟩ (.cons ⟨9, rfl⟩ (.cons (rv_mi) .nil)))))) (gb_rows 9 rfl rfl (fun _ => rfl) gb_nil))
            · intro hj_4
              refine GS.block ?_
              refine X.gc [some 0, some 1] (X.loop (σ := (Int × (Option (List (Int × Int))))) (fun v => ⟨[(2, (V.i height)), (15, (V.ptr 0 0 0)), (17, (V.i x)), (18, (V.i v.1)), (60, (V.osl 1 0 (List.length l1))), (61, (V.i (l1.length : Int))), (62, (V.i x1))], [.rows 5 [(V.agg [(V.i w.Level), (V.sl (List.map e_api_Cycle w.Cycles)), (V.sl (List.map e_api_Shift w.Shifts)), (e_parts y1), (e_mi v.2)])], .rows 1 (List.map V.i l1)], 0, none, 88⟩) hM ?_ rfl) rfl rfl rfl (gk_cons rfl ⟨9, rfl⟩ (gk_cons rfl ⟨9, rfl⟩ (gk_cons rfl ⟨9, rfl⟩ (gk_cons rfl ⟨9, rfl⟩ (gk_cons rfl ⟨9, rfl⟩ (gk_cons rfl ⟨9, rfl⟩ (gk_cons rfl ⟨9, rfl⟩ gk_nil))))))) (gb_box rfl rfl (rn_agg (.cons ⟨9, rfl⟩ (.cons ⟨9, rfl⟩ (.cons ⟨9, rfl⟩ (.cons ⟨9, rfl⟩ (.cons (rv_mi) .nil)))))) (gb_rows 9 rfl rfl (fun _ => rfl) gb_nil))
              rintro ⟨t, lowest1⟩ b_2 hM hc_5 hr_2
              rw [tide_CheckProof_b5] at hM
              iterate 2 refine GS.seq ?_
              refine GS.region ?_
              iterate 3 refine X.opR rfl rfl rfl ?_
              refine GS.opsNil ?_
              refine X.cond rfl (fun h_10 => ?_) (fun h_10 => ?_)
              · replace hM := ite_t h_10 hM
                refine GS.skip ?_
                refine GS.seq ?_
                refine GS.block ?_
                refine GS.seq ?_
                obtain ⟨y2, h_11, hM⟩ := bind_of hM
                refine GS.region ?_
                iterate 2 refine X.opR rfl rfl rfl ?_
                refine X.call (ok_tide_floor_grown h_11) rfl rfl rfl (.cons (.shut (n := 9) (by rcases lowest1 with _ | _ <;> rfl)) (.cons (.shut (n := 9) rfl) .nil)) ?_
                iterate 5 refine X.opR rfl rfl rfl ?_
                refine GS.opsNil ?_
                iterate 2 refine GS.seq ?_
                refine GS.region ?_
                iterate 3 refine X.opR rfl rfl rfl ?_
                refine GS.opsNil ?_
                refine X.cond rfl (fun h_12 => ?_) (fun h_12 => ?_)
                · replace hM := ite_t h_12 hM
                  refine GS.seq ?_
                  refine GS.region ?_
                  refine X.opR rfl rfl rfl ?_
                  refine GS.opsNil ?_
                  refine GS.exit rfl ?_
                  obtain ⟨y_2, hM, hy⟩ := map_of hM
                  rw [hr_2 _ hy.symm] at hM
                  obtain ⟨y_1, hM, hy⟩ := map_of hM
                  rw [hr_1 _ hy.symm] at hM
                  exact X.gc [] (hj_2 (-1) hM) rfl rfl rfl (gk_cons rfl ⟨9, rfl⟩ gk_nil) (gb_nil)
                · replace hM := ite_f h_12 hM
                  refine GS.skip ?_
                  refine GS.region ?_
                  iterate 2 refine X.opR rfl rfl rfl ?_
                  refine X.op0W rfl (v := undefV) (wr := [(0, .rows 5 [(V.agg [(V.i w.Level), (V.sl (List.map e_api_Cycle w.Cycles)), (V.sl (List.map e_api_Shift w.Shifts)), (e_parts y1), (e_mi y2.2)])])]) (by rcases y2.2 with _ | _ <;> rfl) rfl ?_
                  refine GS.opsNil ?_
                  refine GS.endB ?_
                  refine GS.region ?_
                  refine X.opR rfl rfl rfl ?_
                  refine X.opR rfl (X.addE rfl rfl) rfl ?_
                  refine X.opR rfl rfl rfl ?_
                  refine GS.opsNil ?_
                  have hE := Option.some.inj hM
                  exact X.gc [some 0, some 1] (hc_5 (w64 (t + 1), y2.2) hE.symm) rfl rfl rfl (gk_cons rfl ⟨9, rfl⟩ (gk_cons rfl ⟨9, rfl⟩ (gk_cons rfl ⟨9, rfl⟩ (gk_cons rfl ⟨9, rfl⟩ (gk_cons rfl ⟨9, rfl⟩ (gk_cons rfl ⟨9, rfl⟩ (gk_cons rfl ⟨9, rfl⟩ gk_nil))))))) (gb_box rfl rfl (rn_agg (.cons ⟨9, rfl⟩ (.cons ⟨9, rfl⟩ (.cons ⟨9, rfl⟩ (.cons ⟨9, rfl⟩ (.cons (rv_mi) .nil)))))) (gb_rows 9 rfl rfl (fun _ => rfl) gb_nil))
              · replace hM := ite_f h_10 hM
                refine GS.exit rfl ?_
                obtain ⟨y_2, hM, hy⟩ := map_of hM
                rw [hr_2 _ hy.symm] at hM
                exact X.gc [some 0, some 1] (hj_4 lowest1 hM) rfl rfl rfl (gk_cons rfl ⟨9, rfl⟩ (gk_cons rfl ⟨9, rfl⟩ (gk_cons rfl ⟨9, rfl⟩ (gk_cons rfl ⟨9, rfl⟩ (gk_cons rfl ⟨9, rfl⟩ (gk_cons rfl ⟨9, rfl⟩ gk_nil)))))) (gb_box rfl rfl (rn_agg (.cons ⟨9, rfl⟩ (.cons ⟨9, rfl⟩ (.cons ⟨9, rfl⟩ (.cons ⟨9, rfl⟩ (.cons (rv_mi) .nil)))))) (gb_rows 9 rfl rfl (fun _ => rfl) gb_nil))
          · replace hM := ite_f h_8 hM
            refine GS.exit rfl ?_
            obtain ⟨y_1, hM, hy⟩ := map_of hM
            rw [hr_1 _ hy.symm] at hM
            exact X.gc [] (hj_2 from_1 hM) rfl rfl rfl (gk_cons rfl ⟨9, rfl⟩ gk_nil) (gb_nil)
      · intro hj_1
        refine GS.block ?_
        refine X.gc [some 0, some 1] (X.loop (σ := (Int × Int)) (fun v => ⟨[(2, (V.i height)), (3, (V.sl (List.map V.i cuts))), (4, (V.ptr 0 0 0)), (5, (V.ptr 1 0 0)), (10, (V.i v.1)), (32, (V.sl (List.map V.i cuts))), (33, (V.i (cuts.length : Int))), (34, (V.i v.2))], [.rows 3 [(e_api_Water w)], .rows 2 [(e_api_Span s)]], 0, none, 88⟩) hM ?_ rfl) rfl rfl rfl (gk_cons rfl ⟨9, rfl⟩ (gk_cons rfl ⟨9, rfl⟩ (gk_cons rfl ⟨9, rfl⟩ (gk_cons rfl ⟨9, rfl⟩ (gk_cons rfl ⟨9, rfl⟩ (gk_cons rfl ⟨9, rfl⟩ (gk_cons rfl ⟨9, rfl⟩ (gk_cons rfl ⟨9, rfl⟩ gk_nil)))))))) (gb_box rfl rfl ⟨9, rfl⟩ (gb_box rfl rfl ⟨9, rfl⟩ gb_nil))
        rintro ⟨last, x3⟩ b_1 hM hc_6 hr_1
        rw [tide_CheckProof_b6] at hM
        refine GS.seq ?_
        refine GS.region ?_
        refine X.opR rfl rfl rfl ?_
        refine GS.opsNil ?_
        refine GS.seq ?_
        refine X.cond rfl (fun h_13 => ?_) (fun h_13 => ?_)
        · replace hM := ite_t h_13 hM
          refine GS.skip ?_
          refine GS.seq ?_
          refine GS.block ?_
          refine GS.seq ?_
          obtain ⟨x2, h_14, hM⟩ := bind_of hM
          refine GS.region ?_
          refine X.opR rfl (X.indexF (f := V.i) h_14 (fun _ => rfl) rfl rfl rfl rfl) rfl ?_
          refine X.opR rfl (X.loadF h_14 rfl rfl rfl) rfl ?_
          refine X.opR rfl rfl rfl ?_
          refine GS.opsNil ?_
          iterate 2 refine GS.seq ?_
          refine GS.region ?_
          iterate 2 refine X.opR rfl rfl rfl ?_
          refine X.opR rfl (X.addE rfl rfl) rfl ?_
          iterate 2 refine X.opR rfl rfl rfl ?_
          refine X.call (ok_tide_within x2 (w64 (last + 1)) s.Hi) rfl rfl rfl (.cons (.shut (n := 9) rfl) (.cons (.shut (n := 9) rfl) (.cons (.shut (n := 9) rfl) .nil))) ?_
          refine X.opR rfl rfl rfl ?_
          refine GS.opsNil ?_
          refine X.cond rfl (fun h_15 => ?_) (fun h_15 => ?_)
          · replace hM := ite_t h_15 hM
            refine GS.seq ?_
            refine GS.region ?_
            refine X.opR rfl rfl rfl ?_
            refine GS.opsNil ?_
            have hE := Option.some.inj hM
            replace hE := hr_1 _ hE.symm
            subst hE
            exact GS.ret ⟨_, rfl, ⟨30, rfl⟩⟩
          · replace hM := ite_f h_15 hM
            refine GS.skip ?_
            refine GS.region ?_
            iterate 2 refine X.opR rfl rfl rfl ?_
            refine GS.opsNil ?_
            refine GS.endB ?_
            refine GS.region ?_
            refine X.opR rfl (X.addE rfl rfl) rfl ?_
            refine X.opR rfl rfl rfl ?_
            refine GS.opsNil ?_
            have hE := Option.some.inj hM
            exact X.gc [some 0, some 1] (hc_6 (x2, w64 (x3 + 1)) hE.symm) rfl rfl rfl (gk_cons rfl ⟨9, rfl⟩ (gk_cons rfl ⟨9, rfl⟩ (gk_cons rfl ⟨9, rfl⟩ (gk_cons rfl ⟨9, rfl⟩ (gk_cons rfl ⟨9, rfl⟩ (gk_cons rfl ⟨9, rfl⟩ (gk_cons rfl ⟨9, rfl⟩ (gk_cons rfl ⟨9, rfl⟩ gk_nil)))))))) (gb_box rfl rfl ⟨9, rfl⟩ (gb_box rfl rfl ⟨9, rfl⟩ gb_nil))
        · replace hM := ite_f h_13 hM
          refine GS.exit rfl ?_
          obtain ⟨y_1, hM, hy⟩ := map_of hM
          rw [hr_1 _ hy.symm] at hM
          exact X.gc [some 0, some 1] (hj_1 () hM) rfl rfl rfl (gk_cons rfl ⟨9, rfl⟩ (gk_cons rfl ⟨9, rfl⟩ (gk_cons rfl ⟨9, rfl⟩ (gk_cons rfl ⟨9, rfl⟩ gk_nil)))) (gb_box rfl rfl ⟨9, rfl⟩ (gb_box rfl rfl ⟨9, rfl⟩ gb_nil))

set_option maxHeartbeats 4000000 in
theorem ok_ref02_CheckProof {w : api_Water} {s : api_Span} {height : Int} {cuts : (List Int)} {r : Int} (hM : ref02_CheckProof w s height cuts = some r) : Ct Try.prog 53 [(e_api_Water w), (e_api_Span s), (V.i height), (V.sl (List.map V.i cuts))] (V.i r) := by
  refine ct_of_gs CC_ok rfl ?_
  unfold ref02_CheckProof at hM
  refine GS.seq ?_
  refine GS.region ?_
  iterate 2 refine X.opW rfl rfl rfl rfl ?_
  refine X.opR rfl rfl rfl ?_
  refine GS.opsNil ?_
  refine GS.seq ?_
  obtain ⟨y, h_1, hM⟩ := bind_of hM
  refine GS.region ?_
  iterate 2 refine X.opR rfl rfl rfl ?_
  refine X.call (ok_ref02_Watched h_1) rfl rfl rfl (.cons (.shut (n := 9) rfl) (.cons (.shut (n := 9) rfl) .nil)) ?_
  refine X.opR rfl rfl rfl ?_
  refine GS.opsNil ?_
  iterate 2 refine GS.seq ?_
  refine GS.region ?_
  iterate 2 refine X.opR rfl rfl rfl ?_
  refine GS.opsNil ?_
  refine X.cond rfl (fun h_2 => ?_) (fun h_2 => ?_)
  · replace hM := ite_t h_2 hM
    refine GS.seq ?_
    refine GS.region ?_
    iterate 2 refine X.opR rfl rfl rfl ?_
    refine GS.opsNil ?_
    have hE := Option.some.inj hM
    subst hE
    exact GS.ret ⟨_, rfl, ⟨30, rfl⟩⟩
  · replace hM := ite_f h_2 hM
    refine GS.skip ?_
    iterate 2 refine GS.seq ?_
    refine GS.region ?_
    refine X.opR rfl rfl rfl ?_
    refine X.opR rfl (X.lenF rfl rfl rfl) rfl ?_
    refine X.opR rfl rfl rfl ?_
    refine GS.opsNil ?_
    refine X.cond rfl (fun h_3 => ?_) (fun h_3 => ?_)
    · replace hM := ite_t h_3 hM
      refine GS.seq ?_
      refine GS.region ?_
      refine X.opR rfl rfl rfl ?_
      refine GS.opsNil ?_
      have hE := Option.some.inj hM
      subst hE
      exact GS.ret ⟨_, rfl, ⟨30, rfl⟩⟩
    · replace hM := ite_f h_3 hM
      refine GS.skip ?_
      iterate 2 refine GS.seq ?_
      refine GS.region ?_
      refine X.opR rfl rfl rfl ?_
      refine GS.opsNil ?_
      refine X.join (τ := Unit) (fun v => ref02_CheckProof_j1 w s height cuts = some r) (fun v => ⟨[(2, (V.i height)), (3, (V.sl (List.map V.i cuts))), (4, (V.ptr 0 0 0)), (5, (V.ptr 1 0 0))], [.rows 3 [(e_api_Water w)], .rows 2 [(e_api_Span s)]], 0, none, 107⟩) ?_ ?_
      · intro _ hM
        replace hM : ref02_CheckProof_j1 w s height cuts = some r := hM
        unfold ref02_CheckProof_j1 at hM
        refine GS.seq ?_
        refine GS.region ?_
        refine X.opR rfl rfl rfl ?_
        refine GS.opsNil ?_
        refine GS.seq ?_
        obtain ⟨y1, h_4, hM⟩ := bind_of hM
        refine GS.region ?_
        iterate 3 refine X.opR rfl rfl rfl ?_
        refine X.call (ok_ref02_bottomed h_4) rfl rfl rfl (.cons (.shut (n := 9) rfl) (.cons (.shut (n := 9) rfl) .nil)) ?_
        refine X.opW rfl rfl rfl rfl ?_
        refine X.op0W rfl rfl rfl ?_
        refine GS.opsNil ?_
        iterate 2 refine GS.seq ?_
        refine GS.region ?_
        iterate 2 refine X.opR rfl rfl rfl ?_
        refine X.opR rfl (X.addE rfl rfl) rfl ?_
        refine X.opR rfl rfl rfl ?_
        refine GS.opsNil ?_
        refine X.join (τ := Arr_7_int) (fun v => ref02_CheckProof_j2 w height v = some r) (fun v => ⟨[(2, (V.i height)), (4, (V.ptr 0 0 0)), (12, (V.ptr 1 0 0))], [.rows 3 [(e_api_Water w)], .rows 7 [(V.agg [(V.i v.a0), (V.i v.a1), (V.i v.a2), (V.i v.a3), (V.i v.a4), (V.i v.a5), (V.i v.a6)])]], 0, none, 107⟩) ?_ ?_
        · intro L hM
          replace hM : ref02_CheckProof_j2 w height L = some r := hM
          unfold ref02_CheckProof_j2 at hM
          iterate 2 refine GS.seq ?_
          obtain ⟨y2, h_5, hM⟩ := bind_of hM
          refine GS.region ?_
          iterate 2 refine X.opR rfl rfl rfl ?_
          refine X.call (ok_ref02_high h_5) rfl rfl rfl (.cons (.shut (n := 9) rfl) (.cons (.shut (n := 9) rfl) .nil)) ?_
          iterate 2 refine X.opR rfl rfl rfl ?_
          refine GS.opsNil ?_
          refine X.cond rfl (fun h_6 => ?_) (fun h_6 => ?_)
          · replace hM := ite_t h_6 hM
            refine GS.seq ?_
            refine GS.region ?_
            refine X.opR rfl rfl rfl ?_
            refine GS.opsNil ?_
            have hE := Option.some.inj hM
            subst hE
            exact GS.ret ⟨_, rfl, ⟨30, rfl⟩⟩
          · replace hM := ite_f h_6 hM
            refine GS.skip ?_
            refine GS.seq ?_
            refine GS.region ?_
            refine X.opR rfl rfl rfl ?_
            refine GS.opsNil ?_
            have hE := Option.some.inj hM
            subst hE
            exact GS.ret ⟨_, rfl, ⟨30, rfl⟩⟩
        · intro hj_2
          refine GS.block ?_
          refine X.gc [some 0, some 1, some 2] (X.loop (σ := (Int × Int × Arr_7_int)) (fun v => ⟨[(2, (V.i height)), (3, (V.sl (List.map V.i cuts))), (4, (V.ptr 0 0 0)), (5, (V.ptr 1 0 0)), (11, (V.i v.1)), (12, (V.ptr 2 0 0)), (13, (V.i v.2.1))], [.rows 3 [(e_api_Water w)], .rows 2 [(e_api_Span s)], .rows 7 [(V.agg [(V.i v.2.2.a0), (V.i v.2.2.a1), (V.i v.2.2.a2), (V.i v.2.2.a3), (V.i v.2.2.a4), (V.i v.2.2.a5), (V.i v.2.2.a6)])]], 0, none, 107⟩) hM ?_ rfl) rfl rfl rfl (gk_cons rfl ⟨9, rfl⟩ (gk_cons rfl ⟨9, rfl⟩ (gk_cons rfl ⟨9, rfl⟩ (gk_cons rfl ⟨9, rfl⟩ (gk_cons rfl ⟨9, rfl⟩ (gk_cons rfl ⟨9, rfl⟩ (gk_cons rfl ⟨9, rfl⟩ gk_nil))))))) (gb_box rfl rfl ⟨9, rfl⟩ (gb_box rfl rfl ⟨9, rfl⟩ (gb_box rfl rfl ⟨9, rfl⟩ gb_nil)))
          rintro ⟨k1, t, L2⟩ b_1 hM hc_3 hr_1
          rw [ref02_CheckProof_b3] at hM
          iterate 2 refine GS.seq ?_
          refine GS.region ?_
          iterate 4 refine X.opR rfl rfl rfl ?_
          refine GS.opsNil ?_
          refine X.cond rfl (fun h_7 => ?_) (fun h_7 => ?_)
          · replace hM := ite_t h_7 hM
            refine GS.skip ?_
            refine GS.seq ?_
            refine X.join (τ := Int × Arr_7_int) (fun v => ref02_CheckProof_j4 t v.1 v.2 = some b_1) (fun v => ⟨[(2, (V.i height)), (3, (V.sl (List.map V.i cuts))), (4, (V.ptr 0 0 0)), (5, (V.ptr 1 0 0)), (11, (V.i v.1)), (12, (V.ptr 2 0 0)), (13, (V.i t))], [.rows 3 [(e_api_Water w)], .rows 2 [(e_api_Span s)], .rows 7 [(V.agg [(V.i v.2.a0), (V.i v.2.a1), (V.i v.2.a2), (V.i v.2.a3), (V.i v.2.a4), (V.i v.2.a5), (V.i v.2.a6)])]], 0, none, 107⟩) ?_ ?_
            · rintro ⟨k, L1⟩ hM
              replace hM : ref02_CheckProof_j4 t k L1 = some b_1 := hM
              unfold ref02_CheckProof_j4 at hM
              refine GS.region ?_
              refine X.opR rfl rfl rfl ?_
              refine X.opR rfl (X.addE rfl rfl) rfl ?_
              refine X.opR rfl rfl rfl ?_
              refine GS.opsNil ?_
              have hE := Option.some.inj hM
              exact X.gc [some 0, some 1, some 2] (hc_3 (k, w64 (t + 1), L1) hE.symm) rfl rfl rfl (gk_cons rfl ⟨9, rfl⟩ (gk_cons rfl ⟨9, rfl⟩ (gk_cons rfl ⟨9, rfl⟩ (gk_cons rfl ⟨9, rfl⟩ (gk_cons rfl ⟨9, rfl⟩ (gk_cons rfl ⟨9, rfl⟩ (gk_cons rfl ⟨9, rfl⟩ gk_nil))))))) (gb_box rfl rfl ⟨9, rfl⟩ (gb_box rfl rfl ⟨9, rfl⟩ (gb_box rfl rfl ⟨9, rfl⟩ gb_nil)))
            · intro hj_4
              refine GS.block ?_
              refine GS.seq ?_
              obtain ⟨x, h_8, hM⟩ := gb_of hM
              refine GS.region ?_
              refine X.mid [(2, (V.i height)), (3, (V.sl (List.map V.i cuts))), (4, (V.ptr 0 0 0)), (5, (V.ptr 1 0 0)), (11, (V.i k1)), (12, (V.ptr 2 0 0)), (13, (V.i t)), (86, (V.b ((decide (k1 < (cuts.length : Int))) && (decide (x = t)))))] ?_ ?_
              · intro hg
                refine X.split (decide (k1 < (cuts.length : Int))) (fun h_9 => ?_) (fun h_9 => ?_)
                · iterate 2 refine X.opR rfl rfl rfl ?_
                  refine X.opR rfl (X.lenF rfl rfl rfl) rfl ?_
                  iterate 2 refine X.opR rfl rfl rfl ?_
                  iterate 2 refine X.opR (X.on_t rfl rfl rfl h_9) rfl rfl ?_
                  refine X.opR (X.on_t rfl rfl rfl h_9) (X.indexF (f := V.i) (h_8 h_9) (fun _ => rfl) rfl rfl rfl rfl) rfl ?_
                  refine X.opR (X.on_t rfl rfl rfl h_9) (X.loadF (h_8 h_9) rfl rfl rfl) rfl ?_
                  iterate 2 refine X.opR (X.on_t rfl rfl rfl h_9) rfl rfl ?_
                  refine X.opR rfl (X.pickand_t (y := decide (x = t)) rfl h_9 rfl) rfl ?_
                  refine GS.opsNil ?_
                  exact X.norm _ hg rfl (W.sub_cons rfl (W.sub_cons rfl (W.sub_cons rfl (W.sub_cons rfl (W.sub_cons rfl (W.sub_cons rfl (W.sub_cons rfl (W.sub_cons rfl W.sub_nil))))))))
                · iterate 2 refine X.opR rfl rfl rfl ?_
                  refine X.opR rfl (X.lenF rfl rfl rfl) rfl ?_
                  iterate 2 refine X.opR rfl rfl rfl ?_
                  iterate 6 refine X.off (X.off_t rfl rfl rfl h_9) rfl ?_
                  refine X.opR rfl (X.pickand_f (y := decide (x = t)) rfl h_9 rfl) rfl ?_
                  refine GS.opsNil ?_
                  exact X.norm _ hg rfl (W.sub_cons rfl (W.sub_cons rfl (W.sub_cons rfl (W.sub_cons rfl (W.sub_cons rfl (W.sub_cons rfl (W.sub_cons rfl (W.sub_cons rfl W.sub_nil))))))))
              refine X.cond rfl (fun h_10 => ?_) (fun h_10 => ?_)
              · replace hM := ite_t h_10 hM
                iterate 2 refine GS.seq ?_
                obtain ⟨y3, h_11, hM⟩ := bind_of hM
                refine GS.region ?_
                iterate 2 refine X.opR rfl rfl rfl ?_
                refine X.call (ok_ref02_high h_11) rfl rfl rfl (.cons (.shut (n := 9) rfl) (.cons (.shut (n := 9) rfl) .nil)) ?_
                iterate 2 refine X.opR rfl rfl rfl ?_
                refine GS.opsNil ?_
                refine X.cond rfl (fun h_12 => ?_) (fun h_12 => ?_)
                · replace hM := ite_t h_12 hM
                  refine GS.seq ?_
                  refine GS.region ?_
                  refine X.opR rfl rfl rfl ?_
                  refine GS.opsNil ?_
                  have hE := Option.some.inj hM
                  replace hE := hr_1 _ hE.symm
                  subst hE
                  exact GS.ret ⟨_, rfl, ⟨30, rfl⟩⟩
                · replace hM := ite_f h_12 hM
                  refine GS.skip ?_
                  refine GS.seq ?_
                  obtain ⟨y4, h_13, hM⟩ := bind_of hM
                  refine GS.region ?_
                  iterate 2 refine X.opR rfl rfl rfl ?_
                  refine X.call (ok_ref02_bottomed h_13) rfl rfl rfl (.cons (.shut (n := 9) rfl) (.cons (.shut (n := 9) rfl) .nil)) ?_
                  refine X.op0W rfl rfl rfl ?_
                  refine GS.opsNil ?_
                  refine GS.region ?_
                  refine X.opR rfl rfl rfl ?_
                  refine X.opR rfl (X.addE rfl rfl) rfl ?_
                  refine X.opR rfl rfl rfl ?_
                  refine GS.opsNil ?_
                  refine GS.endB ?_
                  exact X.gc [some 0, some 1, some 2] (hj_4 (w64 (k1 + 1), y4.L) hM) rfl rfl rfl (gk_cons rfl ⟨9, rfl⟩ (gk_cons rfl ⟨9, rfl⟩ (gk_cons rfl ⟨9, rfl⟩ (gk_cons rfl ⟨9, rfl⟩ (gk_cons rfl ⟨9, rfl⟩ (gk_cons rfl ⟨9, rfl⟩ (gk_cons rfl ⟨9, rfl⟩ gk_nil))))))) (gb_box rfl rfl ⟨9, rfl⟩ (gb_box rfl rfl ⟨9, rfl⟩ (gb_box rfl rfl ⟨9, rfl⟩ gb_nil)))
              · replace hM := ite_f h_10 hM
                obtain ⟨y5, h_14, hM⟩ := bind_of hM
                obtain ⟨y6, h_15, hM⟩ := bind_of hM
                refine X.draw (by kernel_rfl) ?_
                iterate 3 refine X.dop rfl rfl rfl rfl (by kernel_rfl) rfl rfl ?_
                refine X.dcall (ok_ref02_bottomed h_14) rfl rfl rfl (by kernel_rfl) rfl (.cons (.shut (n := 9) rfl) (.cons (.shut (n := 9) rfl) .nil)) ?_
                refine X.dcall (ok_ref02_lower h_15) rfl rfl rfl (by kernel_rfl) rfl (.cons (.shut (n := 9) rfl) (.cons (.shut (n := 9) rfl) .nil)) ?_
                refine X.dop0 rfl rfl rfl rfl (by kernel_rfl) rfl ?_
                refine X.dnil ?_
                refine X.norm [(2, (V.i height)), (3, (V.sl (List.map V.i cuts))), (4, (V.ptr 0 0 0)), (5, (V.ptr 1 0 0)), (11, (V.i k1)), (12, (V.ptr 2 0 0)), (13, (V.i t))] ?_ rfl (W.sub_cons rfl (W.sub_cons rfl (W.sub_cons rfl (W.sub_cons rfl (W.sub_cons rfl (W.sub_cons rfl (W.sub_cons rfl W.sub_nil)))))))
                refine GS.endB ?_
                exact X.gc [some 0, some 1, some 2] (hj_4 (k1, y6.L) hM) rfl rfl rfl (gk_cons rfl ⟨9, rfl⟩ (gk_cons rfl ⟨9, rfl⟩ (gk_cons rfl ⟨9, rfl⟩ (gk_cons rfl ⟨9, rfl⟩ (gk_cons rfl ⟨9, rfl⟩ (gk_cons rfl ⟨9, rfl⟩ (gk_cons rfl ⟨9, rfl⟩ gk_nil))))))) (gb_box rfl rfl ⟨9, rfl⟩ (gb_box rfl rfl ⟨9, rfl⟩ (gb_box rfl rfl ⟨9, rfl⟩ gb_nil)))
          · replace hM := ite_f h_7 hM
            refine GS.exit rfl ?_
            obtain ⟨y_1, hM, hy⟩ := map_of hM
            rw [hr_1 _ hy.symm] at hM
            exact X.gc [some 0, some 2] (hj_2 L2 hM) rfl rfl rfl (gk_cons rfl ⟨9, rfl⟩ (gk_cons rfl ⟨9, rfl⟩ (gk_cons rfl ⟨9, rfl⟩ gk_nil))) (gb_box rfl rfl ⟨9, rfl⟩ (gb_box rfl rfl ⟨9, rfl⟩ gb_nil))
      · intro hj_1
        refine GS.block ?_
        refine X.gc [some 0, some 1] (X.loop (σ := Int) (fun v => ⟨[(2, (V.i height)), (3, (V.sl (List.map V.i cuts))), (4, (V.ptr 0 0 0)), (5, (V.ptr 1 0 0)), (10, (V.i v))], [.rows 3 [(e_api_Water w)], .rows 2 [(e_api_Span s)]], 0, none, 107⟩) hM ?_ rfl) rfl rfl rfl (gk_cons rfl ⟨9, rfl⟩ (gk_cons rfl ⟨9, rfl⟩ (gk_cons rfl ⟨9, rfl⟩ (gk_cons rfl ⟨9, rfl⟩ (gk_cons rfl ⟨9, rfl⟩ gk_nil))))) (gb_box rfl rfl ⟨9, rfl⟩ (gb_box rfl rfl ⟨9, rfl⟩ gb_nil))
        intro i b_1 hM hc_5 hr_1
        rw [ref02_CheckProof_b5] at hM
        iterate 2 refine GS.seq ?_
        refine GS.region ?_
        iterate 2 refine X.opR rfl rfl rfl ?_
        refine X.opR rfl (X.lenF rfl rfl rfl) rfl ?_
        refine X.opR rfl rfl rfl ?_
        refine GS.opsNil ?_
        refine X.cond rfl (fun h_16 => ?_) (fun h_16 => ?_)
        · replace hM := ite_t h_16 hM
          refine GS.skip ?_
          refine GS.seq ?_
          refine GS.block ?_
          refine GS.seq ?_
          obtain ⟨x1, h_17, hM⟩ := bind_of hM
          obtain ⟨x2, h_18, hM⟩ := gb_of hM
          obtain ⟨x3, h_19, hM⟩ := gb_of hM
          obtain ⟨x4, h_20, hM⟩ := gb_of hM
          refine X.mid [(2, (V.i height)), (3, (V.sl (List.map V.i cuts))), (4, (V.ptr 0 0 0)), (5, (V.ptr 1 0 0)), (10, (V.i i)), (61, (V.b (((decide (x1 ≤ s.Lo)) || (decide (s.Hi < x2))) || ((decide (0 < i)) && (decide (x3 ≤ x4))))))] ?_ ?_
          · intro hg
            refine X.split (decide (x1 ≤ s.Lo)) (fun h_21 => ?_) (fun h_21 => ?_)
            · refine X.drawc (by kernel_rfl) rfl ?_
              iterate 2 refine X.cop rfl rfl rfl rfl ?_
              refine X.cop rfl (X.indexF (f := V.i) h_17 (fun _ => rfl) rfl rfl rfl rfl) rfl rfl ?_
              refine X.cop rfl (X.loadF h_17 rfl rfl rfl) rfl rfl ?_
              iterate 4 refine X.cop rfl rfl rfl rfl ?_
              iterate 7 refine X.coff (X.off_f rfl rfl rfl h_21) rfl rfl ?_
              refine X.cop rfl (X.pickor_t (y := decide (s.Hi < x2)) rfl h_21 rfl) rfl rfl ?_
              refine X.cop rfl rfl rfl rfl ?_
              iterate 3 refine X.coff (X.off_f rfl rfl rfl (X.or_tt h_21)) rfl rfl ?_
              iterate 11 refine X.coff rfl rfl rfl ?_
              refine X.coff (X.off_f rfl rfl rfl (X.or_tt h_21)) rfl rfl ?_
              refine X.cop rfl (X.pickor_t (y := ((decide (0 < i)) && (decide (x3 ≤ x4)))) rfl (X.or_tt h_21) rfl) rfl rfl ?_
              refine X.cnil ?_
              exact X.norm _ hg rfl (W.sub_cons rfl (W.sub_cons rfl (W.sub_cons rfl (W.sub_cons rfl (W.sub_cons rfl (W.sub_cons rfl W.sub_nil))))))
            · refine X.split (((decide (x1 ≤ s.Lo)) || (decide (s.Hi < x2)))) (fun h_22 => ?_) (fun h_22 => ?_)
              · refine X.drawc (by kernel_rfl) rfl ?_
                iterate 2 refine X.cop rfl rfl rfl rfl ?_
                refine X.cop rfl (X.indexF (f := V.i) h_17 (fun _ => rfl) rfl rfl rfl rfl) rfl rfl ?_
                refine X.cop rfl (X.loadF h_17 rfl rfl rfl) rfl rfl ?_
                iterate 4 refine X.cop rfl rfl rfl rfl ?_
                iterate 2 refine X.cop (X.on_f rfl rfl rfl h_21) rfl rfl rfl ?_
                refine X.cop (X.on_f rfl rfl rfl h_21) (X.indexF (f := V.i) (h_18 (X.nt h_21)) (fun _ => rfl) rfl rfl rfl rfl) rfl rfl ?_
                refine X.cop (X.on_f rfl rfl rfl h_21) (X.loadF (h_18 (X.nt h_21)) rfl rfl rfl) rfl rfl ?_
                iterate 3 refine X.cop (X.on_f rfl rfl rfl h_21) rfl rfl rfl ?_
                refine X.cop rfl (X.pickor_f (y := decide (s.Hi < x2)) rfl h_21 rfl) rfl rfl ?_
                refine X.cop rfl rfl rfl rfl ?_
                iterate 3 refine X.coff (X.off_f rfl rfl rfl h_22) rfl rfl ?_
                iterate 11 refine X.coff rfl rfl rfl ?_
                refine X.coff (X.off_f rfl rfl rfl h_22) rfl rfl ?_
                refine X.cop rfl (X.pickor_t (y := ((decide (0 < i)) && (decide (x3 ≤ x4)))) rfl h_22 rfl) rfl rfl ?_
                refine X.cnil ?_
                exact X.norm _ hg rfl (W.sub_cons rfl (W.sub_cons rfl (W.sub_cons rfl (W.sub_cons rfl (W.sub_cons rfl (W.sub_cons rfl W.sub_nil))))))
              · refine X.split (decide (0 < i)) (fun h_23 => ?_) (fun h_23 => ?_)
                · refine X.drawc (by kernel_rfl) rfl ?_
                  iterate 2 refine X.cop rfl rfl rfl rfl ?_
                  refine X.cop rfl (X.indexF (f := V.i) h_17 (fun _ => rfl) rfl rfl rfl rfl) rfl rfl ?_
                  refine X.cop rfl (X.loadF h_17 rfl rfl rfl) rfl rfl ?_
                  iterate 4 refine X.cop rfl rfl rfl rfl ?_
                  iterate 2 refine X.cop (X.on_f rfl rfl rfl h_21) rfl rfl rfl ?_
                  refine X.cop (X.on_f rfl rfl rfl h_21) (X.indexF (f := V.i) (h_18 (X.nt h_21)) (fun _ => rfl) rfl rfl rfl rfl) rfl rfl ?_
                  refine X.cop (X.on_f rfl rfl rfl h_21) (X.loadF (h_18 (X.nt h_21)) rfl rfl rfl) rfl rfl ?_
                  iterate 3 refine X.cop (X.on_f rfl rfl rfl h_21) rfl rfl rfl ?_
                  refine X.cop rfl (X.pickor_f (y := decide (s.Hi < x2)) rfl h_21 rfl) rfl rfl ?_
                  refine X.cop rfl rfl rfl rfl ?_
                  iterate 3 refine X.cop (X.on_f rfl rfl rfl h_22) rfl rfl rfl ?_
                  iterate 2 refine X.cop (X.on_t rfl rfl rfl h_23) rfl rfl rfl ?_
                  refine X.cop (X.on_t rfl rfl rfl h_23) (X.indexF (f := V.i) (h_19 (X.and_tt (X.nt h_22) h_23)) (fun _ => rfl) rfl rfl rfl rfl) rfl rfl ?_
                  refine X.cop (X.on_t rfl rfl rfl h_23) (X.loadF (h_19 (X.and_tt (X.nt h_22) h_23)) rfl rfl rfl) rfl rfl ?_
                  iterate 2 refine X.cop (X.on_t rfl rfl rfl h_23) rfl rfl rfl ?_
                  refine X.cop (X.on_t rfl rfl rfl h_23) (X.subE rfl rfl) rfl rfl ?_
                  refine X.cop (X.on_t rfl rfl rfl h_23) (X.maxE rfl rfl) rfl rfl ?_
                  refine X.cop (X.on_t rfl rfl rfl h_23) (X.indexF (f := V.i) (h_20 (X.and_tt (X.nt h_22) h_23)) (fun _ => rfl) rfl rfl rfl rfl) rfl rfl ?_
                  refine X.cop (X.on_t rfl rfl rfl h_23) (X.loadF (h_20 (X.and_tt (X.nt h_22) h_23)) rfl rfl rfl) rfl rfl ?_
                  refine X.cop (X.on_t rfl rfl rfl h_23) rfl rfl rfl ?_
                  refine X.cop (X.on_f rfl rfl rfl h_22) (X.pickand_t (y := decide (x3 ≤ x4)) rfl h_23 rfl) rfl rfl ?_
                  refine X.cop rfl (X.pickor_f (y := ((decide (0 < i)) && (decide (x3 ≤ x4)))) rfl h_22 rfl) rfl rfl ?_
                  refine X.cnil ?_
                  exact X.norm _ hg rfl (W.sub_cons rfl (W.sub_cons rfl (W.sub_cons rfl (W.sub_cons rfl (W.sub_cons rfl (W.sub_cons rfl W.sub_nil))))))
                · refine X.drawc (by kernel_rfl) rfl ?_
                  iterate 2 refine X.cop rfl rfl rfl rfl ?_
                  refine X.cop rfl (X.indexF (f := V.i) h_17 (fun _ => rfl) rfl rfl rfl rfl) rfl rfl ?_
                  refine X.cop rfl (X.loadF h_17 rfl rfl rfl) rfl rfl ?_
                  iterate 4 refine X.cop rfl rfl rfl rfl ?_
                  iterate 2 refine X.cop (X.on_f rfl rfl rfl h_21) rfl rfl rfl ?_
                  refine X.cop (X.on_f rfl rfl rfl h_21) (X.indexF (f := V.i) (h_18 (X.nt h_21)) (fun _ => rfl) rfl rfl rfl rfl) rfl rfl ?_
                  refine X.cop (X.on_f rfl rfl rfl h_21) (X.loadF (h_18 (X.nt h_21)) rfl rfl rfl) rfl rfl ?_
                  iterate 3 refine X.cop (X.on_f rfl rfl rfl h_21) rfl rfl rfl ?_
                  refine X.cop rfl (X.pickor_f (y := decide (s.Hi < x2)) rfl h_21 rfl) rfl rfl ?_
                  refine X.cop rfl rfl rfl rfl ?_
                  iterate 3 refine X.cop (X.on_f rfl rfl rfl h_22) rfl rfl rfl ?_
                  iterate 11 refine X.coff (X.off_t rfl rfl rfl h_23) rfl rfl ?_
                  refine X.cop (X.on_f rfl rfl rfl h_22) (X.pickand_f (y := decide (x3 ≤ x4)) rfl h_23 rfl) rfl rfl ?_
                  refine X.cop rfl (X.pickor_f (y := ((decide (0 < i)) && (decide (x3 ≤ x4)))) rfl h_22 rfl) rfl rfl ?_
                  refine X.cnil ?_
                  exact X.norm _ hg rfl (W.sub_cons rfl (W.sub_cons rfl (W.sub_cons rfl (W.sub_cons rfl (W.sub_cons rfl (W.sub_cons rfl W.sub_nil))))))
          refine X.cond rfl (fun h_24 => ?_) (fun h_24 => ?_)
          · replace hM := ite_t h_24 hM
            refine GS.seq ?_
            refine GS.region ?_
            refine X.opR rfl rfl rfl ?_
            refine GS.opsNil ?_
            have hE := Option.some.inj hM
            replace hE := hr_1 _ hE.symm
            subst hE
            exact GS.ret ⟨_, rfl, ⟨30, rfl⟩⟩
          · replace hM := ite_f h_24 hM
            refine GS.skip ?_
            refine GS.endB ?_
            refine GS.region ?_
            refine X.opR rfl rfl rfl ?_
            refine X.opR rfl (X.addE rfl rfl) rfl ?_
            refine X.opR rfl rfl rfl ?_
            refine GS.opsNil ?_
            have hE := Option.some.inj hM
            exact X.gc [some 0, some 1] (hc_5 (w64 (i + 1)) hE.symm) rfl rfl rfl (gk_cons rfl ⟨9, rfl⟩ (gk_cons rfl ⟨9, rfl⟩ (gk_cons rfl ⟨9, rfl⟩ (gk_cons rfl ⟨9, rfl⟩ (gk_cons rfl ⟨9, rfl⟩ gk_nil))))) (gb_box rfl rfl ⟨9, rfl⟩ (gb_box rfl rfl ⟨9, rfl⟩ gb_nil))
        · replace hM := ite_f h_16 hM
          refine GS.exit rfl ?_
          obtain ⟨y_1, hM, hy⟩ := map_of hM
          rw [hr_1 _ hy.symm] at hM
          exact X.gc [some 0, some 1] (hj_1 () hM) rfl rfl rfl (gk_cons rfl ⟨9, rfl⟩ (gk_cons rfl ⟨9, rfl⟩ (gk_cons rfl ⟨9, rfl⟩ (gk_cons rfl ⟨9, rfl⟩ gk_nil)))) (gb_box rfl rfl ⟨9, rfl⟩ (gb_box rfl rfl ⟨9, rfl⟩ gb_nil))

set_option maxHeartbeats 4000000 in
theorem ok_law02_TideProves {w : api_Water} {s : api_Span} {height : Int} {cuts : (List Int)} {r : Bool} (hM : law02_TideProves w s height cuts = some r) : Ct Try.prog 14 [(e_api_Water w), (e_api_Span s), (V.i height), (V.sl (List.map V.i cuts))] (V.b r) := by
  refine ct_of_gs CC_ok rfl ?_
  unfold law02_TideProves at hM
  refine GS.seq ?_
  refine GS.region ?_
  iterate 2 refine X.opW rfl rfl rfl rfl ?_
  refine X.opR rfl rfl rfl ?_
  refine GS.opsNil ?_
  iterate 2 refine GS.seq ?_
  obtain ⟨y, h_1, hM⟩ := bind_of hM
  refine GS.region ?_
  refine X.mid [(2, (V.i height)), (3, (V.sl (List.map V.i cuts))), (4, (V.ptr 0 0 0)), (5, (V.ptr 1 0 0)), (34, (V.b ((((!y) || (!(law02_short s))) || ((decide (60 < (cuts.length : Int))) && (decide ((cuts.length : Int) ≤ 2000)))) || (decide (3000 < (cuts.length : Int))))))] ?_ ?_
  · intro hg
    refine X.split (!y) (fun h_2 => ?_) (fun h_2 => ?_)
    · refine X.opR rfl rfl rfl ?_
      refine X.call (ok_law02_few h_1) rfl rfl rfl (.cons (.shut (n := 9) rfl) .nil) ?_
      iterate 2 refine X.opR rfl rfl rfl ?_
      iterate 3 refine X.off (X.off_f rfl rfl rfl h_2) rfl ?_
      refine X.opR rfl (X.pickor_t (y := !(law02_short s)) rfl h_2 rfl) rfl ?_
      refine X.opR rfl rfl rfl ?_
      iterate 4 refine X.off (X.off_f rfl rfl rfl (X.or_tt h_2)) rfl ?_
      iterate 3 refine X.off rfl rfl ?_
      refine X.off (X.off_f rfl rfl rfl (X.or_tt h_2)) rfl ?_
      refine X.opR rfl (X.pickor_t (y := ((decide (60 < (cuts.length : Int))) && (decide ((cuts.length : Int) ≤ 2000)))) rfl (X.or_tt h_2) rfl) rfl ?_
      refine X.opR rfl rfl rfl ?_
      iterate 3 refine X.off (X.off_f rfl rfl rfl (X.or_tt (X.or_tt h_2))) rfl ?_
      refine X.opR rfl (X.pickor_t (y := decide (3000 < (cuts.length : Int))) rfl (X.or_tt (X.or_tt h_2)) rfl) rfl ?_
      refine GS.opsNil ?_
      exact X.norm _ hg rfl (W.sub_cons rfl (W.sub_cons rfl (W.sub_cons rfl (W.sub_cons rfl (W.sub_cons rfl W.sub_nil)))))
    · refine X.split (((!y) || (!(law02_short s)))) (fun h_3 => ?_) (fun h_3 => ?_)
      · refine X.opR rfl rfl rfl ?_
        refine X.call (ok_law02_few h_1) rfl rfl rfl (.cons (.shut (n := 9) rfl) .nil) ?_
        iterate 2 refine X.opR rfl rfl rfl ?_
        refine X.opR (X.on_f rfl rfl rfl h_2) rfl rfl ?_
        refine X.call (ok_law02_short s) (X.on_f rfl rfl rfl h_2) rfl rfl (.cons (.shut (n := 9) rfl) .nil) ?_
        refine X.opR (X.on_f rfl rfl rfl h_2) rfl rfl ?_
        refine X.opR rfl (X.pickor_f (y := !(law02_short s)) rfl h_2 rfl) rfl ?_
        refine X.opR rfl rfl rfl ?_
        iterate 4 refine X.off (X.off_f rfl rfl rfl h_3) rfl ?_
        iterate 3 refine X.off rfl rfl ?_
        refine X.off (X.off_f rfl rfl rfl h_3) rfl ?_
        refine X.opR rfl (X.pickor_t (y := ((decide (60 < (cuts.length : Int))) && (decide ((cuts.length : Int) ≤ 2000)))) rfl h_3 rfl) rfl ?_
        refine X.opR rfl rfl rfl ?_
        iterate 3 refine X.off (X.off_f rfl rfl rfl (X.or_tt h_3)) rfl ?_
        refine X.opR rfl (X.pickor_t (y := decide (3000 < (cuts.length : Int))) rfl (X.or_tt h_3) rfl) rfl ?_
        refine GS.opsNil ?_
        exact X.norm _ hg rfl (W.sub_cons rfl (W.sub_cons rfl (W.sub_cons rfl (W.sub_cons rfl (W.sub_cons rfl W.sub_nil)))))
      · refine X.split (decide (60 < (cuts.length : Int))) (fun h_4 => ?_) (fun h_4 => ?_)
        · refine X.split ((((!y) || (!(law02_short s))) || ((decide (60 < (cuts.length : Int))) && (decide ((cuts.length : Int) ≤ 2000))))) (fun h_5 => ?_) (fun h_5 => ?_)
          · refine X.opR rfl rfl rfl ?_
            refine X.call (ok_law02_few h_1) rfl rfl rfl (.cons (.shut (n := 9) rfl) .nil) ?_
            iterate 2 refine X.opR rfl rfl rfl ?_
            refine X.opR (X.on_f rfl rfl rfl h_2) rfl rfl ?_
            refine X.call (ok_law02_short s) (X.on_f rfl rfl rfl h_2) rfl rfl (.cons (.shut (n := 9) rfl) .nil) ?_
            refine X.opR (X.on_f rfl rfl rfl h_2) rfl rfl ?_
            refine X.opR rfl (X.pickor_f (y := !(law02_short s)) rfl h_2 rfl) rfl ?_
            refine X.opR rfl rfl rfl ?_
            refine X.opR (X.on_f rfl rfl rfl h_3) rfl rfl ?_
            refine X.opR (X.on_f rfl rfl rfl h_3) (X.lenF rfl rfl rfl) rfl ?_
            iterate 2 refine X.opR (X.on_f rfl rfl rfl h_3) rfl rfl ?_
            refine X.opR (X.on_t rfl rfl rfl h_4) rfl rfl ?_
            refine X.opR (X.on_t rfl rfl rfl h_4) (X.lenF rfl rfl rfl) rfl ?_
            refine X.opR (X.on_t rfl rfl rfl h_4) rfl rfl ?_
            refine X.opR (X.on_f rfl rfl rfl h_3) (X.pickand_t (y := decide ((cuts.length : Int) ≤ 2000)) rfl h_4 rfl) rfl ?_
            refine X.opR rfl (X.pickor_f (y := ((decide (60 < (cuts.length : Int))) && (decide ((cuts.length : Int) ≤ 2000)))) rfl h_3 rfl) rfl ?_
            refine X.opR rfl rfl rfl ?_
            iterate 3 refine X.off (X.off_f rfl rfl rfl h_5) rfl ?_
            refine X.opR rfl (X.pickor_t (y := decide (3000 < (cuts.length : Int))) rfl h_5 rfl) rfl ?_
            refine GS.opsNil ?_
            exact X.norm _ hg rfl (W.sub_cons rfl (W.sub_cons rfl (W.sub_cons rfl (W.sub_cons rfl (W.sub_cons rfl W.sub_nil)))))
          · refine X.opR rfl rfl rfl ?_
            refine X.call (ok_law02_few h_1) rfl rfl rfl (.cons (.shut (n := 9) rfl) .nil) ?_
            iterate 2 refine X.opR rfl rfl rfl ?_
            refine X.opR (X.on_f rfl rfl rfl h_2) rfl rfl ?_
            refine X.call (ok_law02_short s) (X.on_f rfl rfl rfl h_2) rfl rfl (.cons (.shut (n := 9) rfl) .nil) ?_
            refine X.opR (X.on_f rfl rfl rfl h_2) rfl rfl ?_
            refine X.opR rfl (X.pickor_f (y := !(law02_short s)) rfl h_2 rfl) rfl ?_
            refine X.opR rfl rfl rfl ?_
            refine X.opR (X.on_f rfl rfl rfl h_3) rfl rfl ?_
            refine X.opR (X.on_f rfl rfl rfl h_3) (X.lenF rfl rfl rfl) rfl ?_
            iterate 2 refine X.opR (X.on_f rfl rfl rfl h_3) rfl rfl ?_
            refine X.opR (X.on_t rfl rfl rfl h_4) rfl rfl ?_
            refine X.opR (X.on_t rfl rfl rfl h_4) (X.lenF rfl rfl rfl) rfl ?_
            refine X.opR (X.on_t rfl rfl rfl h_4) rfl rfl ?_
            refine X.opR (X.on_f rfl rfl rfl h_3) (X.pickand_t (y := decide ((cuts.length : Int) ≤ 2000)) rfl h_4 rfl) rfl ?_
            refine X.opR rfl (X.pickor_f (y := ((decide (60 < (cuts.length : Int))) && (decide ((cuts.length : Int) ≤ 2000)))) rfl h_3 rfl) rfl ?_
            refine X.opR rfl rfl rfl ?_
            refine X.opR (X.on_f rfl rfl rfl h_5) rfl rfl ?_
            refine X.opR (X.on_f rfl rfl rfl h_5) (X.lenF rfl rfl rfl) rfl ?_
            refine X.opR (X.on_f rfl rfl rfl h_5) rfl rfl ?_
            refine X.opR rfl (X.pickor_f (y := decide (3000 < (cuts.length : Int))) rfl h_5 rfl) rfl ?_
            refine GS.opsNil ?_
            exact X.norm _ hg rfl (W.sub_cons rfl (W.sub_cons rfl (W.sub_cons rfl (W.sub_cons rfl (W.sub_cons rfl W.sub_nil)))))
        · refine X.opR rfl rfl rfl ?_
          refine X.call (ok_law02_few h_1) rfl rfl rfl (.cons (.shut (n := 9) rfl) .nil) ?_
          iterate 2 refine X.opR rfl rfl rfl ?_
          refine X.opR (X.on_f rfl rfl rfl h_2) rfl rfl ?_
          refine X.call (ok_law02_short s) (X.on_f rfl rfl rfl h_2) rfl rfl (.cons (.shut (n := 9) rfl) .nil) ?_
          refine X.opR (X.on_f rfl rfl rfl h_2) rfl rfl ?_
          refine X.opR rfl (X.pickor_f (y := !(law02_short s)) rfl h_2 rfl) rfl ?_
          refine X.opR rfl rfl rfl ?_
          refine X.opR (X.on_f rfl rfl rfl h_3) rfl rfl ?_
          refine X.opR (X.on_f rfl rfl rfl h_3) (X.lenF rfl rfl rfl) rfl ?_
          iterate 2 refine X.opR (X.on_f rfl rfl rfl h_3) rfl rfl ?_
          iterate 3 refine X.off (X.off_t rfl rfl rfl h_4) rfl ?_
          refine X.opR (X.on_f rfl rfl rfl h_3) (X.pickand_f (y := decide ((cuts.length : Int) ≤ 2000)) rfl h_4 rfl) rfl ?_
          refine X.opR rfl (X.pickor_f (y := ((decide (60 < (cuts.length : Int))) && (decide ((cuts.length : Int) ≤ 2000)))) rfl h_3 rfl) rfl ?_
          refine X.opR rfl rfl rfl ?_
          refine X.opR (X.on_f rfl rfl rfl (X.or_ff h_3 (X.and_ff h_4))) rfl rfl ?_
          refine X.opR (X.on_f rfl rfl rfl (X.or_ff h_3 (X.and_ff h_4))) (X.lenF rfl rfl rfl) rfl ?_
          refine X.opR (X.on_f rfl rfl rfl (X.or_ff h_3 (X.and_ff h_4))) rfl rfl ?_
          refine X.opR rfl (X.pickor_f (y := decide (3000 < (cuts.length : Int))) rfl (X.or_ff h_3 (X.and_ff h_4)) rfl) rfl ?_
          refine GS.opsNil ?_
          exact X.norm _ hg rfl (W.sub_cons rfl (W.sub_cons rfl (W.sub_cons rfl (W.sub_cons rfl (W.sub_cons rfl W.sub_nil)))))
  refine X.cond rfl (fun h_6 => ?_) (fun h_6 => ?_)
  · replace hM := ite_t h_6 hM
    refine GS.seq ?_
    obtain ⟨y1, h_7, hM⟩ := bind_of hM
    refine GS.region ?_
    refine X.call (ok_law02_sanity h_7) rfl rfl rfl .nil ?_
    refine X.opR rfl rfl rfl ?_
    refine GS.opsNil ?_
    have hE := Option.some.inj hM
    subst hE
    exact GS.ret ⟨_, rfl, ⟨30, rfl⟩⟩
  · replace hM := ite_f h_6 hM
    refine GS.skip ?_
    refine GS.seq ?_
    obtain ⟨y2, h_8, hM⟩ := bind_of hM
    refine GS.region ?_
    iterate 3 refine X.opR rfl rfl rfl ?_
    refine X.call (ok_tide_Prove h_8) rfl rfl rfl (.cons (.shut (n := 9) rfl) (.cons (.shut (n := 9) rfl) (.cons (.shut (n := 9) rfl) .nil))) ?_
    iterate 5 refine X.opR rfl rfl rfl ?_
    refine GS.opsNil ?_
    refine GS.seq ?_
    obtain ⟨y3, h_9, hM⟩ := bind_of hM
    refine GS.region ?_
    iterate 3 refine X.opR rfl rfl rfl ?_
    refine X.call (ok_ref02_Prove h_9) rfl rfl rfl (.cons (.shut (n := 9) rfl) (.cons (.shut (n := 9) rfl) (.cons (.shut (n := 9) rfl) .nil))) ?_
    refine X.opW rfl rfl rfl rfl ?_
    refine X.op0W rfl rfl rfl ?_
    refine GS.opsNil ?_
    refine GS.seq ?_
    obtain ⟨y4, h_10, hM⟩ := bind_of hM
    obtain ⟨y5, h_11, hM⟩ := gb_of hM
    obtain ⟨y6, h_12, hM⟩ := gb_of hM
    obtain ⟨y7, h_13, hM⟩ := gb_of hM
    refine X.mid [(8, (V.b (((y4 && y5) && (decide (y2.2 = y3.E))) && (decide (y6 = y7)))))] ?_ ?_
    · intro hg
      refine X.split (y4) (fun h_14 => ?_) (fun h_14 => ?_)
      · refine X.split ((y4 && y5)) (fun h_15 => ?_) (fun h_15 => ?_)
        · refine X.split (((y4 && y5) && (decide (y2.2 = y3.E)))) (fun h_16 => ?_) (fun h_16 => ?_)
          · refine X.drawc (by kernel_rfl) rfl ?_
            refine X.ccall (ok_law02_sanity h_10) rfl rfl rfl rfl .nil ?_
            refine X.cop rfl rfl rfl rfl ?_
            iterate 3 refine X.cop (X.on_t rfl rfl rfl h_14) rfl rfl rfl ?_
            refine X.ccall (ok_ref02_SameInts (h_11 h_14)) (X.on_t rfl rfl rfl h_14) rfl rfl rfl (.cons (.shut (n := 9) rfl) (.cons (.shut (n := 9) rfl) .nil)) ?_
            refine X.cop rfl (X.pickand_t (y := y5) rfl h_14 rfl) rfl rfl ?_
            refine X.cop rfl rfl rfl rfl ?_
            iterate 4 refine X.cop (X.on_t rfl rfl rfl h_15) rfl rfl rfl ?_
            refine X.cop rfl (X.pickand_t (y := decide (y2.2 = y3.E)) rfl h_15 rfl) rfl rfl ?_
            refine X.cop rfl rfl rfl rfl ?_
            iterate 4 refine X.cop (X.on_t rfl rfl rfl h_16) rfl rfl rfl ?_
            refine X.ccall (ok_tide_CheckProof (h_12 h_16)) (X.on_t rfl rfl rfl h_16) rfl rfl rfl (.cons (.shut (n := 9) rfl) (.cons (.shut (n := 9) rfl) (.cons (.shut (n := 9) rfl) (.cons (.shut (n := 9) rfl) .nil)))) ?_
            iterate 4 refine X.cop (X.on_t rfl rfl rfl h_16) rfl rfl rfl ?_
            refine X.ccall (ok_ref02_CheckProof (h_13 h_16)) (X.on_t rfl rfl rfl h_16) rfl rfl rfl (.cons (.shut (n := 9) rfl) (.cons (.shut (n := 9) rfl) (.cons (.shut (n := 9) rfl) (.cons (.shut (n := 9) rfl) .nil)))) ?_
            refine X.cop (X.on_t rfl rfl rfl h_16) rfl rfl rfl ?_
            refine X.cop rfl (X.pickand_t (y := decide (y6 = y7)) rfl h_16 rfl) rfl rfl ?_
            refine X.cop rfl rfl rfl rfl ?_
            refine X.cnil ?_
            exact X.norm _ hg rfl (W.sub_cons rfl W.sub_nil)
          · refine X.drawc (by kernel_rfl) rfl ?_
            refine X.ccall (ok_law02_sanity h_10) rfl rfl rfl rfl .nil ?_
            refine X.cop rfl rfl rfl rfl ?_
            iterate 3 refine X.cop (X.on_t rfl rfl rfl h_14) rfl rfl rfl ?_
            refine X.ccall (ok_ref02_SameInts (h_11 h_14)) (X.on_t rfl rfl rfl h_14) rfl rfl rfl (.cons (.shut (n := 9) rfl) (.cons (.shut (n := 9) rfl) .nil)) ?_
            refine X.cop rfl (X.pickand_t (y := y5) rfl h_14 rfl) rfl rfl ?_
            refine X.cop rfl rfl rfl rfl ?_
            iterate 4 refine X.cop (X.on_t rfl rfl rfl h_15) rfl rfl rfl ?_
            refine X.cop rfl (X.pickand_t (y := decide (y2.2 = y3.E)) rfl h_15 rfl) rfl rfl ?_
            refine X.cop rfl rfl rfl rfl ?_
            iterate 11 refine X.coff (X.off_t rfl rfl rfl h_16) rfl rfl ?_
            refine X.cop rfl (X.pickand_f (y := decide (y6 = y7)) rfl h_16 rfl) rfl rfl ?_
            refine X.cop rfl rfl rfl rfl ?_
            refine X.cnil ?_
            exact X.norm _ hg rfl (W.sub_cons rfl W.sub_nil)
        · refine X.drawc (by kernel_rfl) rfl ?_
          refine X.ccall (ok_law02_sanity h_10) rfl rfl rfl rfl .nil ?_
          refine X.cop rfl rfl rfl rfl ?_
          iterate 3 refine X.cop (X.on_t rfl rfl rfl h_14) rfl rfl rfl ?_
          refine X.ccall (ok_ref02_SameInts (h_11 h_14)) (X.on_t rfl rfl rfl h_14) rfl rfl rfl (.cons (.shut (n := 9) rfl) (.cons (.shut (n := 9) rfl) .nil)) ?_
          refine X.cop rfl (X.pickand_t (y := y5) rfl h_14 rfl) rfl rfl ?_
          refine X.cop rfl rfl rfl rfl ?_
          iterate 4 refine X.coff (X.off_t rfl rfl rfl h_15) rfl rfl ?_
          refine X.cop rfl (X.pickand_f (y := decide (y2.2 = y3.E)) rfl h_15 rfl) rfl rfl ?_
          refine X.cop rfl rfl rfl rfl ?_
          iterate 11 refine X.coff (X.off_t rfl rfl rfl (X.and_ff h_15)) rfl rfl ?_
          refine X.cop rfl (X.pickand_f (y := decide (y6 = y7)) rfl (X.and_ff h_15) rfl) rfl rfl ?_
          refine X.cop rfl rfl rfl rfl ?_
          refine X.cnil ?_
          exact X.norm _ hg rfl (W.sub_cons rfl W.sub_nil)
      · refine X.drawc (by kernel_rfl) rfl ?_
        refine X.ccall (ok_law02_sanity h_10) rfl rfl rfl rfl .nil ?_
        refine X.cop rfl rfl rfl rfl ?_
        iterate 4 refine X.coff (X.off_t rfl rfl rfl h_14) rfl rfl ?_
        refine X.cop rfl (X.pickand_f (y := y5) rfl h_14 rfl) rfl rfl ?_
        refine X.cop rfl rfl rfl rfl ?_
        iterate 4 refine X.coff (X.off_t rfl rfl rfl (X.and_ff h_14)) rfl rfl ?_
        refine X.cop rfl (X.pickand_f (y := decide (y2.2 = y3.E)) rfl (X.and_ff h_14) rfl) rfl rfl ?_
        refine X.cop rfl rfl rfl rfl ?_
        iterate 11 refine X.coff (X.off_t rfl rfl rfl (X.and_ff (X.and_ff h_14))) rfl rfl ?_
        refine X.cop rfl (X.pickand_f (y := decide (y6 = y7)) rfl (X.and_ff (X.and_ff h_14)) rfl) rfl rfl ?_
        refine X.cop rfl rfl rfl rfl ?_
        refine X.cnil ?_
        exact X.norm _ hg rfl (W.sub_cons rfl W.sub_nil)
    have hE := Option.some.inj hM
    subst hE
    exact GS.ret ⟨_, rfl, ⟨30, rfl⟩⟩

end Go.Proofs.Ytphmekpaalfliaa
