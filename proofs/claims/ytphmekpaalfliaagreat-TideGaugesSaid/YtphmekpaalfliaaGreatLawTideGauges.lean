/- TideGauges: the plain law. Conditions: none. -/
import Derived.Test.YtphmekpaalfliaaGreatLawJ
set_option linter.unusedVariables false
namespace Go.Mx

theorem SameInts_same (l : List Int) (hl : Len l) : ref02_SameInts l l = some true := by
  unfold ref02_SameInts
  rw [if_neg (by simp)]
  refine lp_list l hl (fun (_ : Unit) i => i) (fun _ _ => true) (fun _ _ => True) (a := ()) rfl trivial (fun a i hi _ => ?_) (fun a _ => ?_)
  · unfold ref02_SameInts_b2
    rw [if_pos (by simpa using hi), ix_lt hi]
    simp only [Option.bind_some]
    left
    rw [if_neg (by simp), w64s' hi hl]
    exact ⟨(), rfl, trivial, trivial⟩
  · unfold ref02_SameInts_b2
    rw [if_neg (by simp)]; rfl
theorem SamePairs_same (l : List Arr_2_int) (hl : Len l) : ref02_SamePairs l l = some true := by
  unfold ref02_SamePairs
  rw [if_neg (by simp)]
  refine lp_list l hl (fun (_ : Unit) i => i) (fun _ _ => true) (fun _ _ => True) (a := ()) rfl trivial (fun a i hi _ => ?_) (fun a _ => ?_)
  · unfold ref02_SamePairs_b2
    rw [if_pos (by simpa using hi), ix_lt hi]
    simp only [Option.bind_some]
    left
    rw [if_neg (by simp), w64s' hi hl]
    exact ⟨(), rfl, trivial, trivial⟩
  · unfold ref02_SamePairs_b2
    rw [if_neg (by simp)]; rfl

/-! ### Suspects -/

theorem add_sorted {l : List Int} (n : Int) (h : l.Pairwise (· ≤ ·)) : (insB (ltB n) l n).Pairwise (· ≤ ·) :=
  insB_sorted (fun a b c h1 h2 => by omega) (fun a h => by have := of_decide_eq_true h; omega) (fun a h => by have := of_decide_eq_false h; omega) h
def foldA (l : List Int) : List Int → List Int
  | [] => l
  | n :: r => foldA (insB (ltB n) l n) r
theorem foldA_perm : ∀ (r l : List Int), (foldA l r).Perm (l ++ r)
  | [], l => by simp [foldA]
  | n :: r, l => by
    unfold foldA
    refine (foldA_perm r _).trans ?_
    refine ((insB_perm (ltB n) l n).append_right r).trans ?_
    exact (List.perm_middle (a := n) (l₁ := l) (l₂ := r)).symm
theorem foldA_sorted : ∀ (r l : List Int), l.Pairwise (· ≤ ·) → (foldA l r).Pairwise (· ≤ ·)
  | [], l, h => h
  | n :: r, l, h => foldA_sorted r _ (add_sorted n h)
theorem foldA_srt (r : List Int) : foldA [] r = srtI r := by
  refine List.Perm.eq_of_pairwise (le := (· ≤ ·)) (fun a b _ _ h1 h2 => by omega) (foldA_sorted r [] List.Pairwise.nil) (srtI_spec r).2 ?_
  exact ((foldA_perm r []).trans (by simp)).trans (srtI_spec r).1.symm
theorem foldA_append : ∀ (a b l : List Int), foldA l (a ++ b) = foldA (foldA l a) b
  | [], b, l => rfl
  | n :: a, b, l => foldA_append a b _

theorem RSuspects_eq (w : api_Water) (hw : LenW w) (l : List api_Gauge) (hl : Len l) : ref02_Suspects w l = some ⟨if gaugedS w l = 0 then suspS w l else [], gaugedS w l⟩ := by
  unfold ref02_Suspects
  rw [RGauged_eq w hw l hl, Option.bind_some]
  by_cases hq : gaugedS w l = 0
  · obtain ⟨g0, g1, g2⟩ := gaugedS_len hq
    have hg := checkS_good hw g1
    have hgk := ((gaugeS_zero l []).1 g2).1
    rw [if_neg (by simp [hq])]
    simp only [hq, if_true]
    have hsome : ∀ r : List api_Gauge, r.Sublist l → ref02_some w r = some (!tide_none (allLev w tide_every r)) := by
      intro r hr
      unfold ref02_some
      rw [agreedAll_eq hg r (by have := hr.length_le; omega) (fun g h => hgk g (hr.subset h)), Option.bind_some]
      unfold tide_none
      congr 1
      rw [Bool.eq_iff_iff]
      simp
    rw [hsome l (List.Sublist.refl l), Option.bind_some]
    unfold suspS
    cases hn : tide_none (allLev w tide_every l) with
    | false =>
      simp only [Bool.not_false, Bool.false_eq_true, if_false]
      suffices h : ∃ r, Lp (ref02_Suspects_b2 w l true) fuel ([], 0) = some r ∧ r = ⟨[], 0⟩ by obtain ⟨r, h, rfl⟩ := h; exact h
      refine lp_inv' (fun (i : Nat) (s : List Int × Int) => s = ([], 0)) _ 0 (by omega) rfl fun i s hi hI => ?_
      subst hI
      right
      unfold ref02_Suspects_b2
      simp only [Bool.not_true, Bool.and_false, Bool.false_eq_true, if_false]
      exact ⟨_, rfl, rfl⟩
    | true =>
      simp only [Bool.not_true, if_true]
      refine (lp_list l hl (fun (acc : List Int) i => (acc, i)) (fun acc r => (⟨foldA acc (susL w l (l.length - r.length) r), 0⟩ : ref02_Ints)) (fun i acc => acc.length ≤ i) (a := []) rfl (by simp) (fun acc i hi hJ => ?_) (fun acc hJ => ?_)).trans ?_
      · left
        unfold ref02_Suspects_b2
        simp only
        have d : ((decide ((i : Int) < (l.length : Int))) && (!false)) = true := by simpa using hi
        rw [if_pos d, sub_to (by omega), Option.bind_some, app2 (by simp; omega), Option.bind_some, w64s' hi (by omega), sub_from (by omega), Option.bind_some, app2 (by simp; omega), Option.bind_some]
        have e : [] ++ l.take i ++ l.drop (i + 1) = l.eraseIdx i := by rw [List.nil_append]; exact (List.eraseIdx_eq_take_drop_succ l i).symm
        rw [e, hsome _ (List.eraseIdx_sublist l i), Option.bind_some]
        have eo : (!tide_none (allLev w tide_every (l.eraseIdx i))) = okBut w l i := rfl
        have ek : l.length - (l[i] :: l.drop (i + 1)).length = i := by simp; omega
        have ek2 : l.length - (l.drop (i + 1)).length = i + 1 := by simp; omega
        rw [eo, ek, ek2]
        unfold ref02_Suspects_j3
        rw [w64s' hi (by omega)]
        by_cases ho : okBut w l i = true
        · rw [if_pos ho, ix_lt hi, Option.bind_some, add_eq acc (by omega), Option.bind_some]
          refine ⟨_, rfl, ?_, ?_⟩
          · simp only [susL, ho, if_true, List.cons_append, List.nil_append, foldA]
          · rw [(insB_perm _ _ _).length_eq]; simp; omega
        · rw [if_neg ho]
          refine ⟨acc, rfl, ?_, by omega⟩
          simp only [susL, ho, Bool.false_eq_true, if_false, List.nil_append]
      · unfold ref02_Suspects_b2
        simp only
        rw [if_neg (by simp)]
        unfold ref02_Suspects_j1
        simp [susL, foldA]
      · rw [foldA_srt]; simp
  · rw [if_pos (by simp [hq])]
    simp only [if_neg hq]

/-! ### Clashes -/

def clash (a b : tide_known) : Bool := !tide_none a.levels && (!tide_none b.levels && tide_none (tide_both a.levels b.levels))
theorem clash_comm (a b : tide_known) : clash a b = clash b a := by
  unfold clash tide_none tide_both
  rw [Bool.eq_iff_iff]
  simp only [Bool.and_eq_true, Bool.not_eq_true', decide_eq_false_iff_not, decide_eq_true_eq]
  omega
def pr (a b : tide_known) : Arr_2_int := ⟨min a.Gauge.ID b.Gauge.ID, max a.Gauge.ID b.Gauge.ID⟩
theorem pr_comm (a b : tide_known) : pr a b = pr b a := by unfold pr; rw [Int.min_comm, Int.max_comm]
/-- The clashes of one with others. -/
def cw (a : tide_known) (r : List tide_known) : List Arr_2_int := (if tide_none a.levels = true then [⟨a.Gauge.ID, a.Gauge.ID⟩] else []) ++ (r.filter fun b => clash a b).map fun b => pr a b
def cu : List tide_known → List Arr_2_int
  | [] => []
  | a :: r => cw a r ++ cu r
theorem cw_perm (a : tide_known) {r s : List tide_known} (h : r.Perm s) : (cw a r).Perm (cw a s) := List.Perm.append_left _ ((h.filter _).map _)
theorem cw_cons (a b : tide_known) (r : List tide_known) : (cw a (b :: r)).Perm ((if clash a b = true then [pr a b] else []) ++ cw a r) := by
  unfold cw
  rw [List.filter_cons]
  by_cases h : clash a b = true
  · rw [if_pos h, if_pos h, List.map_cons]
    exact List.perm_middle
  · rw [if_neg h, if_neg h]; exact List.Perm.refl _
theorem cu_perm {l m : List tide_known} (h : l.Perm m) : (cu l).Perm (cu m) := by
  induction h with
  | nil => exact List.Perm.refl _
  | cons a h ih => exact (cw_perm a h).append ih
  | swap a b r =>
    simp only [cu]
    have h1 : (cw b (a :: r) ++ (cw a r ++ cu r)).Perm ((if clash b a = true then [pr b a] else []) ++ (cw b r ++ (cw a r ++ cu r))) := by
      have := (cw_cons b a r).append_right (cw a r ++ cu r)
      rw [List.append_assoc] at this; exact this
    have h2 : (cw a (b :: r) ++ (cw b r ++ cu r)).Perm ((if clash a b = true then [pr a b] else []) ++ (cw a r ++ (cw b r ++ cu r))) := by
      have := (cw_cons a b r).append_right (cw b r ++ cu r)
      rw [List.append_assoc] at this; exact this
    refine h1.trans (List.Perm.trans ?_ h2.symm)
    rw [clash_comm b a, pr_comm b a]
    refine List.Perm.append_left _ ?_
    rw [← List.append_assoc, ← List.append_assoc]
    exact List.perm_append_comm.append_right _
  | trans _ _ ih1 ih2 => exact ih1.trans ih2

theorem cl_cu : ∀ {l : List tide_known}, l.Pairwise (fun a b => a.Gauge.ID < b.Gauge.ID) → cl l = cu l
  | [], _ => rfl
  | a :: r, h => by
    rw [List.pairwise_cons] at h
    simp only [cl, cu, cl_cu h.2]
    congr 1
    unfold cw clash
    cases hn : tide_none a.levels with
    | true => simp
    | false =>
      simp only [Bool.false_eq_true, if_false, Bool.not_false, Bool.true_and, List.nil_append]
      refine List.map_congr_left fun b hb => ?_
      have := h.1 b (List.mem_filter.1 hb).1
      unfold pr
      rw [Int.min_eq_left (by omega), Int.max_eq_right (by omega)]

theorem lexLe_tr {a b c : Arr_2_int} (h1 : lexLe a b) (h2 : lexLe b c) : lexLe a c := by unfold lexLe at *; omega
theorem lexLe_anti {a b : Arr_2_int} (h1 : lexLe a b) (h2 : lexLe b a) : a = b := by
  cases a; cases b
  unfold lexLe at *
  simp only at h1 h2
  simp only [Arr_2_int.mk.injEq]
  omega
theorem put_sorted {l : List Arr_2_int} (p : Arr_2_int) (h : l.Pairwise lexLe) : (insB (lexB p) l p).Pairwise lexLe :=
  insB_sorted (le := lexLe) (p := lexB p) (x := p) (fun a b c h1 h2 => lexLe_tr h1 h2) (fun a h => by
    unfold lexB at h
    unfold lexLe
    simp only [Bool.or_eq_true, Bool.and_eq_true, decide_eq_true_eq] at h
    omega) (fun a h => by
    unfold lexB at h
    unfold lexLe
    simp only [Bool.or_eq_false_iff, Bool.and_eq_false_iff, decide_eq_false_iff_not] at h
    omega) h
def foldP (l : List Arr_2_int) : List Arr_2_int → List Arr_2_int
  | [] => l
  | p :: r => foldP (insB (lexB p) l p) r
theorem foldP_perm : ∀ (r l : List Arr_2_int), (foldP l r).Perm (l ++ r)
  | [], l => by simp [foldP]
  | n :: r, l => by
    unfold foldP
    refine (foldP_perm r _).trans ?_
    refine ((insB_perm (lexB n) l n).append_right r).trans ?_
    exact (List.perm_middle (a := n) (l₁ := l) (l₂ := r)).symm
theorem foldP_sorted : ∀ (r l : List Arr_2_int), l.Pairwise lexLe → (foldP l r).Pairwise lexLe
  | [], l, h => h
  | n :: r, l, h => foldP_sorted r _ (put_sorted n h)
theorem foldP_append : ∀ (a b l : List Arr_2_int), foldP l (a ++ b) = foldP (foldP l a) b
  | [], b, l => rfl
  | n :: a, b, l => foldP_append a b _

/-- All clashes, each gauge with those ahead of it. -/
def ahead (w : api_Water) (l : List api_Gauge) : Nat → List Arr_2_int
  | 0 => []
  | n + 1 => ahead w l n ++ match l[n]? with
    | some g => cw (kn w g) ((l.take n).map (kn w))
    | none => []
theorem ahead_cu (w : api_Water) (l : List api_Gauge) : ∀ n, n ≤ l.length → (ahead w l n).Perm (cu ((l.take n).map (kn w)))
  | 0, _ => by simp [ahead, cu]
  | n + 1, h => by
    have hn : n < l.length := by omega
    simp only [ahead, List.getElem?_eq_getElem hn]
    rw [List.take_add_one, List.getElem?_eq_getElem hn, List.map_append]
    have h1 := ahead_cu w l n (by omega)
    refine (List.perm_append_comm.trans (List.Perm.append_left _ h1)).trans ?_
    exact cu_perm (l := kn w l[n] :: (l.take n).map (kn w)) (by
      simp only [Option.toList_some, List.map_cons, List.map_nil]
      exact (List.perm_append_comm (l₁ := (l.take n).map (kn w)) (l₂ := [kn w l[n]])).symm)

theorem cw_len (a : tide_known) (r : List tide_known) : (cw a r).length ≤ r.length + 1 := by
  unfold cw
  rw [List.length_append, List.length_map]
  have := List.length_filter_le (fun b => clash a b) r
  split <;> simp <;> omega
theorem ahead_len (w : api_Water) (l : List api_Gauge) : ∀ n, n ≤ 40 → (ahead w l n).length ≤ 41 * n
  | 0, _ => by simp [ahead]
  | n + 1, h => by
    have := ahead_len w l n (by omega)
    simp only [ahead, List.length_append]
    cases hq : l[n]? with
    | none => simp; omega
    | some g =>
      have := cw_len (kn w g) ((l.take n).map (kn w))
      simp only [List.length_map, List.length_take] at this
      simp only
      omega

theorem RClashes_eq (w : api_Water) (hw : LenW w) (l : List api_Gauge) (hl : Len l) : ref02_Clashes w l = some ⟨if gaugedS w l = 0 then cl (srtF lt_known (l.map (kn w))) else [], gaugedS w l⟩ := by
  unfold ref02_Clashes
  rw [RGauged_eq w hw l hl, Option.bind_some]
  by_cases hq : gaugedS w l = 0
  · obtain ⟨g0, g1, g2⟩ := gaugedS_len hq
    have hg := checkS_good hw g1
    obtain ⟨hgk, hd, _⟩ := (gaugeS_zero l []).1 g2
    rw [if_neg (by simp [hq])]
    simp only [hq, if_true]
    have main : Lp (ref02_Clashes_b2 w l) fuel ([], 0) = some ⟨foldP [] (ahead w l l.length), 0⟩ := by
      suffices h : ∃ r, Lp (ref02_Clashes_b2 w l) fuel ([], 0) = some r ∧ r = (⟨foldP [] (ahead w l l.length), 0⟩ : ref02_Pairs) by obtain ⟨r, h, rfl⟩ := h; exact h
      refine lp_inv' (fun (i : Nat) (s : List Arr_2_int × Int) => s = (foldP [] (ahead w l i), (i : Int)) ∧ i ≤ l.length) _ l.length (by omega) ⟨rfl, Nat.zero_le _⟩ fun i s hi hI => ?_
      obtain ⟨rfl, hil⟩ := hI
      unfold ref02_Clashes_b2
      simp only
      by_cases h : i < l.length
      · left
        refine ⟨h, ?_⟩
        have hgi := hgk _ (List.getElem_mem h)
        have hfl : (foldP [] (ahead w l i)).length ≤ 41 * i := by
          rw [(foldP_perm _ _).length_eq, List.nil_append]; exact ahead_len w l i (by omega)
        rw [if_pos (by simpa using h), ix_lt h, Option.bind_some, agreed_eq hg hgi, Option.bind_some]
        have inner : ∀ out : List Arr_2_int, out.length ≤ 41 * i + 1 → ref02_Clashes_j3 w l (i : Int) (lev w l[i]) out = some (.inl (foldP out (((l.take i).map (kn w)).filter (fun b => clash (kn w l[i]) b) |>.map fun b => pr (kn w l[i]) b), ((i + 1 : Nat) : Int))) := by
          intro out hout
          unfold ref02_Clashes_j3
          have hti : (l.take i).length = i := by rw [List.length_take]; omega
          refine (lp_list (l.take i) (by omega) (fun (o : List Arr_2_int) k => (o, k)) (fun o r => (.inl (foldP o ((r.map (kn w)).filter (fun b => clash (kn w l[i]) b) |>.map fun b => pr (kn w l[i]) b), ((i + 1 : Nat) : Int)) : (List Arr_2_int × Int) ⊕ ref02_Pairs)) (fun k o => o.length ≤ 41 * i + 1 + k) (a := out) rfl (by omega) (fun o k hk hJ => ?_) (fun o hJ => ?_))
          · left
            have hk' : k < i := by omega
            have hkl : k < l.length := by omega
            unfold ref02_Clashes_b5
            simp only
            have e : (l.take i)[k] = l[k] := List.getElem_take
            rw [if_pos (by simpa using hk'), ix_lt hkl, Option.bind_some, agreed_eq hg (hgk _ (List.getElem_mem hkl)), Option.bind_some, ix_lt h]
            simp only [Option.bind_some]
            have ec : (((decide ((lev w l[i]).Lo ≤ (lev w l[i]).Hi)) && (decide ((lev w l[k]).Lo ≤ (lev w l[k]).Hi))) && (decide ((min (lev w l[i]).Hi (lev w l[k]).Hi) < (max (lev w l[i]).Lo (lev w l[k]).Lo)))) = clash (kn w l[i]) (kn w l[k]) := by
              unfold clash tide_none tide_both kn
              rw [Bool.eq_iff_iff]
              simp only [Bool.and_eq_true, Bool.not_eq_true', decide_eq_false_iff_not, decide_eq_true_eq]
              omega
            rw [ec, e, List.map_cons, List.filter_cons]
            unfold ref02_Clashes_j6
            rw [w64s' (n := i) hk' (by omega)]
            by_cases hc : clash (kn w l[i]) (kn w l[k]) = true
            · rw [if_pos hc, put_eq o (by omega), Option.bind_some]
              refine ⟨_, rfl, ?_, ?_⟩
              · rw [if_pos hc]; rfl
              · rw [(insB_perm _ _ _).length_eq]; simp; omega
            · rw [if_neg hc]
              refine ⟨o, rfl, ?_, by omega⟩
              rw [if_neg hc]
          · unfold ref02_Clashes_b5
            simp only
            rw [if_neg (by rw [hti]; simp)]
            unfold ref02_Clashes_j4
            rw [w64s' h (by omega)]
            rfl
        have hstep : ahead w l (i + 1) = ahead w l i ++ cw (kn w l[i]) ((l.take i).map (kn w)) := by simp only [ahead, List.getElem?_eq_getElem h]
        rw [hstep, foldP_append]
        unfold cw
        by_cases hn : (lev w l[i]).Hi < (lev w l[i]).Lo
        · have hn' : tide_none (kn w l[i]).levels = true := decide_eq_true hn
          rw [if_pos (by simpa using hn)]
          simp only [Option.bind_some]
          rw [put_eq _ (by omega), Option.bind_some, inner _ (by rw [(insB_perm _ _ _).length_eq]; simp; omega), if_pos hn']
          exact ⟨_, rfl, rfl, by omega⟩
        · have hn' : tide_none (kn w l[i]).levels = false := decide_eq_false hn
          rw [if_neg (by simpa using hn), inner _ (by omega), hn']
          exact ⟨_, rfl, rfl, by omega⟩
      · right
        have e : i = l.length := by omega
        subst e
        rw [if_neg (by simp)]
        exact ⟨_, rfl, rfl⟩
    rw [main]
    congr 2
    have hspec := srtF_spec lt_swo (l.map (kn w))
    have hids : (srtF lt_known (l.map (kn w))).Pairwise fun a b => a.Gauge.ID < b.Gauge.ID := by
      have hnd : (srtF lt_known (l.map (kn w))).Pairwise fun a b => a.Gauge.ID ≠ b.Gauge.ID := by
        have h0 : (l.map (kn w)).Pairwise fun a b => a.Gauge.ID ≠ b.Gauge.ID := by
          rw [List.pairwise_map]; exact hd
        exact h0.perm hspec.1.symm (fun h e => h e.symm)
      refine (hspec.2.and hnd).imp fun ⟨h1, h2⟩ => ?_
      have : ¬ _ := of_decide_eq_false h1
      omega
    rw [cl_cu hids]
    have hp1 : (foldP [] (ahead w l l.length)).Perm (cu (srtF lt_known (l.map (kn w)))) := by
      refine (foldP_perm _ _).trans ?_
      rw [List.nil_append]
      refine (ahead_cu w l l.length (Nat.le_refl _)).trans ?_
      rw [List.take_length]
      exact cu_perm hspec.1.symm
    refine List.Perm.eq_of_pairwise (le := lexLe) (fun a b _ _ => lexLe_anti) (foldP_sorted _ _ List.Pairwise.nil) ?_ hp1
    -- the clashes of a sorted list are in order
    have sorted : ∀ L : List tide_known, L.Pairwise (fun a b => a.Gauge.ID < b.Gauge.ID) → (cu L).Pairwise lexLe ∧ ∀ q ∈ cu L, ∃ a ∈ L, q.a0 = a.Gauge.ID := by
      intro L
      induction L with
      | nil => intro _; exact ⟨List.Pairwise.nil, fun q h => by cases h⟩
      | cons a r ih =>
        intro h
        rw [List.pairwise_cons] at h
        obtain ⟨i1, i2⟩ := ih h.2
        have ha0 : ∀ q ∈ cw a r, q.a0 = a.Gauge.ID := by
          intro q hq
          unfold cw at hq
          rcases List.mem_append.1 hq with hq | hq
          · split at hq
            · simp only [List.mem_singleton] at hq; subst hq; rfl
            · cases hq
          · obtain ⟨b, hb, rfl⟩ := List.mem_map.1 hq
            have := h.1 b (List.mem_filter.1 hb).1
            unfold pr
            simp only; omega
        have hcw : (cw a r).Pairwise lexLe := by
          unfold cw
          cases hn : tide_none a.levels with
          | true =>
            have : (r.filter fun b => clash a b) = [] := by
              rw [List.filter_eq_nil_iff]
              intro b _
              unfold clash
              rw [hn]; simp
            rw [this]; simp
          | false =>
            simp only [Bool.false_eq_true, if_false, List.nil_append]
            rw [List.pairwise_map]
            have hall : ∀ b ∈ r.filter (fun b => clash a b), a.Gauge.ID < b.Gauge.ID := fun b hb => h.1 b (List.mem_filter.1 hb).1
            have hpw := h.2.filter (p := fun b => clash a b)
            refine List.Pairwise.imp_of_mem (fun {x y} hx hy hxy => ?_) hpw
            have := hall x hx
            have := hall y hy
            unfold pr lexLe
            simp only
            omega
        refine ⟨?_, fun q hq => ?_⟩
        · simp only [cu]
          rw [List.pairwise_append]
          refine ⟨hcw, i1, fun x hx y hy => ?_⟩
          obtain ⟨b, hb, e⟩ := i2 y hy
          have := h.1 b hb
          left
          rw [ha0 x hx, e]; omega
        · simp only [cu] at hq
          rcases List.mem_append.1 hq with hq | hq
          · exact ⟨a, List.mem_cons_self, ha0 q hq⟩
          · obtain ⟨b, hb, e⟩ := i2 q hq
            exact ⟨b, List.mem_cons_of_mem _ hb, e⟩
    exact (sorted _ hids).1
  · rw [if_pos (by simp [hq])]
    simp only [if_neg hq]

theorem holds_TideGauges {w : api_Water} {l : List api_Gauge} (h0 : ok_api_Water w) (h1 : ok_26 l) : law02_TideGauges w l = some true := by
  have hl : Len l := h1.1
  have hw := LenW.of h0
  unfold law02_TideGauges
  obtain ⟨b, hb, _⟩ := few_spec w hw.c
  rw [hb, Option.bind_some]
  split
  · rw [sanity_true]; rfl
  · rw [Levels_eq w hw, Option.bind_some, RLevels_eq w hw l hl, Option.bind_some]
    have hrests : tide_Rests w l = some (if (levelsS w l).2 = 0 then (leastID w ((levelsS w l).1.Lo - 1) 0 l, leastID w ((levelsS w l).1.Hi + 1) 0 l, 0) else (0, 0, (levelsS w l).2)) := by
      by_cases h : (levelsS w l).2 = 0
      · rw [(Rests_eq w hw l h).1, if_pos h]
      · unfold tide_Rests
        rw [Levels_eq w hw, Option.bind_some, if_pos (by simp [h]), if_neg h]
    rw [hrests, Option.bind_some, RRests_eq w hw l hl, Option.bind_some, clashes_eq w hw, Option.bind_some, RClashes_eq w hw l hl, Option.bind_some, suspects_eq w hw, Option.bind_some, RSuspects_eq w hw l hl, Option.bind_some, sanity_true, Option.bind_some]
    have hlc : Len (if gaugedS w l = 0 then cl (srtF lt_known (l.map (kn w))) else []) := by
      unfold Len
      by_cases hq : gaugedS w l = 0
      · obtain ⟨g0, _, _⟩ := gaugedS_len hq
        rw [if_pos hq]
        have h1 := cl_len (srtF lt_known (l.map (kn w)))
        have h2 : (srtF lt_known (l.map (kn w))).length ≤ 40 := by rw [(srtF_spec lt_swo _).1.length_eq]; simpa using g0
        have := Nat.le_trans h1 (Nat.mul_le_mul h2 (Nat.succ_le_succ h2))
        omega
      · rw [if_neg hq]; simp
    have hls : Len (if gaugedS w l = 0 then suspS w l else []) := by
      unfold Len
      by_cases hq : gaugedS w l = 0
      · obtain ⟨g0, _, _⟩ := gaugedS_len hq
        rw [if_pos hq]
        unfold suspS
        split
        · rw [(srtI_spec _).1.length_eq]; have := susL_len w l l 0; omega
        · simp
      · rw [if_neg hq]; simp
    rw [SamePairs_same _ hlc, SameInts_same _ hls]
    simp [gb]
end Go.Mx
