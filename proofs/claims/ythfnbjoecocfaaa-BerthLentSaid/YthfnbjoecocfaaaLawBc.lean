/- Plain laws of leases, third part: lighters are checked; the busiest minute; equal lists. Conditions: none. -/
import Derived.Test.YthfnbjoecocfaaaLawBb
set_option linter.unusedVariables false
set_option linter.unusedSimpArgs false
namespace Go.Mx

/-! Lighters are checked. -/
/-- Whether a lease clashes with one of the first ones. -/
def clashB (l : List api_Lease) (x : List Int) (i : Nat) (k : Nat) : Bool := decide (gI x i = gI x k) && onc (gL l i) (gL l k)
def badX (l : List api_Lease) (x : List Int) (i : Nat) : Bool := decide (gI x i < 0) || (List.range i).any fun k => clashB l x i k
/-- Whether lighters are right. -/
def okX (l : List api_Lease) (x : List Int) : Bool := decide (x.length = l.length) && (List.range l.length).all fun i => !badX l x i
def chkX (l : List api_Lease) (x : List Int) : Int := if chk l = 0 then (if okX l x = true then 0 else 8) else chk l
/-- A loop over numbers that stops where something is wrong. -/
theorem lp_all {σ ρ : Type} {body : Int → Option (Int ⊕ ρ)} (n : Nat) (hn : n ≤ 1000000) (bad : Nat → Bool) (no yes : ρ) (step : ∀ i, i < n → (∀ j, j < i → bad j = false) → body (i : Int) = some (if bad i = true then .inr no else .inl ((i + 1 : Nat) : Int))) (last : (∀ j, j < n → bad j = false) → body (n : Int) = some (.inr yes)) : Lp body fuel 0 = some (if ((List.range n).any bad) = true then no else yes) := by
  suffices h : ∃ r, Lp body fuel 0 = some r ∧ r = (if ((List.range n).any bad) = true then no else yes) by obtain ⟨r, h, rfl⟩ := h; exact h
  refine lp_inv' (fun i s => s = (i : Int) ∧ ∀ j, j < i → bad j = false) _ n (by omega) ⟨rfl, fun j h => by omega⟩ fun i s hi hI => ?_
  obtain ⟨rfl, hI⟩ := hI
  by_cases hc : i < n
  · rw [step i hc hI]
    by_cases hb : bad i = true
    · rw [if_pos hb]
      refine .inr ⟨_, rfl, ?_⟩
      rw [if_pos (List.any_eq_true.2 ⟨i, List.mem_range.2 hc, hb⟩)]
    · rw [if_neg hb]
      refine .inl ⟨hc, _, rfl, rfl, fun j hj => ?_⟩
      by_cases e : j = i
      · subst e; simpa using hb
      · exact hI j (by omega)
  · have e : i = n := by omega
    subst e
    refine .inr ⟨_, last hI, ?_⟩
    rw [if_neg]
    intro h
    obtain ⟨j, hj, hb⟩ := List.any_eq_true.1 h
    rw [hI j (List.mem_range.1 hj)] at hb
    cases hb
theorem onc_comm (a b : api_Lease) : onc a b = onc b a := by unfold onc; rw [Bool.and_comm]
theorem bcheckl_eq (l : List api_Lease) (x : List Int) (hl : Len l) : berth_CheckLighters l x = some (chkX l x) := by
  unfold berth_CheckLighters chkX
  rw [bcheck_eq l hl, Option.bind_some]
  by_cases h : chk l = 0
  · have hg := chk_good h
    rw [if_neg (by simp [h]), if_pos h]
    by_cases hx : x.length = l.length
    · rw [if_neg (by simp [hx])]
      have := lp_all (σ := Int) (body := berth_CheckLighters_b2 l x) x.length (by omega) (badX l x) (8 : Int) 0 (fun i hi _ => ?_) (fun _ => ?_)
      · rw [this]
        unfold okX
        rw [← List.not_any_eq_all_not, ← hx]
        simp only [decide_true, Bool.true_and]
        cases (List.range x.length).any (badX l x) <;> rfl
      · unfold berth_CheckLighters_b2
        rw [if_pos (by simpa using hi), ix_gI hi, Option.bind_some]
        by_cases h0 : gI x i < 0
        · rw [if_pos (by simpa using h0), if_pos (by unfold badX; simp [h0])]
        · rw [if_neg (by simpa using h0), sub_to (Nat.le_of_lt hi), Option.bind_some]
          have hb : badX l x i = (List.range i).any fun k => clashB l x i k := by unfold badX; simp [h0]
          rw [hb]
          have := lp_all (σ := Int) (body := berth_CheckLighters_b4 l (i : Int) (gI x i) (x.take i)) i (by omega) (fun k => clashB l x i k) (.inr 8 : Int ⊕ Int) (.inl ((i + 1 : Nat) : Int)) (fun k hk _ => ?_) (fun _ => ?_)
          · rw [this]
          · have hk2 : k < (x.take i).length := by rw [List.length_take]; omega
            have e1 : ix (x.take i) (k : Int) = some (gI x k) := by rw [ix_lt hk2, gI_get (show k < x.length by omega)]; simp
            unfold berth_CheckLighters_b4
            rw [if_pos (by simpa using hk2), e1, Option.bind_some, ix_gL (show i < l.length by omega), ix_gL (show k < l.length by omega)]
            have hx2 : berth_atOnce (gL l i) (gL l k) = onc (gL l i) (gL l k) := rfl
            unfold clashB
            cases hd : decide (gI x i = gI x k) with
            | false =>
              simp only [gb, Bool.false_eq_true, if_false, Option.bind_some, Bool.false_and]
              rw [w64s' hk (by omega)]
            | true =>
              simp only [gb, if_true, Option.bind_some, Bool.true_and, hx2]
              cases onc (gL l i) (gL l k)
              · simp only [Bool.false_eq_true, if_false]; rw [w64s' hk (by omega)]
              · rfl
          · have hk2 : (x.take i).length = i := by rw [List.length_take]; omega
            unfold berth_CheckLighters_b4
            rw [if_neg (by rw [hk2]; simp)]
            unfold berth_CheckLighters_j3
            rw [w64s' hi (by omega)]; rfl
      · unfold berth_CheckLighters_b2
        rw [if_neg (by simp)]; rfl
    · rw [if_pos (by simp; omega), if_neg (by unfold okX; simp [hx])]
  · rw [if_pos (by simp [h]), if_neg h]
/-! The busiest minute. -/
/-- How many leases have a minute. -/
def cntL (l : List api_Lease) (t : Int) : Nat := l.countP fun x => decide (x.Span.Lo ≤ t) && decide (t ≤ x.Span.Hi)
theorem cntL_le (l : List api_Lease) (t : Int) : cntL l t ≤ l.length := List.countP_le_length
def better (s : Int × Int) (t : Int) (n : Nat) : Bool := decide (s.2 < (n : Int)) || (decide ((n : Int) = s.2) && decide (t < s.1))
/-- Minutes are looked at, one after the other. -/
def busF (l : List api_Lease) : List Int → Int × Int → Int × Int
  | [], s => s
  | t :: r, s => busF l r (if better s t (cntL l t) = true then (t, (cntL l t : Int)) else s)
/-- The minute that is kept is the first one with the greatest number. -/
def BusOK (l : List api_Lease) (ts : List Int) (s : Int × Int) : Prop := (∀ t ∈ ts, (cntL l t : Int) ≤ s.2 ∧ ((cntL l t : Int) = s.2 → s.1 ≤ t)) ∧ (s = (0, 0) ∧ (∀ t ∈ ts, cntL l t = 0) ∨ s.1 ∈ ts ∧ s.2 = (cntL l s.1 : Int) ∧ 0 < s.2)
theorem BusOK.uniq {l : List api_Lease} {ts us : List Int} (hp : ∀ t, t ∈ ts ↔ t ∈ us) {s u : Int × Int} (h : BusOK l ts s) (k : BusOK l us u) : s = u := by
  obtain ⟨h1, h2⟩ := h
  obtain ⟨k1, k2⟩ := k
  rcases h2 with ⟨rfl, h2⟩ | ⟨h2, h3, h4⟩
  · rcases k2 with ⟨rfl, _⟩ | ⟨k2, k3, k4⟩
    · rfl
    · have := h2 _ ((hp _).2 k2); omega
  · rcases k2 with ⟨rfl, k2⟩ | ⟨k2, k3, k4⟩
    · have := k2 _ ((hp _).1 h2); omega
    · have a := k1 _ ((hp _).1 h2)
      have b := h1 _ ((hp _).2 k2)
      have c := a.2 (by omega)
      have d := b.2 (by omega)
      obtain ⟨s1, s2⟩ := s
      obtain ⟨u1, u2⟩ := u
      simp only at *
      rw [Prod.mk.injEq]
      exact ⟨by omega, by omega⟩
theorem busF_ok {l : List api_Lease} (hl : ∀ t : Int, True) : ∀ (r ts : List Int) (s : Int × Int), (∀ t ∈ r, 0 ≤ t) → BusOK l ts s → BusOK l (ts ++ r) (busF l r s)
  | [], ts, s, _, h => by simpa [busF] using h
  | t :: r, ts, s, h0, h => by
    unfold busF
    have ht := h0 t List.mem_cons_self
    have e : ts ++ t :: r = (ts ++ [t]) ++ r := by simp
    rw [e]
    refine busF_ok hl r (ts ++ [t]) _ (fun u hu => h0 u (List.mem_cons_of_mem _ hu)) ?_
    obtain ⟨h1, h2⟩ := h
    by_cases hb : better s t (cntL l t) = true
    · rw [if_pos hb]
      unfold better at hb
      simp only [Bool.or_eq_true, decide_eq_true_eq, Bool.and_eq_true] at hb
      have hs : 0 ≤ s.2 := by
        rcases h2 with ⟨rfl, _⟩ | ⟨_, _, h⟩
        · exact Int.le_refl _
        · omega
      refine ⟨fun u hu => ?_, ?_⟩
      · simp only
        rcases List.mem_append.1 hu with hu | hu
        · have := h1 u hu
          rcases hb with hb | ⟨hb, hb2⟩
          · exact ⟨by omega, fun e => by omega⟩
          · exact ⟨by omega, fun e => by have := this.2 (by omega); omega⟩
        · rw [List.mem_singleton] at hu; subst hu; exact ⟨Int.le_refl _, fun _ => Int.le_refl _⟩
      · by_cases hz : cntL l t = 0
        · left
          rcases hb with hb | ⟨hb, hb2⟩
          · omega
          · rcases h2 with ⟨rfl, h2⟩ | ⟨_, _, h4⟩
            · simp only at hb2; omega
            · omega
        · right
          exact ⟨by simp, rfl, by simp only; omega⟩
    · rw [if_neg hb]
      unfold better at hb
      simp only [Bool.or_eq_true, decide_eq_true_eq, Bool.and_eq_true, not_or, not_and] at hb
      refine ⟨fun u hu => ?_, ?_⟩
      · rcases List.mem_append.1 hu with hu | hu
        · exact h1 u hu
        · rw [List.mem_singleton] at hu; subst hu
          exact ⟨by omega, fun e => by have := hb.2 e; omega⟩
      · rcases h2 with ⟨rfl, h2⟩ | ⟨h2, h3, h4⟩
        · left
          refine ⟨rfl, fun u hu => ?_⟩
          rcases List.mem_append.1 hu with hu | hu
          · exact h2 u hu
          · rw [List.mem_singleton] at hu; subst hu; have := hb.1; simp at this; omega
        · exact .inr ⟨List.mem_append_left _ h2, h3, h4⟩
/-- The beginnings of leases. -/
def begs (l : List api_Lease) : List Int := l.map fun x => x.Span.Lo
def bus (l : List api_Lease) : Int × Int := busF l (begs l) (0, 0)
theorem bus_ok {l : List api_Lease} (h : ∀ x ∈ l, GoodL x) : BusOK l (begs l) (bus l) := by
  have := busF_ok (l := l) (fun _ => trivial) (begs l) [] (0, 0) (fun t ht => by
    unfold begs at ht
    rw [List.mem_map] at ht
    obtain ⟨x, hx, rfl⟩ := ht
    exact (h x hx).lo) ⟨fun t h => by simp at h, .inl ⟨rfl, fun t h => by simp at h⟩⟩
  unfold bus
  simpa using this
/-- As the program looks at them. -/
def busP (l : List api_Lease) : List Int → Int × Int → Int × Int
  | [], s => s
  | t :: r, s => busP l r (if s.2 < (cntL l t : Int) then (t, (cntL l t : Int)) else s)
theorem busP_ok {l : List api_Lease} : ∀ (r ts : List Int) (s : Int × Int), (∀ t ∈ r, 0 ≤ t ∧ ∀ u ∈ ts, u ≤ t) → r.Pairwise (· ≤ ·) → BusOK l ts s → BusOK l (ts ++ r) (busP l r s)
  | [], ts, s, _, _, h => by simpa [busP] using h
  | t :: r, ts, s, h0, hp, h => by
    have ht := h0 t List.mem_cons_self
    rw [List.pairwise_cons] at hp
    have e : ts ++ t :: r = (ts ++ [t]) ++ r := by simp
    unfold busP
    rw [e]
    refine busP_ok r (ts ++ [t]) _ (fun u hu => ⟨(h0 u (List.mem_cons_of_mem _ hu)).1, fun v hv => ?_⟩) hp.2 ?_
    · rcases List.mem_append.1 hv with hv | hv
      · exact (h0 u (List.mem_cons_of_mem _ hu)).2 v hv
      · rw [List.mem_singleton] at hv; subst hv; exact hp.1 u hu
    obtain ⟨h1, h2⟩ := h
    by_cases hb : s.2 < (cntL l t : Int)
    · rw [if_pos hb]
      have hs : 0 ≤ s.2 := by
        rcases h2 with ⟨rfl, _⟩ | ⟨_, _, h⟩
        · exact Int.le_refl _
        · omega
      refine ⟨fun u hu => ?_, .inr ⟨by simp, rfl, by simp only; omega⟩⟩
      simp only
      rcases List.mem_append.1 hu with hu | hu
      · have := h1 u hu; exact ⟨by omega, fun e => by omega⟩
      · rw [List.mem_singleton] at hu; subst hu; exact ⟨Int.le_refl _, fun _ => Int.le_refl _⟩
    · rw [if_neg hb]
      refine ⟨fun u hu => ?_, ?_⟩
      · rcases List.mem_append.1 hu with hu | hu
        · exact h1 u hu
        · rw [List.mem_singleton] at hu; subst hu
          refine ⟨by omega, fun e => ?_⟩
          rcases h2 with ⟨rfl, _⟩ | ⟨h2, _, _⟩
          · exact ht.1
          · exact ht.2 _ h2
      · rcases h2 with ⟨rfl, h2⟩ | ⟨h2, h3, h4⟩
        · left
          refine ⟨rfl, fun u hu => ?_⟩
          rcases List.mem_append.1 hu with hu | hu
          · exact h2 u hu
          · rw [List.mem_singleton] at hu; subst hu; simp at hb; omega
        · exact .inr ⟨List.mem_append_left _ h2, h3, h4⟩
theorem bbus_eq (l : List api_Lease) (hl : l.length ≤ 20) : berth_Busiest l = some (if chk l = 0 then ((bus l).1, (bus l).2, 0) else (0, 0, chk l)) := by
  unfold berth_Busiest
  rw [bcheck_eq l (by unfold Len; omega), Option.bind_some]
  by_cases h : chk l = 0
  · rw [if_neg (by simp [h]), if_pos h, turns_eq l hl, Option.bind_some]
    have hg := chk_good h
    have hol : (ord l).length = l.length := ordL_len l l.length
    have hlo : ∀ k, k ∈ ord l → k < l.length := fun k hk => ordL_lt hk
    have e : busP l ((ord l).map (loL l)) (0, 0) = bus l := by
      refine BusOK.uniq (ts := (ord l).map (loL l)) (us := begs l) (fun t => ?_) (by
        have := busP_ok (l := l) ((ord l).map (loL l)) [] (0, 0) (fun t ht => ⟨by
          rw [List.mem_map] at ht
          obtain ⟨k, hk, rfl⟩ := ht
          unfold loL
          rw [gL_get (hlo k hk)]
          exact (hg.2.1 _ (List.getElem_mem _)).lo, fun u h => by simp at h⟩) (by
          rw [List.pairwise_map]; exact ordL_sorted l l.length) ⟨fun t h => by simp at h, .inl ⟨rfl, fun t h => by simp at h⟩⟩
        simpa using this) (bus_ok hg.2.1)
      unfold begs
      rw [List.mem_map, List.mem_map]
      constructor
      · rintro ⟨k, hk, rfl⟩
        exact ⟨l[k]'(hlo k hk), List.getElem_mem _, by unfold loL; rw [gL_get (hlo k hk)]⟩
      · rintro ⟨x, hx, rfl⟩
        obtain ⟨k, hk, rfl⟩ := List.getElem_of_mem hx
        obtain ⟨q, hq, e⟩ := ord_mem (l := l) hk
        exact ⟨k, by rw [← e]; exact List.getElem_mem hq, by unfold loL; rw [gL_get hk]⟩
    rw [← e]
    refine (lp_list (body := berth_Busiest_b2 l (tls l (ord l))) (ord l) (by omega) (fun (s : Int × Int) i => (s.1, s.2, i)) (fun s r => ((busP l (r.map (loL l)) s).1, (busP l (r.map (loL l)) s).2, (0 : Int))) (fun i s => True) (a := (0, 0)) rfl trivial (fun s i hi hJ => ?_) (fun s hJ => ?_))
    · left
      obtain ⟨t0, m0⟩ := s
      have hi' : i < (tls l (ord l)).length := by rw [tls_len]; exact hi
      have et : (tls l (ord l))[i] = tn l (ord l)[i] := by simp [tls]
      refine ⟨if m0 < (cntL l (loL l (ord l)[i]) : Int) then (loL l (ord l)[i], (cntL l (loL l (ord l)[i]) : Int)) else (t0, m0), ?_, by simp only [List.map_cons, busP], trivial⟩
      generalize (ord l)[i] = v at et ⊢
      unfold berth_Busiest_b2
      simp only
      rw [if_pos (by simpa using hi'), ix_lt hi', Option.bind_some, et]
      have hcl := cntL_le l (loL l v)
      have el : (tn l v).Lease.Span.Lo = loL l v := rfl
      have fin : berth_Busiest_j4 t0 m0 (i : Int) (tn l v) (cntL l (loL l v) : Nat) = some (.inl ((if m0 < (cntL l (loL l v) : Int) then (loL l v, (cntL l (loL l v) : Int)) else (t0, m0)).1, (if m0 < (cntL l (loL l v) : Int) then (loL l v, (cntL l (loL l v) : Int)) else (t0, m0)).2, ((i + 1 : Nat) : Int))) := by
        unfold berth_Busiest_j4
        by_cases hc : m0 < (cntL l (loL l v) : Int)
        · rw [if_pos (by simpa using hc), if_pos hc, el]
          unfold berth_Busiest_j3
          rw [w64s' hi (by omega)]
        · rw [if_neg (by simpa using hc), if_neg hc]
          unfold berth_Busiest_j3
          rw [w64s' hi (by omega)]
      refine (lp_list (body := berth_Busiest_b5 l t0 m0 (i : Int) (tn l v)) l (by omega) (fun (n : Nat) k => ((n : Int), k)) (fun n r => (.inl ((if m0 < (cntL l (loL l v) : Int) then (loL l v, (cntL l (loL l v) : Int)) else (t0, m0)).1, (if m0 < (cntL l (loL l v) : Int) then (loL l v, (cntL l (loL l v) : Int)) else (t0, m0)).2, ((i + 1 : Nat) : Int)) : (Int × Int × Int) ⊕ (Int × Int × Int))) (fun k n => n = cntL (l.take k) (loL l v)) (a := 0) rfl rfl (fun n k hk hJ => ?_) (fun n hJ => ?_))
      · left
        subst hJ
        have hcl2 := cntL_le (l.take k) (loL l v)
        rw [List.length_take] at hcl2
        refine ⟨_, ?_, rfl, rfl⟩
        unfold berth_Busiest_b5
        simp only
        rw [if_pos (by simpa using hk), ix_lt hk, Option.bind_some, el]
        have e : cntL (l.take (k + 1)) (loL l v) = cntL (l.take k) (loL l v) + if berth_within (loL l v) l[k].Span.Lo l[k].Span.Hi = true then 1 else 0 := by
          unfold cntL
          rw [← List.take_append_getElem hk, List.countP_append, List.countP_singleton]
          rfl
        rw [e]
        split
        · unfold berth_Busiest_j6
          rw [w64s _ (by omega), w64s' hk (by omega)]
        · unfold berth_Busiest_j6
          rw [w64s' hk (by omega)]; rfl
      · subst hJ
        unfold berth_Busiest_b5
        simp only
        rw [if_neg (by simp), List.take_length, fin]; rfl
    · obtain ⟨t0, m0⟩ := s
      unfold berth_Busiest_b2
      simp only
      rw [if_neg (by rw [tls_len]; simp)]; rfl
  · rw [if_pos (by simp [h]), if_neg h]

/-! Equal lists. -/
theorem same_gen {α : Type} [DecidableEq α] (a b : List α) (hl : Len a) {body : Int → Option (Int ⊕ Bool)} (e : a.length = b.length) (h1 : ∀ (i : Nat) (ha : i < a.length) (hb : i < b.length), body (i : Int) = some (if a[i] = b[i] then .inl ((i + 1 : Nat) : Int) else .inr false)) (h2 : body (a.length : Int) = some (.inr true)) : Lp body fuel 0 = some (decide (a = b)) := by
  suffices h : ∃ r, Lp body fuel 0 = some r ∧ r = decide (a = b) by obtain ⟨r, h, rfl⟩ := h; exact h
  unfold Len at hl
  refine lp_inv' (fun i s => s = (i : Int) ∧ a.take i = b.take i) _ a.length (by omega) ⟨rfl, by simp⟩ fun i s hi hI => ?_
  obtain ⟨rfl, hI⟩ := hI
  by_cases hc : i < a.length
  · have hb : i < b.length := by omega
    rw [h1 i hc hb]
    by_cases he : a[i] = b[i]
    · rw [if_pos he]
      refine .inl ⟨hc, _, rfl, rfl, ?_⟩
      rw [← List.take_append_getElem hc, ← List.take_append_getElem hb, hI, he]
    · rw [if_neg he]
      refine .inr ⟨_, rfl, ?_⟩
      symm
      rw [decide_eq_false_iff_not]
      rintro rfl
      exact he rfl
  · have e2 : i = a.length := by omega
    subst e2
    refine .inr ⟨_, h2, ?_⟩
    rw [List.take_length, e, List.take_length] at hI
    symm
    simpa using hI
theorem sameL_eq (a b : List api_Lease) (hl : Len a) : ref06_SameLeases a b = some (decide (a = b)) := by
  unfold ref06_SameLeases
  by_cases h : a.length = b.length
  · rw [if_neg (by simp [h])]
    refine same_gen a b hl h (fun i ha hb => ?_) ?_
    · unfold ref06_SameLeases_b2
      rw [if_pos (by simpa using ha), ix_lt ha, Option.bind_some, ix_lt hb, Option.bind_some, w64s' ha hl]
      by_cases e : a[i] = b[i] <;> simp [e]
    · unfold ref06_SameLeases_b2; rw [if_neg (by simp)]; rfl
  · rw [if_pos (by simp; omega)]
    congr 1; symm; rw [decide_eq_false_iff_not]; rintro rfl; exact h rfl
end Go.Mx
