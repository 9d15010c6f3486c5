/- HullFloats: the plain law. Conditions: none. -/
import Derived.Test.YthfnbjoecocfaaaGreatLawHs
set_option linter.unusedVariables false
namespace Go.Mx
theorem pair_Disp (s : api_Ship) (x : List Int) (hl : Len s.Holds) (hx : Len x) : ∃ n e, hull_Displacement s x = some (n, e) ∧ ref03_Displacement s x = some ⟨n, e⟩ := by
 unfold hull_Displacement ref03_Displacement
 rw [hloaded_eq s [x] hl (by simp), rgiven_eq s x hl hx, Option.bind_some, Option.bind_some]
 by_cases h : loadedE s [x] = 0
 ·obtain ⟨hc, hr⟩ := given_one h
  have hs := GoodS.of hc
  have hm := hr.mass hs
  have hlt := hs.light
  rw [if_neg (by simp [h]), if_neg (by simp [h]), sumx_eq hs hr, rdisp_eq hs hr, Option.bind_some, Option.bind_some, w64_u (by omega)]
  exact ⟨_, _, rfl, rfl⟩
 ·rw [if_pos (by simp [h]), if_pos (by simp [h])]; exact ⟨_, _, rfl, rfl⟩
theorem pair_Mom (s : api_Ship) (x : List Int) (hl : Len s.Holds) (hx : Len x) : ∃ n e, hull_Moment s x = some (n, e) ∧ ref03_Moment s x = some ⟨n, e⟩ := by
 unfold hull_Moment ref03_Moment
 rw [hloaded_eq s [x] hl (by simp), rgiven_eq s x hl hx, Option.bind_some, Option.bind_some]
 by_cases h : loadedE s [x] = 0
 ·obtain ⟨hc, hr⟩ := given_one h
  have hs := GoodS.of hc
  rw [if_neg (by simp [h]), if_neg (by simp [h]), hmoment_eq hs hr, rmoment_eq hs hr]
  exact ⟨_, _, rfl, rfl⟩
 ·rw [if_pos (by simp [h]), if_pos (by simp [h])]; exact ⟨_, _, rfl, rfl⟩
theorem pair_Grav (s : api_Ship) (x : List Int) (hl : Len s.Holds) (hx : Len x) : ∃ n e, hull_Gravity s x = some (n, e) ∧ ref03_Gravity s x = some ⟨n, e⟩ := by
 unfold hull_Gravity ref03_Gravity
 rw [hloaded_eq s [x] hl (by simp), rgiven_eq s x hl hx, Option.bind_some, Option.bind_some]
 by_cases h : loadedE s [x] = 0
 ·obtain ⟨hc, hr⟩ := given_one h
  have hs := GoodS.of hc
  have hm := hr.mass hs
  have hlt := hs.light
  have hb := riseV_bd hs hr
  obtain ⟨f, g, q, _⟩ := low_spec (num := riseV s x) (den := s.Light + x.sum) (by omega) (by omega)
  rw [if_neg (by simp [h]), if_neg (by simp [h]), hrise_eq hs hr, rrise_eq hs hr, Option.bind_some, Option.bind_some, sumx_eq hs hr, rdisp_eq hs hr, Option.bind_some, Option.bind_some, w64_u (by omega), low_lowest (by omega), q]
  exact ⟨_, _, rfl, rfl⟩
 ·rw [if_pos (by simp [h]), if_pos (by simp [h])]; exact ⟨_, _, rfl, rfl⟩
theorem pair_Meta (s : api_Ship) (m : Int) (hl : Len s.Holds) : ∃ n e, hull_Meta s m = some (n, e) ∧ ref03_Meta s m = some ⟨n, e⟩ := by
 unfold hull_Meta ref03_Meta
 rw [hcheck_eq s hl, rcheck_eq s hl, Option.bind_some, Option.bind_some]
 by_cases h : chk s = 0
 ·have hs := GoodS.of h
  have hlt := hs.light
  have hr := hs.rooms
  rw [if_neg (by simp [h]), if_neg (by simp [h]), (hrooms_eq s hl).resolve_right (by rw [w64_u (by omega)]; simp), rrooms_eq s hl, Option.bind_some, Option.bind_some, w64_add', w64_u (a := s.Light + roomSum s.Holds) (by omega)]
  have e : ref03_in m s.Light (s.Light + roomSum s.Holds) = hull_within m s.Light (s.Light + roomSum s.Holds) := rfl
  rw [e]
  by_cases hi : hull_within m s.Light (s.Light + roomSum s.Holds) = true
  ·have hi2 := hi
   simp only [hull_within, Bool.and_eq_true, decide_eq_true_eq] at hi2
   obtain ⟨p1, p2, p3, p4, p5, _⟩ := at_spec hs.cmeta hi2.1 hi2.2
   obtain ⟨f, g, q, _⟩ := low_spec (num := (atP s.Mtac m).1) (den := (atP s.Mtac m).2) (by omega) (by omega)
   rw [if_neg (by simp [hi]), if_neg (by simp [hi]), p1, rat_spec hs.cmeta hi2.1 hi2.2, Option.bind_some, Option.bind_some]
   simp only
   rw [low_lowest (by omega), q]
   exact ⟨_, _, rfl, rfl⟩
  ·rw [if_pos (by simpa using hi), if_pos (by simpa using hi)]; exact ⟨_, _, rfl, rfl⟩
 ·rw [if_pos (by simp [h]), if_pos (by simp [h])]; exact ⟨_, _, rfl, rfl⟩
theorem pair_Stiff (s : api_Ship) (x : List Int) (hl : Len s.Holds) (hx : Len x) : ∃ n e, hull_Stiff s x = some (n, e) ∧ ref03_Stiff s x = some ⟨n, e⟩ := by
 by_cases h : loadedE s [x] = 0
 ·obtain ⟨hc, hr⟩ := given_one h
  have hs := GoodS.of hc
  obtain ⟨b1, b2, _⟩ := stf_bd hs hr
  obtain ⟨f, g, q, _⟩ := low_spec (num := stfN s x) (den := stfD s x) (by omega) (by omega)
  unfold ref03_Stiff
  rw [hstiff_low hc hr, rgiven_eq s x hl hx, Option.bind_some, if_neg (by simp [h]), rstiff_eq hs hr, Option.bind_some]
  simp only
  rw [low_lowest (by omega), q]
  exact ⟨_, _, rfl, rfl⟩
 ·unfold hull_Stiff ref03_Stiff
  rw [hloaded_eq s [x] hl (by simp), rgiven_eq s x hl hx, Option.bind_some, Option.bind_some, if_pos (by simp [h]), if_pos (by simp [h])]; exact ⟨_, _, rfl, rfl⟩
theorem pair_Afl (s : api_Ship) (x : List Int) (hl : Len s.Holds) (hx : Len x) : ∃ n e, hull_Afloat s x = some (n, e) ∧ ref03_Afloat s x = some ⟨n, e⟩ := by
 unfold hull_Afloat ref03_Afloat
 rw [hloaded_eq s [x] hl (by simp), rgiven_eq s x hl hx, Option.bind_some, Option.bind_some]
 by_cases h : loadedE s [x] = 0
 ·obtain ⟨hc, hr⟩ := given_one h
  have hs := GoodS.of hc
  rw [if_neg (by simp [h]), if_neg (by simp [h]), hafloat_eq hs hr, rafloat_eq hs hr]
  exact ⟨_, _, rfl, rfl⟩
 ·rw [if_pos (by simp [h]), if_pos (by simp [h])]; exact ⟨_, _, rfl, rfl⟩
theorem holds_HullFloats {s : api_Ship} {x : List Int} {mass : Int} (h0 : ok_api_Ship s) (h1 : ok_28 x) (h2 : OkI .i64 mass) : law03_HullFloats s x mass = some true := by
 have hl : Len s.Holds := h0.2.2.2.2.1.1
 have hx : Len x := h1.1
 unfold law03_HullFloats
 split
 ·rw [sanity3_true]; rfl
 ·obtain ⟨n1, e1, a1, b1⟩ := pair_Disp s x hl hx
  obtain ⟨n2, e2, a2, b2⟩ := pair_Mom s x hl hx
  obtain ⟨n3, e3, a3, b3⟩ := pair_Grav s x hl hx
  obtain ⟨n4, e4, a4, b4⟩ := pair_Meta s mass hl
  obtain ⟨n5, e5, a5, b5⟩ := pair_Stiff s x hl hx
  obtain ⟨n6, e6, a6, b6⟩ := pair_Afl s x hl hx
  rw [a1, b1, a2, b2, a3, b3, a4, b4, a5, b5, a6, b6, sanity3_true]
  simp
end Go.Mx
