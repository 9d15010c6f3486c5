/- Functions of the program as plain functions. Conditions: none. Printed by a program (wip/tools/xg.py). -/
import Derived.Test.YtphmekpaalfliaaGreatXl
set_option linter.unusedVariables false
namespace Go.Mx

structure api_Cycle where
  ID : Int
  Begin : Int
  Every : Int
  Heights : (List Int)
  deriving DecidableEq, Inhabited

structure api_Shift where
  From : Int
  To : Int
  Add : Int
  deriving DecidableEq, Inhabited

structure api_Water where
  Level : Int
  Cycles : (List api_Cycle)
  Shifts : (List api_Shift)
  deriving DecidableEq, Inhabited

structure api_Span where
  Lo : Int
  Hi : Int
  deriving DecidableEq, Inhabited

structure api_Gauge where
  ID : Int
  Tick : Int
  Read : api_Span
  deriving DecidableEq, Inhabited

def law02_few_j1 (w : api_Water) : Option Bool :=
  some ((decide ((w.Cycles.length : Int) ≤ 8)) && (decide ((w.Shifts.length : Int) ≤ 30)))

def law02_few_b2 (w : api_Water) : Int → Option (Int ⊕ Bool)
  | i =>
    if decide (i < (w.Cycles.length : Int)) then
      Option.bind (ix w.Cycles i) fun x =>
      if decide (100 < (x.Heights.length : Int)) then
        some (.inr false)
      else
        some (.inl (w64 (i + 1)))
    else
      ((law02_few_j1 w).map Sum.inr)

def law02_few (w : api_Water) : Option Bool :=
  Lp (law02_few_b2 w) fuel 0

def law02_example : api_Water :=
  (⟨100, [(⟨1, 10, 5, [0, 30, 20]⟩ : api_Cycle), (⟨2, 0, 10, [1, 2]⟩ : api_Cycle)], [(⟨1, 1, 7⟩ : api_Shift)]⟩ : api_Water)

def tide_within (n : Int) (lo : Int) (hi : Int) : Bool :=
  ((decide (lo ≤ n)) && (decide (n ≤ hi)))

def tide_minute (tick : Int) : Bool :=
  (tide_within tick 0 1048576)

def tide_level (n : Int) : Bool :=
  (tide_within n (-4000) 4000)

def tide_right_1 (h : Int) : Bool :=
  !(tide_level h)

def slices_IndexFunc_int__tide_right_1_j1 : Option Int :=
  some (-1)

def slices_IndexFunc_int__tide_right_1_b2 (s : (List Int)) : Int → Option (Int ⊕ Int)
  | x1 =>
    if decide (x1 < (s.length : Int)) then
      Option.bind (ix s x1) fun x =>
      if (tide_right_1 x) then
        some (.inr x1)
      else
        some (.inl (w64 (x1 + 1)))
    else
      ((slices_IndexFunc_int__tide_right_1_j1).map Sum.inr)

def slices_IndexFunc_int__tide_right_1 (s : (List Int)) : Option Int :=
  Lp (slices_IndexFunc_int__tide_right_1_b2 s) fuel 0

def slices_ContainsFunc_int__tide_right_1 (s : (List Int)) : Option Bool :=
  Option.bind (slices_IndexFunc_int__tide_right_1 s) fun y =>
  some (decide (0 ≤ y))

def tide_right (c : api_Cycle) : Option Bool :=
  gb ((((((tide_within c.ID 1 1099511627776) && (tide_minute c.Begin)) && (tide_within c.Every 1 120)) && (tide_within (c.Heights.length : Int) 1 60)))) (slices_ContainsFunc_int__tide_right_1 c.Heights) fun y =>
  some (((((tide_within c.ID 1 1099511627776) && (tide_minute c.Begin)) && (tide_within c.Every 1 120)) && (tide_within (c.Heights.length : Int) 1 60)) && (!y))

def tide_below (a : Int) (b : Int) : Option (Int × Int) :=
  Option.bind (rem a b) fun q =>
  Option.bind (rem (w64 (q + b)) b) fun q1 =>
  Option.bind (quo (w64 (a - q1)) b) fun q2 =>
  some (q2, q1)

def tide_value (c : api_Cycle) (tick : Int) : Option Int :=
  Option.bind (tide_below (w64 (tick - c.Begin)) c.Every) fun y =>
  Option.bind (tide_below y.1 (c.Heights.length : Int)) fun y1 =>
  Option.bind (ix c.Heights y1.2) fun x =>
  some x

def tide_Value (c : api_Cycle) (tick : Int) : Option (Int × Int) :=
  Option.bind (tide_right c) fun y =>
  if ((!y) || (!(tide_minute tick))) then
    some (0, 1)
  else
    Option.bind (tide_value c tick) fun y1 =>
    some (y1, 0)

def tide_Check_1 (x : api_Cycle) (c : api_Cycle) : Bool :=
  decide (x.ID = c.ID)

def slices_IndexFunc_api_Cycle__tide_Check_1_j1 : Option Int :=
  some (-1)

def slices_IndexFunc_api_Cycle__tide_Check_1_b2 (s : (List api_Cycle)) (c : api_Cycle) : Int → Option (Int ⊕ Int)
  | x1 =>
    if decide (x1 < (s.length : Int)) then
      Option.bind (ix s x1) fun x =>
      if (tide_Check_1 x c) then
        some (.inr x1)
      else
        some (.inl (w64 (x1 + 1)))
    else
      ((slices_IndexFunc_api_Cycle__tide_Check_1_j1).map Sum.inr)

def slices_IndexFunc_api_Cycle__tide_Check_1 (s : (List api_Cycle)) (c : api_Cycle) : Option Int :=
  Lp (slices_IndexFunc_api_Cycle__tide_Check_1_b2 s c) fuel 0

def slices_ContainsFunc_api_Cycle__tide_Check_1 (s : (List api_Cycle)) (c : api_Cycle) : Option Bool :=
  Option.bind (slices_IndexFunc_api_Cycle__tide_Check_1 s c) fun y =>
  some (decide (0 ≤ y))

def tide_Check_j2 : Option Int :=
  some 0

def tide_Check_b3 (w : api_Water) : (Int × Int) → Option ((Int × Int) ⊕ Int)
  | (last, x1) =>
    if decide (x1 < (w.Shifts.length : Int)) then
      Option.bind (ix w.Shifts x1) fun x =>
      if (((!(tide_within x.From (w64 (last + 1)) x.To)) || (decide (728 < x.To))) || (!(tide_level x.Add))) then
        some (.inr 1)
      else
        some (.inl (x.To, w64 (x1 + 1)))
    else
      ((tide_Check_j2).map Sum.inr)

def tide_Check_j1 (w : api_Water) : Option Int :=
  Lp (tide_Check_b3 w) fuel ((-1), 0)

def tide_Check_b4 (w : api_Water) : Int → Option (Int ⊕ Int)
  | x3 =>
    if decide (x3 < (w.Cycles.length : Int)) then
      Option.bind (ix w.Cycles x3) fun x2 =>
      Option.bind (tide_right x2) fun y =>
      if !y then
        some (.inr 1)
      else
        Option.bind (sub w.Cycles 0 x3) fun l =>
        Option.bind (slices_ContainsFunc_api_Cycle__tide_Check_1 l x2) fun y1 =>
        if y1 then
          some (.inr 6)
        else
          some (.inl (w64 (x3 + 1)))
    else
      ((tide_Check_j1 w).map Sum.inr)

def tide_Check (w : api_Water) : Option Int :=
  if !(tide_level w.Level) then
    some 1
  else
    if ((decide (6 < (w.Cycles.length : Int))) || (decide (20 < (w.Shifts.length : Int)))) then
      some 2
    else
      Lp (tide_Check_b4 w) fuel 0

/-- The parts of a water: it tells them all. -/
def tide_parts (w : api_Water) : Option api_Water := if w.Cycles.length ≤ 9223372036854775807 then some w else none

def tide_heights (w : api_Water) : Option (api_Water × api_Water) :=
  Option.bind (tide_parts w) fun y =>
  some (w, y)

def tide_correction_j1 : Option Int :=
  some 0

def tide_correction_b2 (w : api_Water) (tick : Int) : Int → Option (Int ⊕ Int)
  | x1 =>
    if decide (x1 < (w.Shifts.length : Int)) then
      Option.bind (ix w.Shifts x1) fun x =>
      Option.bind (quo tick 1440) fun q =>
      if (tide_within q x.From x.To) then
        some (.inr x.Add)
      else
        some (.inl (w64 (x1 + 1)))
    else
      ((tide_correction_j1).map Sum.inr)

def tide_correction (w : api_Water) (tick : Int) : Option Int :=
  Lp (tide_correction_b2 w tick) fuel 0

def tide_parts_1 (tick : Int) (c : api_Water) : Option Int :=
  Option.bind (tide_correction c tick) fun y =>
  some y

def tide_parts_2 (tick : Int) (c : api_Cycle) : Option Int :=
  Option.bind (tide_value c tick) fun y =>
  some y

def tide_heights_1_j1 (h : Int) : Option Int :=
  some h

def tide_heights_1_b2 (tick : Int) (c : api_Water) (c1 : api_Water) : (Int × Int) → Option ((Int × Int) ⊕ Int)
  | (h1, i) =>
    if decide (i < (c.Cycles.length : Int)) then
      if decide (i = -1) then
        Option.bind (tide_parts_1 tick c1) fun y =>
        some (.inl (w64 (h1 + y), w64 (i + 1)))
      else
        Option.bind (ix c1.Cycles i) fun c2 =>
        Option.bind (tide_parts_2 tick c2) fun y1 =>
        some (.inl (w64 (h1 + y1), w64 (i + 1)))
    else
      ((tide_heights_1_j1 h1).map Sum.inr)

def tide_heights_1 (tick : Int) (c : api_Water) (c1 : api_Water) : Option Int :=
  Lp (tide_heights_1_b2 tick c c1) fuel (c.Level, (-1))

def tide_Height (w : api_Water) (tick : Int) : Option (Int × Int) :=
  Option.bind (tide_Check w) fun y =>
  if !decide (y = 0) then
    some (0, y)
  else
    if !(tide_minute tick) then
      some (0, 1)
    else
      Option.bind (tide_heights w) fun y1 =>
      Option.bind (tide_heights_1 tick y1.1 y1.2) fun y2 =>
      some (y2, 0)

def tide_minutes (s : api_Span) : Int :=
  if (((decide (s.Lo < 0)) || (decide (s.Hi < s.Lo))) || (decide (1048576 < s.Hi))) then
    1
  else
    if decide (10080 ≤ (w64 (s.Hi - s.Lo))) then
      2
    else
      0

def tide_asked (w : api_Water) (s : api_Span) : Option Int :=
  Option.bind (tide_Check w) fun y =>
  if !decide (y = 0) then
    some y
  else
    some (tide_minutes s)

def tide_stands (w : api_Water) (s : api_Span) : api_Water × api_Span :=
  (w, s)

def tide_extreme_j2 (Lo2 : Int) (Hi2 : Int) (Height2 : Int) (some_1 : Bool) : Option (Int × Int × Int) :=
  some (Height2, Lo2, 0)

def tide_extreme_j1 (sign : Int) (Lo : Int) (Hi : Int) (Height : Int) (Lo1 : Int) (Hi1 : Int) (Height1 : Int) (some_ : Bool) : Option (Int × Int × Int) :=
  if ((!some_) || (decide ((w64 (sign * Height1)) < (w64 (sign * Height))))) then
    tide_extreme_j2 Lo Hi Height true
  else
    tide_extreme_j2 Lo1 Hi1 Height1 some_

def tide_extreme_j4 (t : Int) (Lo3 : Int) (Height3 : Int) (Lo4 : Int) (Hi3 : Int) (Height4 : Int) (some_2 : Bool) : Option ((Int × Int × Int × Int × Int × Int × Int × Bool) ⊕ (Int × Int × Int)) :=
  some (.inl (w64 (t + 1), Lo3, t, Height3, Lo4, Hi3, Height4, some_2))

def tide_extreme_j5 (t : Int) (y3 : Int) (Lo7 : Int) (Hi6 : Int) (Height7 : Int) (some_4 : Bool) : Option ((Int × Int × Int × Int × Int × Int × Int × Bool) ⊕ (Int × Int × Int)) :=
  tide_extreme_j4 t t y3 Lo7 Hi6 Height7 some_4

def tide_extreme_b3 (w : api_Water) (s : api_Span) (sign : Int) (y1 : api_Water × api_Water) : (Int × Int × Int × Int × Int × Int × Int × Bool) → Option ((Int × Int × Int × Int × Int × Int × Int × Bool) ⊕ (Int × Int × Int))
  | (t, Lo5, Hi4, Height5, Lo6, Hi5, Height6, some_3) =>
    if decide (t ≤ ((tide_stands w s).2.Hi)) then
      Option.bind (tide_heights_1 t y1.1 y1.2) fun y3 =>
      if decide (y3 = Height5) then
        tide_extreme_j4 t Lo5 Height5 Lo6 Hi5 Height6 some_3
      else
        if ((!some_3) || (decide ((w64 (sign * Height6)) < (w64 (sign * Height5))))) then
          tide_extreme_j5 t y3 Lo5 Hi4 Height5 true
        else
          tide_extreme_j5 t y3 Lo6 Hi5 Height6 some_3
    else
      ((tide_extreme_j1 sign Lo5 Hi4 Height5 Lo6 Hi5 Height6 some_3).map Sum.inr)

def tide_extreme (w : api_Water) (s : api_Span) (sign : Int) : Option (Int × Int × Int) :=
  Option.bind (tide_asked w s) fun y =>
  if !decide (y = 0) then
    some (0, 0, y)
  else
    Option.bind (tide_heights ((tide_stands w s).1)) fun y1 =>
    Option.bind (tide_heights_1 ((tide_stands w s).2.Lo) y1.1 y1.2) fun y2 =>
    Lp (tide_extreme_b3 w s sign y1) fuel (w64 (((tide_stands w s).2.Lo) + 1), (tide_stands w s).2.Lo, (tide_stands w s).2.Lo, y2, 0, 0, 0, false)

def tide_Highest (w : api_Water) (s : api_Span) : Option (Int × Int × Int) :=
  Option.bind (tide_extreme w s 1) fun y =>
  some (y.1, y.2.1, y.2.2)

structure api_Stand where
  Span : api_Span
  Height : Int
  deriving DecidableEq, Inhabited

def slices_AppendSeq_api_Stand__tide_stands_1_j1 (Lo : Int) (Hi : Int) (Height : Int) (l : (List api_Stand)) : Option (List api_Stand) :=
  Option.bind (app l ([(⟨(⟨Lo, Hi⟩ : api_Span), Height⟩ : api_Stand)])) fun l1 =>
  some l1

def slices_AppendSeq_api_Stand__tide_stands_1_j3 (t : Int) (Lo1 : Int) (Height1 : Int) (l2 : (List api_Stand)) : Option ((Int × Int × Int × Int × (List api_Stand)) ⊕ (List api_Stand)) :=
  some (.inl (w64 (t + 1), Lo1, t, Height1, l2))

def slices_AppendSeq_api_Stand__tide_stands_1_b2 (c1 : api_Span) (y : api_Water × api_Water) : (Int × Int × Int × Int × (List api_Stand)) → Option ((Int × Int × Int × Int × (List api_Stand)) ⊕ (List api_Stand))
  | (t, Lo2, Hi1, Height2, l4) =>
    if decide (t ≤ c1.Hi) then
      Option.bind (tide_heights_1 t y.1 y.2) fun y2 =>
      if decide (y2 = Height2) then
        slices_AppendSeq_api_Stand__tide_stands_1_j3 t Lo2 Height2 l4
      else
        Option.bind (app l4 ([(⟨(⟨Lo2, Hi1⟩ : api_Span), Height2⟩ : api_Stand)])) fun l3 =>
        slices_AppendSeq_api_Stand__tide_stands_1_j3 t t y2 l3
    else
      ((slices_AppendSeq_api_Stand__tide_stands_1_j1 Lo2 Hi1 Height2 l4).map Sum.inr)

def slices_AppendSeq_api_Stand__tide_stands_1 (c : api_Water) (c1 : api_Span) : Option (List api_Stand) :=
  Option.bind (tide_heights c) fun y =>
  Option.bind (tide_heights_1 c1.Lo y.1 y.2) fun y1 =>
  Lp (slices_AppendSeq_api_Stand__tide_stands_1_b2 c1 y) fuel (w64 (c1.Lo + 1), c1.Lo, c1.Lo, y1, [])

def slices_Collect_api_Stand__tide_stands_1 (c : api_Water) (c1 : api_Span) : Option (List api_Stand) :=
  Option.bind (slices_AppendSeq_api_Stand__tide_stands_1 c c1) fun y =>
  some y

def tide_Stands (w : api_Water) (s : api_Span) : Option ((List api_Stand) × Int) :=
  Option.bind (tide_asked w s) fun y =>
  if !decide (y = 0) then
    some ([], y)
  else
    Option.bind (slices_Collect_api_Stand__tide_stands_1 ((tide_stands w s).1) ((tide_stands w s).2)) fun y1 =>
    some (y1, 0)

def tide_turns_j1 (y : (List api_Stand) × Int) (l : (List api_Stand)) : Option ((List api_Stand) × Int) :=
  some (l, y.2)

def tide_turns_j3 (i : Int) (l1 : (List api_Stand)) : Option ((Int × (List api_Stand)) ⊕ ((List api_Stand) × Int)) :=
  some (.inl (w64 (i + 1), l1))

def tide_turns_b2 (sign : Int) (y : (List api_Stand) × Int) : (Int × (List api_Stand)) → Option ((Int × (List api_Stand)) ⊕ ((List api_Stand) × Int))
  | (i, l3) =>
    if decide ((w64 (i + 1)) < (y.1.length : Int)) then
      Option.bind (ix y.1 i) fun x =>
      Option.bind (ix y.1 (w64 (i - 1))) fun x1 =>
      gb ((decide ((w64 (sign * x1.Height)) < (w64 (sign * x.Height))))) (ix y.1 i) fun x2 =>
      gb ((decide ((w64 (sign * x1.Height)) < (w64 (sign * x.Height))))) (ix y.1 (w64 (i + 1))) fun x3 =>
      if ((decide ((w64 (sign * x1.Height)) < (w64 (sign * x.Height)))) && (decide ((w64 (sign * x3.Height)) < (w64 (sign * x2.Height))))) then
        Option.bind (ix y.1 i) fun x4 =>
        Option.bind (app l3 ([x4])) fun l2 =>
        tide_turns_j3 i l2
      else
        tide_turns_j3 i l3
    else
      ((tide_turns_j1 y l3).map Sum.inr)

def tide_turns (w : api_Water) (s : api_Span) (sign : Int) : Option ((List api_Stand) × Int) :=
  Option.bind (tide_Stands w s) fun y =>
  Lp (tide_turns_b2 sign y) fuel (1, [])

def tide_LowWaters (w : api_Water) (s : api_Span) : Option ((List api_Stand) × Int) :=
  Option.bind (tide_turns w s (-1)) fun y =>
  some (y.1, y.2)

def tide_Windows_j1 (height : Int) (Lo : Int) (Hi : Int) (Height : Int) (l : (List api_Span)) : Option ((List api_Span) × Int) :=
  if decide (Height < height) then
    some (l, 0)
  else
    gb ((decide (0 < (l.length : Int)))) (ix l (w64 ((l.length : Int) - 1))) fun x =>
    if ((decide (0 < (l.length : Int))) && (decide ((w64 (x.Hi + 1)) = Lo))) then
      Option.bind (ix l (w64 ((l.length : Int) - 1))) fun x1 =>
      some ((put l (w64 ((l.length : Int) - 1)) (⟨x1.Lo, Hi⟩ : api_Span)), 0)
    else
      Option.bind (app l ([(⟨Lo, Hi⟩ : api_Span)])) fun l1 =>
      some (l1, 0)

def tide_Windows_j3 (t : Int) (Lo1 : Int) (Height1 : Int) (l2 : (List api_Span)) : Option ((Int × Int × Int × Int × (List api_Span)) ⊕ ((List api_Span) × Int)) :=
  some (.inl (w64 (t + 1), Lo1, t, Height1, l2))

def tide_Windows_b2 (w : api_Water) (s : api_Span) (height : Int) (y1 : api_Water × api_Water) : (Int × Int × Int × Int × (List api_Span)) → Option ((Int × Int × Int × Int × (List api_Span)) ⊕ ((List api_Span) × Int))
  | (t, Lo2, Hi1, Height2, l5) =>
    if decide (t ≤ ((tide_stands w s).2.Hi)) then
      Option.bind (tide_heights_1 t y1.1 y1.2) fun y3 =>
      if decide (y3 = Height2) then
        tide_Windows_j3 t Lo2 Height2 l5
      else
        if decide (Height2 < height) then
          tide_Windows_j3 t t y3 l5
        else
          gb ((decide (0 < (l5.length : Int)))) (ix l5 (w64 ((l5.length : Int) - 1))) fun x2 =>
          if ((decide (0 < (l5.length : Int))) && (decide ((w64 (x2.Hi + 1)) = Lo2))) then
            Option.bind (ix l5 (w64 ((l5.length : Int) - 1))) fun x3 =>
            tide_Windows_j3 t t y3 (put l5 (w64 ((l5.length : Int) - 1)) (⟨x3.Lo, Hi1⟩ : api_Span))
          else
            Option.bind (app l5 ([(⟨Lo2, Hi1⟩ : api_Span)])) fun l3 =>
            tide_Windows_j3 t t y3 l3
    else
      ((tide_Windows_j1 height Lo2 Hi1 Height2 l5).map Sum.inr)

def tide_Windows (w : api_Water) (s : api_Span) (height : Int) : Option ((List api_Span) × Int) :=
  Option.bind (tide_asked w s) fun y =>
  if !decide (y = 0) then
    some ([], y)
  else
    Option.bind (tide_heights ((tide_stands w s).1)) fun y1 =>
    Option.bind (tide_heights_1 ((tide_stands w s).2.Lo) y1.1 y1.2) fun y2 =>
    Lp (tide_Windows_b2 w s height y1) fuel (w64 (((tide_stands w s).2.Lo) + 1), (tide_stands w s).2.Lo, (tide_stands w s).2.Lo, y2, [])

def tide_Lowest (w : api_Water) (s : api_Span) : Option (Int × Int × Int) :=
  Option.bind (tide_extreme w s (-1)) fun y =>
  some (y.1, y.2.1, y.2.2)

def tide_least_j1 (first1 : Int) : Option Int :=
  some first1

def tide_least_b2 (l : (List Int)) : (Int × Int) → Option ((Int × Int) ⊕ Int)
  | (first2, x1) =>
    if decide (x1 < (l.length : Int)) then
      Option.bind (ix l x1) fun x =>
      some (.inl (min first2 x, w64 (x1 + 1)))
    else
      ((tide_least_j1 first2).map Sum.inr)

def tide_least (first : Int) (l : (List Int)) : Option Int :=
  Lp (tide_least_b2 l) fuel (first, 0)

structure tide_floor where
  w : api_Water
  parts : api_Water
  lowest : (Option (List (Int × Int)))
  deriving DecidableEq, Inhabited

/-- A part of a water at a minute. -/
def tide_part (w : api_Water) (i : Int) (tick : Int) : Option Int :=
  if i = -1 then tide_parts_1 tick w else Option.bind (ix w.Cycles i) fun c => tide_parts_2 tick c
def lookI : List (Int × Int) → Int → Option Int
  | [], _ => none
  | (k, v) :: r, i => if i = k then some v else lookI r i
def tide_grown1 (f : tide_floor) (tick i : Int) : Option Int :=
  Option.bind (tide_part f.parts i tick) fun n => match Option.bind f.lowest (lookI · i) with
    | some old => tide_least n [old]
    | none => some n
def tide_partKeys (w : api_Water) : List Int := (List.range (w.Cycles.length + 1)).map fun (i : Nat) => (i : Int) - 1
/-- What the floor is with one minute more. -/
def tide_floor_grown (f : tide_floor) (tick : Int) : Option (Int × Option (List (Int × Int))) :=
  Option.bind (mapOpt (tide_grown1 f tick) (tide_partKeys f.parts)) fun ns =>
  some (w64 (f.w.Level + ns.sum), some ((tide_partKeys f.parts).zip ns))

def tide_Prove_j1 (l : (List Int)) : Option ((List Int) × Int) :=
  if decide (2000 < (l.length : Int)) then
    some ([], 2)
  else
    some (l, 0)

def tide_Prove_j3 (t : Int) (lowest : (Option (List (Int × Int)))) (l1 : (List Int)) (lowest2 : (Option (List (Int × Int)))) : Option ((Int × (List Int) × (Option (List (Int × Int)))) ⊕ ((List Int) × Int)) :=
  some (.inl (w64 (t + 1), l1, lowest))

def tide_Prove_b2 (w : api_Water) (s : api_Span) (height : Int) (y1 : api_Water) : (Int × (List Int) × (Option (List (Int × Int)))) → Option ((Int × (List Int) × (Option (List (Int × Int)))) ⊕ ((List Int) × Int))
  | (t, l3, lowest1) =>
    if decide (t ≤ s.Hi) then
      Option.bind (tide_floor_grown (⟨w, y1, lowest1⟩ : tide_floor) t) fun y2 =>
      if decide (y2.1 < height) then
        Option.bind (app l3 ([t])) fun l2 =>
        Option.bind (tide_floor_grown (⟨w, y1, none⟩ : tide_floor) t) fun y3 =>
        tide_Prove_j3 t y3.2 l2 none
      else
        tide_Prove_j3 t y2.2 l3 lowest1
    else
      ((tide_Prove_j1 l3).map Sum.inr)

def tide_Prove (w : api_Water) (s : api_Span) (height : Int) : Option ((List Int) × Int) :=
  Option.bind (tide_Lowest w s) fun y =>
  if !decide (y.2.2 = 0) then
    some ([], y.2.2)
  else
    if decide (y.1 < height) then
      some ([], 5)
    else
      Option.bind (tide_parts w) fun y1 =>
      Lp (tide_Prove_b2 w s height y1) fuel (s.Lo, [], none)

def ref02_SameStands_j1 : Option Bool :=
  some true

def ref02_SameStands_b2 (a : (List api_Stand)) (b : (List api_Stand)) : Int → Option (Int ⊕ Bool)
  | i =>
    if decide (i < (a.length : Int)) then
      Option.bind (ix a i) fun x =>
      Option.bind (ix b i) fun x1 =>
      if !decide (x = x1) then
        some (.inr false)
      else
        some (.inl (w64 (i + 1)))
    else
      ((ref02_SameStands_j1).map Sum.inr)

def ref02_SameStands (a : (List api_Stand)) (b : (List api_Stand)) : Option Bool :=
  if !decide ((a.length : Int) = (b.length : Int)) then
    some false
  else
    Lp (ref02_SameStands_b2 a b) fuel 0

def ref02_SameSpans_j1 : Option Bool :=
  some true

def ref02_SameSpans_b2 (a : (List api_Span)) (b : (List api_Span)) : Int → Option (Int ⊕ Bool)
  | i =>
    if decide (i < (a.length : Int)) then
      Option.bind (ix a i) fun x =>
      Option.bind (ix b i) fun x1 =>
      if !decide (x = x1) then
        some (.inr false)
      else
        some (.inl (w64 (i + 1)))
    else
      ((ref02_SameSpans_j1).map Sum.inr)

def ref02_SameSpans (a : (List api_Span)) (b : (List api_Span)) : Option Bool :=
  if !decide ((a.length : Int) = (b.length : Int)) then
    some false
  else
    Lp (ref02_SameSpans_b2 a b) fuel 0

def tide_gcd_j1 (g : Int) : Option Int :=
  some g

def tide_gcd_j3 (x1 : Int) (g1 : Int) : Option ((Int × Int) ⊕ Int) :=
  some (.inl (g1, w64 (x1 + 1)))

def tide_gcd_b4 (x1 : Int) : (Int × Int) → Option ((Int × Int) ⊕ ((Int × Int) ⊕ Int))
  | (g2, n) =>
    if decide (0 < n) then
      Option.bind (rem g2 n) fun q =>
      some (.inl (n, q))
    else
      ((tide_gcd_j3 x1 g2).map Sum.inr)

def tide_gcd_b2 (l : (List Int)) : (Int × Int) → Option ((Int × Int) ⊕ Int)
  | (g3, x1) =>
    if decide (x1 < (l.length : Int)) then
      Option.bind (ix l x1) fun x =>
      Lp (tide_gcd_b4 x1) fuel (g3, x)
    else
      ((tide_gcd_j1 g3).map Sum.inr)

def tide_gcd (l : (List Int)) : Option Int :=
  Lp (tide_gcd_b2 l) fuel (0, 0)

def tide_Together_j1 (a : api_Cycle) (y2 : Int) (l : (List Int)) : Option (api_Cycle × Int) :=
  some ((⟨a.ID, a.Begin, y2, l⟩ : api_Cycle), 0)

def tide_Together_b2 (a : api_Cycle) (b : api_Cycle) (y2 : Int) (q1 : Int) : (Int × (List Int)) → Option ((Int × (List Int)) ⊕ (api_Cycle × Int))
  | (x, l2) =>
    if decide (x < q1) then
      Option.bind (tide_value a (w64 (a.Begin + (w64 (x * y2))))) fun y4 =>
      Option.bind (tide_value b (w64 (a.Begin + (w64 (x * y2))))) fun y5 =>
      if !(tide_level (w64 (y4 + y5))) then
        some (.inr ((⟨0, 0, 0, []⟩ : api_Cycle), 3))
      else
        Option.bind (app l2 ([w64 (y4 + y5)])) fun l1 =>
        some (.inl (w64 (x + 1), l1))
    else
      ((tide_Together_j1 a y2 l2).map Sum.inr)

def tide_Together (a : api_Cycle) (b : api_Cycle) : Option (api_Cycle × Int) :=
  Option.bind (tide_right a) fun y =>
  gb (!(!y)) (tide_right b) fun y1 =>
  if ((!y) || (!y1)) then
    some ((⟨0, 0, 0, []⟩ : api_Cycle), 1)
  else
    Option.bind (tide_gcd ([a.Every, b.Every, max (w64 (a.Begin - b.Begin)) (w64 (b.Begin - a.Begin))])) fun y2 =>
    Option.bind (tide_gcd ([w64 (a.Every * (a.Heights.length : Int)), w64 (b.Every * (b.Heights.length : Int))])) fun y3 =>
    Option.bind (quo (w64 (a.Every * (a.Heights.length : Int))) y3) fun q =>
    Option.bind (quo (w64 (q * (w64 (b.Every * (b.Heights.length : Int))))) y2) fun q1 =>
    if decide (60 < q1) then
      some ((⟨0, 0, 0, []⟩ : api_Cycle), 2)
    else
      Lp (tide_Together_b2 a b y2 q1) fuel (0, [])

structure tide_known where
  Gauge : api_Gauge
  levels : api_Span
  deriving DecidableEq, Inhabited

def tide_read_1 (x : api_Gauge) (c : api_Gauge) : Bool :=
  decide (x.ID = c.ID)

def slices_IndexFunc_api_Gauge__tide_read_1_j1 : Option Int :=
  some (-1)

def slices_IndexFunc_api_Gauge__tide_read_1_b2 (s : (List api_Gauge)) (c : api_Gauge) : Int → Option (Int ⊕ Int)
  | x1 =>
    if decide (x1 < (s.length : Int)) then
      Option.bind (ix s x1) fun x =>
      if (tide_read_1 x c) then
        some (.inr x1)
      else
        some (.inl (w64 (x1 + 1)))
    else
      ((slices_IndexFunc_api_Gauge__tide_read_1_j1).map Sum.inr)

def slices_IndexFunc_api_Gauge__tide_read_1 (s : (List api_Gauge)) (c : api_Gauge) : Option Int :=
  Lp (slices_IndexFunc_api_Gauge__tide_read_1_b2 s c) fuel 0

def slices_ContainsFunc_api_Gauge__tide_read_1 (s : (List api_Gauge)) (c : api_Gauge) : Option Bool :=
  Option.bind (slices_IndexFunc_api_Gauge__tide_read_1 s c) fun y =>
  some (decide (0 ≤ y))

def tide_every : api_Span :=
  (⟨(-4000), 4000⟩ : api_Span)

def tide_both (a : api_Span) (b : api_Span) : api_Span :=
  (⟨max a.Lo b.Lo, min a.Hi b.Hi⟩ : api_Span)

def tide_knowns_j1 (l1 : (List tide_known)) : Option (List tide_known) :=
  some l1

def tide_knowns_b2 (l : (List api_Gauge)) (y : api_Water × api_Water) : (Int × (List tide_known)) → Option ((Int × (List tide_known)) ⊕ (List tide_known))
  | (x1, l3) =>
    if decide (x1 < (l.length : Int)) then
      Option.bind (ix l x1) fun x =>
      Option.bind (tide_heights_1 x.Tick y.1 y.2) fun y1 =>
      Option.bind (app l3 ([(⟨x, (tide_both (tide_every) (⟨w64 (x.Read.Lo - y1), w64 (x.Read.Hi - y1)⟩ : api_Span))⟩ : tide_known)])) fun l2 =>
      some (.inl (w64 (x1 + 1), l2))
    else
      ((tide_knowns_j1 l3).map Sum.inr)

def tide_knowns (w : api_Water) (l : (List api_Gauge)) : Option (List tide_known) :=
  Option.bind (tide_heights (⟨0, w.Cycles, w.Shifts⟩ : api_Water)) fun y =>
  Lp (tide_knowns_b2 l y) fuel (0, [])

def tide_read_j1 (w : api_Water) (l : (List api_Gauge)) : Option ((List tide_known) × Int) :=
  Option.bind (tide_knowns w l) fun y1 =>
  some (y1, 0)

def tide_read_b2 (w : api_Water) (l : (List api_Gauge)) : Int → Option (Int ⊕ ((List tide_known) × Int))
  | x1 =>
    if decide (x1 < (l.length : Int)) then
      Option.bind (ix l x1) fun x =>
      if (((((!(tide_within x.ID 1 1099511627776)) || (!(tide_minute x.Tick))) || (decide (x.Read.Hi < x.Read.Lo))) || (decide (x.Read.Lo < (-40000)))) || (decide (40000 < x.Read.Hi))) then
        some (.inr ([], 1))
      else
        Option.bind (sub l 0 x1) fun l1 =>
        Option.bind (slices_ContainsFunc_api_Gauge__tide_read_1 l1 x) fun y2 =>
        if y2 then
          some (.inr ([], 6))
        else
          some (.inl (w64 (x1 + 1)))
    else
      ((tide_read_j1 w l).map Sum.inr)

def tide_read (w : api_Water) (l : (List api_Gauge)) : Option ((List tide_known) × Int) :=
  Option.bind (tide_Check w) fun y =>
  if !decide (y = 0) then
    some ([], y)
  else
    if decide (40 < (l.length : Int)) then
      some ([], 2)
    else
      Lp (tide_read_b2 w l) fuel 0

def tide_levels_j1 (Lo : Int) (Hi : Int) : Option api_Span :=
  some (⟨Lo, Hi⟩ : api_Span)

def tide_levels_j3 (x1 : Int) (Lo1 : Int) (Hi1 : Int) : Option ((Int × Int × Int) ⊕ api_Span) :=
  some (.inl (w64 (x1 + 1), Lo1, Hi1))

def tide_levels_b2 (l : (List tide_known)) (but : Int) : (Int × Int × Int) → Option ((Int × Int × Int) ⊕ api_Span)
  | (x1, Lo2, Hi2) =>
    if decide (x1 < (l.length : Int)) then
      Option.bind (ix l x1) fun x =>
      if !decide (x1 = but) then
        tide_levels_j3 x1 ((tide_both (⟨Lo2, Hi2⟩ : api_Span) x.levels).Lo) ((tide_both (⟨Lo2, Hi2⟩ : api_Span) x.levels).Hi)
      else
        tide_levels_j3 x1 Lo2 Hi2
    else
      ((tide_levels_j1 Lo2 Hi2).map Sum.inr)

def tide_levels (l : (List tide_known)) (but : Int) : Option api_Span :=
  Lp (tide_levels_b2 l but) fuel (0, (tide_every).Lo, (tide_every).Hi)

def tide_none (s : api_Span) : Bool :=
  decide (s.Hi < s.Lo)

def tide_Levels (w : api_Water) (l : (List api_Gauge)) : Option (api_Span × Int) :=
  Option.bind (tide_read w l) fun y =>
  if !decide (y.2 = 0) then
    some ((⟨0, 0⟩ : api_Span), y.2)
  else
    Option.bind (tide_levels y.1 (-1)) fun y1 =>
    if (tide_none y1) then
      some ((⟨0, 0⟩ : api_Span), 9)
    else
      some (y1, 0)

def tide_Rests_1_j1 (id : Int) : Option Int :=
  some id

def tide_Rests_1_j3 (x1 : Int) (id1 : Int) : Option ((Int × Int) ⊕ Int) :=
  some (.inl (id1, w64 (x1 + 1)))

def tide_Rests_1_b2 (n : Int) (c : (List tide_known)) : (Int × Int) → Option ((Int × Int) ⊕ Int)
  | (id2, x1) =>
    if decide (x1 < (c.length : Int)) then
      Option.bind (ix c x1) fun x =>
      if (((tide_level n) && (!(tide_within n x.levels.Lo x.levels.Hi))) && ((decide (id2 = 0)) || (decide (x.Gauge.ID < id2)))) then
        tide_Rests_1_j3 x1 x.Gauge.ID
      else
        tide_Rests_1_j3 x1 id2
    else
      ((tide_Rests_1_j1 id2).map Sum.inr)

def tide_Rests_1 (n : Int) (c : (List tide_known)) : Option Int :=
  Lp (tide_Rests_1_b2 n c) fuel (0, 0)

def tide_Rests (w : api_Water) (l : (List api_Gauge)) : Option (Int × Int × Int) :=
  Option.bind (tide_Levels w l) fun y =>
  if !decide (y.2 = 0) then
    some (0, 0, y.2)
  else
    Option.bind (tide_knowns w l) fun y1 =>
    Option.bind (tide_Rests_1 (w64 (y.1.Lo - 1)) y1) fun y2 =>
    Option.bind (tide_Rests_1 (w64 (y.1.Hi + 1)) y1) fun y3 =>
    some (y2, y3, 0)

def ref02_SameInts_j1 : Option Bool :=
  some true

def ref02_SameInts_b2 (a : (List Int)) (b : (List Int)) : Int → Option (Int ⊕ Bool)
  | i =>
    if decide (i < (a.length : Int)) then
      Option.bind (ix a i) fun x =>
      Option.bind (ix b i) fun x1 =>
      if !decide (x = x1) then
        some (.inr false)
      else
        some (.inl (w64 (i + 1)))
    else
      ((ref02_SameInts_j1).map Sum.inr)

def ref02_SameInts (a : (List Int)) (b : (List Int)) : Option Bool :=
  if !decide ((a.length : Int) = (b.length : Int)) then
    some false
  else
    Lp (ref02_SameInts_b2 a b) fuel 0

def ref02_SameCycle (a : api_Cycle) (b : api_Cycle) : Option Bool :=
  Option.bind (ref02_SameInts a.Heights b.Heights) fun y =>
  some (((y && (decide (a.ID = b.ID))) && (decide (a.Begin = b.Begin))) && (decide (a.Every = b.Every)))

def law02_sanity : Option Bool :=
  Option.bind (ix ((law02_example).Cycles) 0) fun x =>
  Option.bind (tide_Value x 9) fun y =>
  Option.bind (tide_Height (law02_example) 1440) fun y1 =>
  Option.bind (tide_Highest (law02_example) (⟨0, 39⟩ : api_Span)) fun y2 =>
  Option.bind (tide_Stands (law02_example) (⟨0, 14⟩ : api_Span)) fun y3 =>
  Option.bind (tide_LowWaters (law02_example) (⟨0, 39⟩ : api_Span)) fun y4 =>
  Option.bind (tide_Windows (law02_example) (⟨0, 39⟩ : api_Span) 121) fun y5 =>
  Option.bind (tide_Prove (law02_example) (⟨0, 9⟩ : api_Span) 121) fun y6 =>
  if (((((((((((((!decide (y.2 = 0)) || (!decide (y.1 = 20))) || (!decide (y1.2 = 0))) || (!decide (y1.1 = 138))) || (!decide (y2.2.2 = 0))) || (!decide (y2.1 = 132))) || (!decide (y2.2.1 = 15))) || (!decide (y3.2 = 0))) || (!decide ((y3.1.length : Int) = 3))) || (!decide (y4.2 = 0))) || (!decide (y5.2 = 0))) || (!decide (y6.2 = 0))) || (!decide ((y6.1.length : Int) = 0))) then
    some false
  else
    Option.bind (ref02_SameStands y4.1 ([(⟨(⟨10, 14⟩ : api_Span), 102⟩ : api_Stand), (⟨(⟨25, 29⟩ : api_Span), 101⟩ : api_Stand)])) fun y7 =>
    gb (!(!y7)) (ref02_SameSpans y5.1 ([(⟨0, 9⟩ : api_Span), (⟨15, 24⟩ : api_Span), (⟨30, 39⟩ : api_Span)])) fun y8 =>
    if ((!y7) || (!y8)) then
      some false
    else
      Option.bind (ix ((law02_example).Cycles) 0) fun x1 =>
      Option.bind (ix ((law02_example).Cycles) 1) fun x2 =>
      Option.bind (tide_Together x1 x2) fun y9 =>
      Option.bind (tide_Levels (law02_example) ([(⟨3, 12, (⟨100, 110⟩ : api_Span)⟩ : api_Gauge), (⟨4, 15, (⟨133, 140⟩ : api_Span)⟩ : api_Gauge)])) fun y10 =>
      Option.bind (tide_Rests (law02_example) ([(⟨3, 12, (⟨100, 110⟩ : api_Span)⟩ : api_Gauge), (⟨4, 15, (⟨133, 140⟩ : api_Span)⟩ : api_Gauge)])) fun y11 =>
      gb ((decide (y9.2 = 0))) (ref02_SameCycle y9.1 (⟨1, 10, 5, [2, 32, 21, 1, 32, 22, 1, 31, 22, 2, 31, 21]⟩ : api_Cycle)) fun y12 =>
      some (((((((decide (y9.2 = 0)) && y12) && (decide (y10.2 = 0))) && (decide (y10.1 = (⟨101, 108⟩ : api_Span)))) && (decide (y11.2.2 = 0))) && (decide (y11.1 = 4))) && (decide (y11.2.1 = 3)))

/-- A copy. -/
def slices_Clone_Cycle (l : List api_Cycle) : Option (List api_Cycle) := app [] l

/-- Some elements are cut out. -/
def delO {α : Type} (l : List α) (i j : Int) : Option (List α) := if 0 ≤ i ∧ i < j ∧ j ≤ l.length then some (l.take i.toNat ++ l.drop j.toNat) else none

def tide_without_j1 (l1 : (List Int)) : Option (List Int) :=
  Option.bind (srtO l1) fun l2 =>
  some l2

def tide_without_j3 (x1 : Int) (l3 : (List Int)) : Option ((Int × (List Int)) ⊕ (List Int)) :=
  some (.inl (w64 (x1 + 1), l3))

def tide_without_b2 (w : api_Water) (l : (List api_Gauge)) (agree : Bool) : (Int × (List Int)) → Option ((Int × (List Int)) ⊕ (List Int))
  | (x1, l7) =>
    if decide (x1 < (w.Cycles.length : Int)) then
      Option.bind (ix w.Cycles x1) fun x =>
      Option.bind (app [] w.Cycles) fun l4 =>
      Option.bind (delO l4 x1 (w64 (x1 + 1))) fun l5 =>
      Option.bind (tide_knowns (⟨w.Level, l5, w.Shifts⟩ : api_Water) l) fun y =>
      Option.bind (tide_levels y (-1)) fun y1 =>
      if !((tide_none y1) == agree) then
        Option.bind (app l7 ([x.ID])) fun l6 =>
        tide_without_j3 x1 l6
      else
        tide_without_j3 x1 l7
    else
      ((tide_without_j1 l7).map Sum.inr)

def tide_without (w : api_Water) (l : (List api_Gauge)) (agree : Bool) : Option (List Int) :=
  Lp (tide_without_b2 w l agree) fuel (0, [])

def tide_Shown (w : api_Water) (l : (List api_Gauge)) : Option ((List Int) × Int) :=
  Option.bind (tide_Levels w l) fun y =>
  if !decide (y.2 = 0) then
    some ([], y.2)
  else
    Option.bind (tide_without w l false) fun y1 =>
    some (y1, 0)

def ref02_within (n : Int) (lo : Int) (hi : Int) : Bool :=
  ((decide (lo ≤ n)) && (decide (n ≤ hi)))

def ref02_Right_j1 : Option Bool :=
  some true

def ref02_Right_b2 (c : api_Cycle) : Int → Option (Int ⊕ Bool)
  | i =>
    if decide (i < (c.Heights.length : Int)) then
      Option.bind (ix c.Heights i) fun x =>
      if !(ref02_within x (-4000) 4000) then
        some (.inr false)
      else
        some (.inl (w64 (i + 1)))
    else
      ((ref02_Right_j1).map Sum.inr)

def ref02_Right (c : api_Cycle) : Option Bool :=
  if ((((!(ref02_within c.ID 1 1099511627776)) || (!(ref02_within c.Begin 0 1048576))) || (!(ref02_within c.Every 1 120))) || (!(ref02_within (c.Heights.length : Int) 1 60))) then
    some false
  else
    Lp (ref02_Right_b2 c) fuel 0

def ref02_shifted_j1 : Option Int :=
  some 0

def ref02_shifted_b2 (l : (List api_Shift)) : Int → Option (Int ⊕ Int)
  | i =>
    if decide (i < (l.length : Int)) then
      Option.bind (ix l i) fun x =>
      Option.bind (ix l i) fun x1 =>
      gb (!(decide (x1.From < 0))) (ix l i) fun x2 =>
      gb (!(decide (x1.From < 0))) (ix l i) fun x3 =>
      gb (!(((decide (x1.From < 0)) || (decide (x3.To < x2.From))))) (ix l i) fun x4 =>
      if ((((decide (x1.From < 0)) || (decide (x3.To < x2.From))) || (decide (728 < x4.To))) || (!(ref02_within x.Add (-4000) 4000))) then
        some (.inr 1)
      else
        gb ((decide (0 < i))) (ix l i) fun x5 =>
        gb ((decide (0 < i))) (ix l (max 0 (w64 (i - 1)))) fun x6 =>
        if ((decide (0 < i)) && (decide (x5.From ≤ x6.To))) then
          some (.inr 1)
        else
          some (.inl (w64 (i + 1)))
    else
      ((ref02_shifted_j1).map Sum.inr)

def ref02_shifted (l : (List api_Shift)) : Option Int :=
  Lp (ref02_shifted_b2 l) fuel 0

def ref02_Check_j1 (w : api_Water) : Option Int :=
  Option.bind (ref02_shifted w.Shifts) fun y =>
  some y

def ref02_Check_j3 (i : Int) : Option (Int ⊕ Int) :=
  some (.inl (w64 (i + 1)))

def ref02_Check_b4 (w : api_Water) (i : Int) : Int → Option (Int ⊕ (Int ⊕ Int))
  | k =>
    if decide (k < i) then
      Option.bind (ix w.Cycles k) fun x1 =>
      Option.bind (ix w.Cycles i) fun x2 =>
      if decide (x1.ID = x2.ID) then
        some (.inr (.inr 6))
      else
        some (.inl (w64 (k + 1)))
    else
      ((ref02_Check_j3 i).map Sum.inr)

def ref02_Check_b2 (w : api_Water) : Int → Option (Int ⊕ Int)
  | i =>
    if decide (i < (w.Cycles.length : Int)) then
      Option.bind (ix w.Cycles i) fun x =>
      Option.bind (ref02_Right x) fun y1 =>
      if !y1 then
        some (.inr 1)
      else
        Lp (ref02_Check_b4 w i) fuel 0
    else
      ((ref02_Check_j1 w).map Sum.inr)

def ref02_Check (w : api_Water) : Option Int :=
  if !(ref02_within w.Level (-4000) 4000) then
    some 1
  else
    if ((decide (6 < (w.Cycles.length : Int))) || (decide (20 < (w.Shifts.length : Int)))) then
      some 2
    else
      Lp (ref02_Check_b2 w) fuel 0

def ref02_Gauged_j1 : Option Int :=
  some 0

def ref02_Gauged_j3 (i : Int) : Option (Int ⊕ Int) :=
  some (.inl (w64 (i + 1)))

def ref02_Gauged_b4 (l : (List api_Gauge)) (i : Int) : Int → Option (Int ⊕ (Int ⊕ Int))
  | k =>
    if decide (k < i) then
      Option.bind (ix l k) fun x6 =>
      Option.bind (ix l i) fun x7 =>
      if decide (x6.ID = x7.ID) then
        some (.inr (.inr 6))
      else
        some (.inl (w64 (k + 1)))
    else
      ((ref02_Gauged_j3 i).map Sum.inr)

def ref02_Gauged_b2 (l : (List api_Gauge)) : Int → Option (Int ⊕ Int)
  | i =>
    if decide (i < (l.length : Int)) then
      Option.bind (ix l i) fun x =>
      Option.bind (ix l i) fun x1 =>
      gb (!(((!(ref02_within x.ID 1 1099511627776)) || (!(ref02_within x1.Tick 0 1048576))))) (ix l i) fun x2 =>
      gb (!((((!(ref02_within x.ID 1 1099511627776)) || (!(ref02_within x1.Tick 0 1048576))) || (decide (x2.Read.Lo < (-40000)))))) (ix l i) fun x3 =>
      gb (!((((!(ref02_within x.ID 1 1099511627776)) || (!(ref02_within x1.Tick 0 1048576))) || (decide (x2.Read.Lo < (-40000)))))) (ix l i) fun x4 =>
      gb (!(((((!(ref02_within x.ID 1 1099511627776)) || (!(ref02_within x1.Tick 0 1048576))) || (decide (x2.Read.Lo < (-40000)))) || (decide (x4.Read.Hi < x3.Read.Lo))))) (ix l i) fun x5 =>
      if (((((!(ref02_within x.ID 1 1099511627776)) || (!(ref02_within x1.Tick 0 1048576))) || (decide (x2.Read.Lo < (-40000)))) || (decide (x4.Read.Hi < x3.Read.Lo))) || (decide (40000 < x5.Read.Hi))) then
        some (.inr 1)
      else
        Lp (ref02_Gauged_b4 l i) fuel 0
    else
      ((ref02_Gauged_j1).map Sum.inr)

def ref02_Gauged (w : api_Water) (l : (List api_Gauge)) : Option Int :=
  Option.bind (ref02_Check w) fun y =>
  if !decide (y = 0) then
    some y
  else
    if decide (40 < (l.length : Int)) then
      some 2
    else
      Lp (ref02_Gauged_b2 l) fuel 0

structure ref02_Known where
  S : api_Span
  E : Int
  deriving DecidableEq, Inhabited

def ref02_correction_j1 : Option Int :=
  some 0

def ref02_correction_b2 (w : api_Water) (q : Int) : Int → Option (Int ⊕ Int)
  | i =>
    if decide (i < (w.Shifts.length : Int)) then
      Option.bind (ix w.Shifts i) fun x =>
      gb ((decide (x.From ≤ q))) (ix w.Shifts i) fun x1 =>
      if ((decide (x.From ≤ q)) && (decide (q ≤ x1.To))) then
        Option.bind (ix w.Shifts i) fun x2 =>
        some (.inr x2.Add)
      else
        some (.inl (w64 (i + 1)))
    else
      ((ref02_correction_j1).map Sum.inr)

def ref02_correction (w : api_Water) (tick : Int) : Option Int :=
  Option.bind (quo tick 1440) fun q =>
  Lp (ref02_correction_b2 w q) fuel 0

def ref02_floor_j1 (q2 : Int) : Option Int :=
  some q2

def ref02_floor (a : Int) (b : Int) : Option Int :=
  Option.bind (quo a b) fun q =>
  Option.bind (rem a b) fun q1 =>
  if decide (q1 < 0) then
    ref02_floor_j1 (w64 (q - 1))
  else
    ref02_floor_j1 q

def ref02_Of (c : api_Cycle) (tick : Int) : Option Int :=
  Option.bind (ref02_floor (w64 (tick - c.Begin)) c.Every) fun y =>
  Option.bind (ref02_floor y (c.Heights.length : Int)) fun y1 =>
  Option.bind (ix c.Heights (w64 (y - (w64 (y1 * (c.Heights.length : Int)))))) fun x =>
  some x

def ref02_rest_j1 (h : Int) : Option Int :=
  some h

def ref02_rest_b2 (w : api_Water) (tick : Int) : (Int × Int) → Option ((Int × Int) ⊕ Int)
  | (h1, i) =>
    if decide (i < (w.Cycles.length : Int)) then
      Option.bind (ix w.Cycles i) fun x =>
      Option.bind (ref02_Of x tick) fun y1 =>
      some (.inl (w64 (h1 + y1), w64 (i + 1)))
    else
      ((ref02_rest_j1 h1).map Sum.inr)

def ref02_rest (w : api_Water) (tick : Int) : Option Int :=
  Option.bind (ref02_correction w tick) fun y =>
  Lp (ref02_rest_b2 w tick) fuel (y, 0)

def ref02_agreed (w : api_Water) (g : api_Gauge) : Option api_Span :=
  Option.bind (ref02_rest w g.Tick) fun y =>
  some (⟨max (-4000) (w64 (g.Read.Lo - y)), min 4000 (w64 (g.Read.Hi - y))⟩ : api_Span)

def ref02_agreedAll_j1 (Lo : Int) (Hi : Int) : Option api_Span :=
  some (⟨Lo, Hi⟩ : api_Span)

def ref02_agreedAll_b2 (w : api_Water) (l : (List api_Gauge)) : (Int × Int × Int) → Option ((Int × Int × Int) ⊕ api_Span)
  | (i, Lo1, Hi1) =>
    if decide (i < (l.length : Int)) then
      Option.bind (ix l i) fun x =>
      Option.bind (ref02_agreed w x) fun y =>
      some (.inl (w64 (i + 1), max Lo1 y.Lo, min Hi1 y.Hi))
    else
      ((ref02_agreedAll_j1 Lo1 Hi1).map Sum.inr)

def ref02_agreedAll (w : api_Water) (l : (List api_Gauge)) : Option api_Span :=
  Lp (ref02_agreedAll_b2 w l) fuel (0, (-4000), 4000)

def ref02_Levels (w : api_Water) (l : (List api_Gauge)) : Option ref02_Known :=
  Option.bind (ref02_Gauged w l) fun y =>
  if !decide (y = 0) then
    some (⟨(⟨0, 0⟩ : api_Span), y⟩ : ref02_Known)
  else
    Option.bind (ref02_agreedAll w l) fun y1 =>
    if decide (y1.Hi < y1.Lo) then
      some (⟨(⟨0, 0⟩ : api_Span), 9⟩ : ref02_Known)
    else
      some (⟨y1, 0⟩ : ref02_Known)

structure ref02_Ints where
  L : (List Int)
  E : Int
  deriving DecidableEq, Inhabited

def ref02_less (w : api_Water) (i : Int) : Option api_Water :=
  Option.bind (sub w.Cycles 0 i) fun l =>
  Option.bind (app [] l) fun l1 =>
  Option.bind (sub w.Cycles (w64 (i + 1)) w.Cycles.length) fun l2 =>
  Option.bind (app l1 l2) fun l3 =>
  some (⟨w.Level, l3, w.Shifts⟩ : api_Water)

def ref02_some (w : api_Water) (l : (List api_Gauge)) : Option Bool :=
  Option.bind (ref02_agreedAll w l) fun y =>
  some (decide (y.Lo ≤ y.Hi))

def ref02_add_j1 (l : (List Int)) (n : Int) (at_ : Int) : Option (List Int) :=
  Option.bind (sub l 0 at_) fun l1 =>
  Option.bind (app [] l1) fun l2 =>
  Option.bind (app l2 ([n])) fun l3 =>
  Option.bind (sub l at_ l.length) fun l4 =>
  Option.bind (app l3 l4) fun l5 =>
  some l5

def ref02_add_b2 (l : (List Int)) (n : Int) : Int → Option (Int ⊕ (List Int))
  | at_1 =>
    gb ((decide (at_1 < (l.length : Int)))) (ix l at_1) fun x =>
    if ((decide (at_1 < (l.length : Int))) && (decide (x < n))) then
      some (.inl (w64 (at_1 + 1)))
    else
      ((ref02_add_j1 l n at_1).map Sum.inr)

def ref02_add (l : (List Int)) (n : Int) : Option (List Int) :=
  Lp (ref02_add_b2 l n) fuel 0

def ref02_Shown_j1 (out : (List Int)) : Option ref02_Ints :=
  some (⟨out, 0⟩ : ref02_Ints)

def ref02_Shown_j3 (i : Int) (out1 : (List Int)) : Option (((List Int) × Int) ⊕ ref02_Ints) :=
  some (.inl (out1, w64 (i + 1)))

def ref02_Shown_b2 (w : api_Water) (l : (List api_Gauge)) : ((List Int) × Int) → Option (((List Int) × Int) ⊕ ref02_Ints)
  | (out2, i) =>
    if decide (i < (w.Cycles.length : Int)) then
      Option.bind (ref02_less w i) fun y1 =>
      Option.bind (ref02_some y1 l) fun y2 =>
      if !y2 then
        Option.bind (ix w.Cycles i) fun x =>
        Option.bind (ref02_add out2 x.ID) fun y3 =>
        ref02_Shown_j3 i y3
      else
        ref02_Shown_j3 i out2
    else
      ((ref02_Shown_j1 out2).map Sum.inr)

def ref02_Shown (w : api_Water) (l : (List api_Gauge)) : Option ref02_Ints :=
  Option.bind (ref02_Levels w l) fun y =>
  if !decide (y.E = 0) then
    some (⟨[], y.E⟩ : ref02_Ints)
  else
    Lp (ref02_Shown_b2 w l) fuel ([], 0)

def tide_Excluded (w : api_Water) (l : (List api_Gauge)) : Option ((List Int) × Int) :=
  Option.bind (tide_read w l) fun y =>
  gb (!(!decide (y.2 = 0))) (tide_levels y.1 (-1)) fun y1 =>
  if ((!decide (y.2 = 0)) || (!(tide_none y1))) then
    some ([], y.2)
  else
    Option.bind (tide_without w l true) fun y2 =>
    some (y2, 0)

def ref02_Excluded_j1 (out : (List Int)) : Option ref02_Ints :=
  some (⟨out, 0⟩ : ref02_Ints)

def ref02_Excluded_j3 (i : Int) (out1 : (List Int)) : Option (((List Int) × Int) ⊕ ref02_Ints) :=
  some (.inl (out1, w64 (i + 1)))

def ref02_Excluded_b2 (w : api_Water) (l : (List api_Gauge)) (y1 : Bool) : ((List Int) × Int) → Option (((List Int) × Int) ⊕ ref02_Ints)
  | (out2, i) =>
    if ((decide (i < (w.Cycles.length : Int))) && (!y1)) then
      Option.bind (ref02_less w i) fun y2 =>
      Option.bind (ref02_some y2 l) fun y3 =>
      if y3 then
        Option.bind (ix w.Cycles i) fun x =>
        Option.bind (ref02_add out2 x.ID) fun y4 =>
        ref02_Excluded_j3 i y4
      else
        ref02_Excluded_j3 i out2
    else
      ((ref02_Excluded_j1 out2).map Sum.inr)

def ref02_Excluded (w : api_Water) (l : (List api_Gauge)) : Option ref02_Ints :=
  Option.bind (ref02_Gauged w l) fun y =>
  if !decide (y = 0) then
    some (⟨[], y⟩ : ref02_Ints)
  else
    Option.bind (ref02_some w l) fun y1 =>
    Lp (ref02_Excluded_b2 w l y1) fuel ([], 0)

def law02_TideExcludes (w : api_Water) (l : (List api_Gauge)) : Option Bool :=
  Option.bind (law02_few w) fun y =>
  if ((!y) || (decide (60 < (l.length : Int)))) then
    Option.bind (law02_sanity) fun y1 =>
    some y1
  else
    Option.bind (tide_Shown w l) fun y2 =>
    Option.bind (ref02_Shown w l) fun y3 =>
    Option.bind (tide_Excluded w l) fun y4 =>
    Option.bind (ref02_Excluded w l) fun y5 =>
    Option.bind (law02_sanity) fun y6 =>
    gb ((y6)) (ref02_SameInts y2.1 y3.L) fun y7 =>
    gb ((((y6 && y7) && (decide (y2.2 = y3.E))))) (ref02_SameInts y4.1 y5.L) fun y8 =>
    some ((((y6 && y7) && (decide (y2.2 = y3.E))) && y8) && (decide (y4.2 = y5.E)))

def ref02_against_j1 (id : Int) : Option Int :=
  some id

def ref02_against_j3 (i : Int) (id1 : Int) : Option ((Int × Int) ⊕ Int) :=
  some (.inl (id1, w64 (i + 1)))

def ref02_against_b2 (w : api_Water) (l : (List api_Gauge)) (level : Int) : (Int × Int) → Option ((Int × Int) ⊕ Int)
  | (id2, i) =>
    if decide (i < (l.length : Int)) then
      Option.bind (ix l i) fun x =>
      Option.bind (ref02_agreed w x) fun y =>
      gb ((!(ref02_within level y.Lo y.Hi)) && !(decide (id2 = 0))) (ix l i) fun x1 =>
      if ((!(ref02_within level y.Lo y.Hi)) && ((decide (id2 = 0)) || (decide (x1.ID < id2)))) then
        Option.bind (ix l i) fun x2 =>
        ref02_against_j3 i x2.ID
      else
        ref02_against_j3 i id2
    else
      ((ref02_against_j1 id2).map Sum.inr)

def ref02_against (w : api_Water) (l : (List api_Gauge)) (level : Int) : Option Int :=
  if !(ref02_within level (-4000) 4000) then
    some 0
  else
    Lp (ref02_against_b2 w l level) fuel (0, 0)

def ref02_Rests (w : api_Water) (l : (List api_Gauge)) : Option (Int × Int × Int) :=
  Option.bind (ref02_Levels w l) fun y =>
  if !decide (y.E = 0) then
    some (0, 0, y.E)
  else
    Option.bind (ref02_against w l (w64 (y.S.Lo - 1))) fun y1 =>
    Option.bind (ref02_against w l (w64 (y.S.Hi + 1))) fun y2 =>
    some (y1, y2, 0)

structure Arr_2_int where
  a0 : Int
  a1 : Int
  deriving DecidableEq, Inhabited
def Arr_2_int.toL (x : Arr_2_int) : List Int := [x.a0, x.a1]
def Arr_2_int.ofL : List Int → Arr_2_int
  | [a0, a1] => ⟨a0, a1⟩
  | _ => default
def Arr_2_int.set (x : Arr_2_int) (i : Int) (v : Int) : Arr_2_int := Arr_2_int.ofL (put x.toL i v)
theorem Arr_2_int.toL_of : ∀ {l : List Int}, l.length = 2 → (Arr_2_int.ofL l).toL = l
  | [a0, a1], _ => rfl
theorem Arr_2_int.toL_set (x : Arr_2_int) (i : Int) (v : Int) : (x.set i v).toL = put x.toL i v := Arr_2_int.toL_of (by simp [put, Arr_2_int.toL])

/-- By their gauges. -/
def lt_known (x y : tide_known) : Bool := decide (x.Gauge.ID < y.Gauge.ID)

def tide_Clashes_j1 (l2 : (List Arr_2_int)) : Option ((List Arr_2_int) × Int) :=
  some (l2, 0)

def tide_Clashes_j3 (x3 : Int) (l3 : (List Arr_2_int)) : Option ((Int × (List Arr_2_int)) ⊕ ((List Arr_2_int) × Int)) :=
  some (.inl (w64 (x3 + 1), l3))

def tide_Clashes_j5 (x2 : Int) (l6 : (List Arr_2_int)) : Option ((Int × (List Arr_2_int)) ⊕ ((Int × (List Arr_2_int)) ⊕ ((List Arr_2_int) × Int))) :=
  some (.inl (w64 (x2 + 1), l6))

def tide_Clashes_b4 (x3 : Int) (x : tide_known) (l5 : (List tide_known)) : (Int × (List Arr_2_int)) → Option ((Int × (List Arr_2_int)) ⊕ ((Int × (List Arr_2_int)) ⊕ ((List Arr_2_int) × Int)))
  | (x2, l8) =>
    if decide (x2 < (l5.length : Int)) then
      Option.bind (ix l5 x2) fun x1 =>
      if ((!(tide_none x1.levels)) && (tide_none (tide_both x.levels x1.levels))) then
        Option.bind (app l8 ([(⟨x.Gauge.ID, x1.Gauge.ID⟩ : Arr_2_int)])) fun l7 =>
        tide_Clashes_j5 x2 l7
      else
        tide_Clashes_j5 x2 l8
    else
      ((tide_Clashes_j3 x3 l8).map Sum.inr)

def tide_Clashes_b2 (l1 : (List tide_known)) : (Int × (List Arr_2_int)) → Option ((Int × (List Arr_2_int)) ⊕ ((List Arr_2_int) × Int))
  | (x3, l9) =>
    if decide (x3 < (l1.length : Int)) then
      Option.bind (ix l1 x3) fun x =>
      if (tide_none x.levels) then
        Option.bind (app l9 ([(⟨x.Gauge.ID, x.Gauge.ID⟩ : Arr_2_int)])) fun l4 =>
        tide_Clashes_j3 x3 l4
      else
        Option.bind (sub l1 (w64 (x3 + 1)) (l1.length : Int)) fun l5 =>
        Lp (tide_Clashes_b4 x3 x l5) fuel (0, l9)
    else
      ((tide_Clashes_j1 l9).map Sum.inr)

def tide_Clashes (w : api_Water) (l : (List api_Gauge)) : Option ((List Arr_2_int) × Int) :=
  Option.bind (tide_read w l) fun y =>
  if !decide (y.2 = 0) then
    some ([], y.2)
  else
    Option.bind (srtFO lt_known y.1) fun l1 =>
    Lp (tide_Clashes_b2 l1) fuel (0, [])

structure ref02_Pairs where
  L : (List Arr_2_int)
  E : Int
  deriving DecidableEq, Inhabited

def ref02_put_j1 (l : (List Arr_2_int)) (p : Arr_2_int) (at_ : Int) : Option (List Arr_2_int) :=
  Option.bind (sub l 0 at_) fun l1 =>
  Option.bind (app [] l1) fun l2 =>
  Option.bind (app l2 ([p])) fun l3 =>
  Option.bind (sub l at_ l.length) fun l4 =>
  Option.bind (app l3 l4) fun l5 =>
  some l5

def ref02_put_b2 (l : (List Arr_2_int)) (p : Arr_2_int) : Int → Option (Int ⊕ (List Arr_2_int))
  | at_1 =>
    gb ((decide (at_1 < (l.length : Int)))) (ix l at_1) fun x =>
    gb ((decide (at_1 < (l.length : Int))) && !(decide (x.a0 < p.a0))) (ix l at_1) fun x1 =>
    gb ((decide (at_1 < (l.length : Int))) && !(decide (x.a0 < p.a0)) && (decide (x1.a0 = p.a0))) (ix l at_1) fun x2 =>
    if ((decide (at_1 < (l.length : Int))) && ((decide (x.a0 < p.a0)) || ((decide (x1.a0 = p.a0)) && (decide (x2.a1 < p.a1))))) then
      some (.inl (w64 (at_1 + 1)))
    else
      ((ref02_put_j1 l p at_1).map Sum.inr)

def ref02_put (l : (List Arr_2_int)) (p : Arr_2_int) : Option (List Arr_2_int) :=
  Lp (ref02_put_b2 l p) fuel 0

def ref02_Clashes_j1 (out : (List Arr_2_int)) : Option ref02_Pairs :=
  some (⟨out, 0⟩ : ref02_Pairs)

def ref02_Clashes_j4 (i : Int) (out2 : (List Arr_2_int)) : Option (((List Arr_2_int) × Int) ⊕ ref02_Pairs) :=
  some (.inl (out2, w64 (i + 1)))

def ref02_Clashes_j6 (k : Int) (out3 : (List Arr_2_int)) : Option (((List Arr_2_int) × Int) ⊕ (((List Arr_2_int) × Int) ⊕ ref02_Pairs)) :=
  some (.inl (out3, w64 (k + 1)))

def ref02_Clashes_b5 (w : api_Water) (l : (List api_Gauge)) (i : Int) (y1 : api_Span) : ((List Arr_2_int) × Int) → Option (((List Arr_2_int) × Int) ⊕ (((List Arr_2_int) × Int) ⊕ ref02_Pairs))
  | (out4, k) =>
    if decide (k < i) then
      Option.bind (ix l k) fun x1 =>
      Option.bind (ref02_agreed w x1) fun y2 =>
      if (((decide (y1.Lo ≤ y1.Hi)) && (decide (y2.Lo ≤ y2.Hi))) && (decide ((min y1.Hi y2.Hi) < (max y1.Lo y2.Lo)))) then
        Option.bind (ix l i) fun x2 =>
        Option.bind (ix l k) fun x3 =>
        Option.bind (ix l i) fun x4 =>
        Option.bind (ix l k) fun x5 =>
        Option.bind (ref02_put out4 (⟨min x2.ID x3.ID, max x4.ID x5.ID⟩ : Arr_2_int)) fun y3 =>
        ref02_Clashes_j6 k y3
      else
        ref02_Clashes_j6 k out4
    else
      ((ref02_Clashes_j4 i out4).map Sum.inr)

def ref02_Clashes_j3 (w : api_Water) (l : (List api_Gauge)) (i : Int) (y1 : api_Span) (out1 : (List Arr_2_int)) : Option (((List Arr_2_int) × Int) ⊕ ref02_Pairs) :=
  Lp (ref02_Clashes_b5 w l i y1) fuel (out1, 0)

def ref02_Clashes_b2 (w : api_Water) (l : (List api_Gauge)) : ((List Arr_2_int) × Int) → Option (((List Arr_2_int) × Int) ⊕ ref02_Pairs)
  | (out5, i) =>
    if decide (i < (l.length : Int)) then
      Option.bind (ix l i) fun x =>
      Option.bind (ref02_agreed w x) fun y1 =>
      if decide (y1.Hi < y1.Lo) then
        Option.bind (ix l i) fun x6 =>
        Option.bind (ix l i) fun x7 =>
        Option.bind (ref02_put out5 (⟨x6.ID, x7.ID⟩ : Arr_2_int)) fun y4 =>
        ref02_Clashes_j3 w l i y1 y4
      else
        ref02_Clashes_j3 w l i y1 out5
    else
      ((ref02_Clashes_j1 out5).map Sum.inr)

def ref02_Clashes (w : api_Water) (l : (List api_Gauge)) : Option ref02_Pairs :=
  Option.bind (ref02_Gauged w l) fun y =>
  if !decide (y = 0) then
    some (⟨[], y⟩ : ref02_Pairs)
  else
    Lp (ref02_Clashes_b2 w l) fuel ([], 0)

def tide_Suspects_j1 (l1 : (List Int)) : Option ((List Int) × Int) :=
  Option.bind (srtO l1) fun l2 =>
  some (l2, 0)

def tide_Suspects_j3 (x1 : Int) (l3 : (List Int)) : Option ((Int × (List Int)) ⊕ ((List Int) × Int)) :=
  some (.inl (w64 (x1 + 1), l3))

def tide_Suspects_b2 (y : (List tide_known) × Int) : (Int × (List Int)) → Option ((Int × (List Int)) ⊕ ((List Int) × Int))
  | (x1, l5) =>
    if decide (x1 < (y.1.length : Int)) then
      Option.bind (ix y.1 x1) fun x =>
      Option.bind (tide_levels y.1 x1) fun y2 =>
      if !(tide_none y2) then
        Option.bind (app l5 ([x.Gauge.ID])) fun l4 =>
        tide_Suspects_j3 x1 l4
      else
        tide_Suspects_j3 x1 l5
    else
      ((tide_Suspects_j1 l5).map Sum.inr)

def tide_Suspects (w : api_Water) (l : (List api_Gauge)) : Option ((List Int) × Int) :=
  Option.bind (tide_read w l) fun y =>
  gb (!(!decide (y.2 = 0))) (tide_levels y.1 (-1)) fun y1 =>
  if ((!decide (y.2 = 0)) || (!(tide_none y1))) then
    some ([], y.2)
  else
    Lp (tide_Suspects_b2 y) fuel (0, [])

def ref02_Suspects_j1 (out : (List Int)) : Option ref02_Ints :=
  some (⟨out, 0⟩ : ref02_Ints)

def ref02_Suspects_j3 (i : Int) (out1 : (List Int)) : Option (((List Int) × Int) ⊕ ref02_Ints) :=
  some (.inl (out1, w64 (i + 1)))

def ref02_Suspects_b2 (w : api_Water) (l : (List api_Gauge)) (y1 : Bool) : ((List Int) × Int) → Option (((List Int) × Int) ⊕ ref02_Ints)
  | (out2, i) =>
    if ((decide (i < (l.length : Int))) && (!y1)) then
      Option.bind (sub l 0 i) fun l1 =>
      Option.bind (app [] l1) fun l2 =>
      Option.bind (sub l (w64 (i + 1)) l.length) fun l3 =>
      Option.bind (app l2 l3) fun l4 =>
      Option.bind (ref02_some w l4) fun y2 =>
      if y2 then
        Option.bind (ix l i) fun x =>
        Option.bind (ref02_add out2 x.ID) fun y3 =>
        ref02_Suspects_j3 i y3
      else
        ref02_Suspects_j3 i out2
    else
      ((ref02_Suspects_j1 out2).map Sum.inr)

def ref02_Suspects (w : api_Water) (l : (List api_Gauge)) : Option ref02_Ints :=
  Option.bind (ref02_Gauged w l) fun y =>
  if !decide (y = 0) then
    some (⟨[], y⟩ : ref02_Ints)
  else
    Option.bind (ref02_some w l) fun y1 =>
    Lp (ref02_Suspects_b2 w l y1) fuel ([], 0)

def ref02_SamePairs_j1 : Option Bool :=
  some true

def ref02_SamePairs_b2 (a : (List Arr_2_int)) (b : (List Arr_2_int)) : Int → Option (Int ⊕ Bool)
  | i =>
    if decide (i < (a.length : Int)) then
      Option.bind (ix a i) fun x =>
      Option.bind (ix b i) fun x1 =>
      if !decide (x = x1) then
        some (.inr false)
      else
        some (.inl (w64 (i + 1)))
    else
      ((ref02_SamePairs_j1).map Sum.inr)

def ref02_SamePairs (a : (List Arr_2_int)) (b : (List Arr_2_int)) : Option Bool :=
  if !decide ((a.length : Int) = (b.length : Int)) then
    some false
  else
    Lp (ref02_SamePairs_b2 a b) fuel 0

def law02_TideGauges (w : api_Water) (l : (List api_Gauge)) : Option Bool :=
  Option.bind (law02_few w) fun y =>
  if ((!y) || (decide (60 < (l.length : Int)))) then
    Option.bind (law02_sanity) fun y1 =>
    some y1
  else
    Option.bind (tide_Levels w l) fun y2 =>
    Option.bind (ref02_Levels w l) fun y3 =>
    Option.bind (tide_Rests w l) fun y4 =>
    Option.bind (ref02_Rests w l) fun y5 =>
    Option.bind (tide_Clashes w l) fun y6 =>
    Option.bind (ref02_Clashes w l) fun y7 =>
    Option.bind (tide_Suspects w l) fun y8 =>
    Option.bind (ref02_Suspects w l) fun y9 =>
    Option.bind (law02_sanity) fun y10 =>
    gb (((((((y10 && (decide (y2.1 = y3.S))) && (decide (y2.2 = y3.E))) && (decide (y4.1 = y5.1))) && (decide (y4.2.1 = y5.2.1))) && (decide (y4.2.2 = y5.2.2))))) (ref02_SamePairs y6.1 y7.L) fun y11 =>
    gb (((((((((y10 && (decide (y2.1 = y3.S))) && (decide (y2.2 = y3.E))) && (decide (y4.1 = y5.1))) && (decide (y4.2.1 = y5.2.1))) && (decide (y4.2.2 = y5.2.2))) && y11) && (decide (y6.2 = y7.E))))) (ref02_SameInts y8.1 y9.L) fun y12 =>
    some (((((((((y10 && (decide (y2.1 = y3.S))) && (decide (y2.2 = y3.E))) && (decide (y4.1 = y5.1))) && (decide (y4.2.1 = y5.2.1))) && (decide (y4.2.2 = y5.2.2))) && y11) && (decide (y6.2 = y7.E))) && y12) && (decide (y8.2 = y9.E)))

end Go.Mx
