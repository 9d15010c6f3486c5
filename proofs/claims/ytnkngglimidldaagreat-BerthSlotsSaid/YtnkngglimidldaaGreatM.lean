/- Functions of the program as plain functions. Conditions: none. Printed by a program (wip/tools/xg.py). -/
import Derived.Test.YtnkngglimidldaaGreatXl
set_option linter.unusedVariables false
namespace Go.Mx
structure api_Cycle where
 ID : Int
 Begin : Int
 Every : Int
 Heights : (List Int)
 deriving DecidableEq, Inhabited
structure api_Shift where
 From : Int
 To : Int
 Add : Int
 deriving DecidableEq, Inhabited
structure api_Water where
 Level : Int
 Cycles : (List api_Cycle)
 Shifts : (List api_Shift)
 deriving DecidableEq, Inhabited
structure api_Berth where
 ID : Int
 Depth : Int
 deriving DecidableEq, Inhabited
structure api_Span where
 Lo : Int
 Hi : Int
 deriving DecidableEq, Inhabited
structure api_Harbour where
 Water : api_Water
 Berths : (List api_Berth)
 Tides : (List api_Span)
 Keel : Int
 deriving DecidableEq, Inhabited
structure api_Call where
 ID : Int
 Draught : Int
 From : Int
 To : Int
 Long : Int
 deriving DecidableEq, Inhabited
structure api_Slot where
 Tide : Int
 Berth : Int
 deriving DecidableEq, Inhabited
def law06_small_j1 (h : api_Harbour) : Option Bool :=
 some ((((decide ((h.Water.Cycles.length : Int) ≤ 8)) && (decide ((h.Water.Shifts.length : Int) ≤ 25))) && (decide ((h.Berths.length : Int) ≤ 10))) && ((decide ((h.Tides.length : Int) ≤ 3)) || ((decide (12 < (h.Tides.length : Int))) && (decide ((h.Tides.length : Int) ≤ 20)))))
def law06_small_b2 (h : api_Harbour) : Int → Option (Int ⊕ Bool)
 | i =>
  if decide (i < (h.Tides.length : Int)) then
   Option.bind (ix h.Tides i) fun x =>
   Option.bind (ix h.Tides i) fun x1 =>
   if ((decide (240 ≤ (w64 (x.Hi - x1.Lo)))) && (decide ((w64 (x.Hi - x1.Lo)) < 1440))) then
    some (.inr false)
   else
    some (.inl (w64 (i + 1)))
  else
   ((law06_small_j1 h).map Sum.inr)
def law06_small (h : api_Harbour) : Option Bool :=
 Lp (law06_small_b2 h) fuel 0
def law06_Harbour : api_Harbour :=
 (⟨(⟨500, [(⟨1, 0, 60, [0, 100, 200, 100]⟩ : api_Cycle)], []⟩ : api_Water), [(⟨1, 300⟩ : api_Berth), (⟨2, 100⟩ : api_Berth)], [(⟨0, 239⟩ : api_Span), (⟨240, 479⟩ : api_Span)], 50⟩ : api_Harbour)
def tide_within (n : Int) (lo : Int) (hi : Int) : Bool :=
 ((decide (lo ≤ n)) && (decide (n ≤ hi)))
def tide_level (n : Int) : Bool :=
 (tide_within n (-4000) 4000)
def tide_minute (tick : Int) : Bool :=
 (tide_within tick 0 1048576)
def tide_right_1 (h : Int) : Bool :=
 !(tide_level h)
def slices_IndexFunc_int__tide_right_1_j1 : Option Int :=
 some (-1)
def slices_IndexFunc_int__tide_right_1_b2 (s : (List Int)) : Int → Option (Int ⊕ Int)
 | x1 =>
  if decide (x1 < (s.length : Int)) then
   Option.bind (ix s x1) fun x =>
   if (tide_right_1 x) then
    some (.inr x1)
   else
    some (.inl (w64 (x1 + 1)))
  else
   ((slices_IndexFunc_int__tide_right_1_j1).map Sum.inr)
def slices_IndexFunc_int__tide_right_1 (s : (List Int)) : Option Int :=
 Lp (slices_IndexFunc_int__tide_right_1_b2 s) fuel 0
def slices_ContainsFunc_int__tide_right_1 (s : (List Int)) : Option Bool :=
 Option.bind (slices_IndexFunc_int__tide_right_1 s) fun y =>
 some (decide (0 ≤ y))
def tide_right (c : api_Cycle) : Option Bool :=
 gb ((((((tide_within c.ID 1 1099511627776) && (tide_minute c.Begin)) && (tide_within c.Every 1 120)) && (tide_within (c.Heights.length : Int) 1 60)))) (slices_ContainsFunc_int__tide_right_1 c.Heights) fun y =>
 some (((((tide_within c.ID 1 1099511627776) && (tide_minute c.Begin)) && (tide_within c.Every 1 120)) && (tide_within (c.Heights.length : Int) 1 60)) && (!y))
def tide_Check_1 (x : api_Cycle) (c : api_Cycle) : Bool :=
 decide (x.ID = c.ID)
def slices_IndexFunc_api_Cycle__tide_Check_1_j1 : Option Int :=
 some (-1)
def slices_IndexFunc_api_Cycle__tide_Check_1_b2 (s : (List api_Cycle)) (c : api_Cycle) : Int → Option (Int ⊕ Int)
 | x1 =>
  if decide (x1 < (s.length : Int)) then
   Option.bind (ix s x1) fun x =>
   if (tide_Check_1 x c) then
    some (.inr x1)
   else
    some (.inl (w64 (x1 + 1)))
  else
   ((slices_IndexFunc_api_Cycle__tide_Check_1_j1).map Sum.inr)
def slices_IndexFunc_api_Cycle__tide_Check_1 (s : (List api_Cycle)) (c : api_Cycle) : Option Int :=
 Lp (slices_IndexFunc_api_Cycle__tide_Check_1_b2 s c) fuel 0
def slices_ContainsFunc_api_Cycle__tide_Check_1 (s : (List api_Cycle)) (c : api_Cycle) : Option Bool :=
 Option.bind (slices_IndexFunc_api_Cycle__tide_Check_1 s c) fun y =>
 some (decide (0 ≤ y))
def tide_Check_j2 : Option Int :=
 some 0
def tide_Check_b3 (w : api_Water) : (Int × Int) → Option ((Int × Int) ⊕ Int)
 | (last, x1) =>
  if decide (x1 < (w.Shifts.length : Int)) then
   Option.bind (ix w.Shifts x1) fun x =>
   if (((!(tide_within x.From (w64 (last + 1)) x.To)) || (decide (728 < x.To))) || (!(tide_level x.Add))) then
    some (.inr 1)
   else
    some (.inl (x.To, w64 (x1 + 1)))
  else
   ((tide_Check_j2).map Sum.inr)
def tide_Check_j1 (w : api_Water) : Option Int :=
 Lp (tide_Check_b3 w) fuel ((-1), 0)
def tide_Check_b4 (w : api_Water) : Int → Option (Int ⊕ Int)
 | x3 =>
  if decide (x3 < (w.Cycles.length : Int)) then
   Option.bind (ix w.Cycles x3) fun x2 =>
   Option.bind (tide_right x2) fun y =>
   if !y then
    some (.inr 1)
   else
    Option.bind (sub w.Cycles 0 x3) fun l =>
    Option.bind (slices_ContainsFunc_api_Cycle__tide_Check_1 l x2) fun y1 =>
    if y1 then
     some (.inr 6)
    else
     some (.inl (w64 (x3 + 1)))
  else
   ((tide_Check_j1 w).map Sum.inr)
def tide_Check (w : api_Water) : Option Int :=
 if !(tide_level w.Level) then
  some 1
 else
  if ((decide (6 < (w.Cycles.length : Int))) || (decide (20 < (w.Shifts.length : Int)))) then
   some 2
  else
   Lp (tide_Check_b4 w) fuel 0
def berth_within (n : Int) (lo : Int) (hi : Int) : Bool :=
 ((decide (lo ≤ n)) && (decide (n ≤ hi)))
def berth_berthID (b : api_Berth) : Int :=
 b.ID
def berth_first_api_Berth_1__berth_berthID (x : api_Berth) (c : Int) : Bool :=
 decide ((berth_berthID x) = c)
def slices_IndexFunc_api_Berth__berth_first_api_Berth_1__berth_berthID_j1 : Option Int :=
 some (-1)
def slices_IndexFunc_api_Berth__berth_first_api_Berth_1__berth_berthID_b2 (s : (List api_Berth)) (c : Int) : Int → Option (Int ⊕ Int)
 | x1 =>
  if decide (x1 < (s.length : Int)) then
   Option.bind (ix s x1) fun x =>
   if (berth_first_api_Berth_1__berth_berthID x c) then
    some (.inr x1)
   else
    some (.inl (w64 (x1 + 1)))
  else
   ((slices_IndexFunc_api_Berth__berth_first_api_Berth_1__berth_berthID_j1).map Sum.inr)
def slices_IndexFunc_api_Berth__berth_first_api_Berth_1__berth_berthID (s : (List api_Berth)) (c : Int) : Option Int :=
 Lp (slices_IndexFunc_api_Berth__berth_first_api_Berth_1__berth_berthID_b2 s c) fuel 0
def berth_first_api_Berth__berth_berthID (l : (List api_Berth)) (id : Int) : Option Int :=
 Option.bind (slices_IndexFunc_api_Berth__berth_first_api_Berth_1__berth_berthID l id) fun y =>
 some y
def berth_timed (s : api_Span) : Bool :=
 ((((decide (0 ≤ s.Lo)) && (decide (s.Lo ≤ s.Hi))) && (decide (s.Hi ≤ 1048576))) && (decide ((w64 (s.Hi - s.Lo)) < 1440)))
def berth_Check_j2 (h : api_Harbour) : Option Int :=
 if !(berth_within h.Keel 0 8000) then
  some 1
 else
  some 0
def berth_Check_b3 (h : api_Harbour) : (Int × Int) → Option ((Int × Int) ⊕ Int)
 | (last, x1) =>
  if decide (x1 < (h.Tides.length : Int)) then
   Option.bind (ix h.Tides x1) fun x =>
   if ((!(berth_timed x)) || (decide (x.Lo ≤ last))) then
    some (.inr 1)
   else
    some (.inl (x.Hi, w64 (x1 + 1)))
  else
   ((berth_Check_j2 h).map Sum.inr)
def berth_Check_j1 (h : api_Harbour) : Option Int :=
 Lp (berth_Check_b3 h) fuel ((-1), 0)
def berth_Check_b4 (h : api_Harbour) : Int → Option (Int ⊕ Int)
 | x3 =>
  if decide (x3 < (h.Berths.length : Int)) then
   Option.bind (ix h.Berths x3) fun x2 =>
   if ((!(berth_within x2.ID 1 1099511627776)) || (!(berth_within x2.Depth 0 8000))) then
    some (.inr 1)
   else
    Option.bind (berth_first_api_Berth__berth_berthID h.Berths x2.ID) fun y1 =>
    if decide (y1 < x3) then
     some (.inr 6)
    else
     some (.inl (w64 (x3 + 1)))
  else
   ((berth_Check_j1 h).map Sum.inr)
def berth_Check (h : api_Harbour) : Option Int :=
 Option.bind (tide_Check h.Water) fun y =>
 if !decide (y = 0) then
  some y
 else
  if ((decide (6 < (h.Berths.length : Int))) || (decide (12 < (h.Tides.length : Int)))) then
   some 2
  else
   Lp (berth_Check_b4 h) fuel 0
def tide_parts (w : api_Water) : Option api_Water := if w.Cycles.length ≤ 9223372036854775807 then some w else none
def tide_heights (w : api_Water) : Option (api_Water × api_Water) :=
 Option.bind (tide_parts w) fun y =>
 some (w, y)
def tide_correction_j1 : Option Int :=
 some 0
def tide_correction_b2 (w : api_Water) (tick : Int) : Int → Option (Int ⊕ Int)
 | x1 =>
  if decide (x1 < (w.Shifts.length : Int)) then
   Option.bind (ix w.Shifts x1) fun x =>
   Option.bind (quo tick 1440) fun q =>
   if (tide_within q x.From x.To) then
    some (.inr x.Add)
   else
    some (.inl (w64 (x1 + 1)))
  else
   ((tide_correction_j1).map Sum.inr)
def tide_correction (w : api_Water) (tick : Int) : Option Int :=
 Lp (tide_correction_b2 w tick) fuel 0
def tide_parts_1 (tick : Int) (c : api_Water) : Option Int :=
 Option.bind (tide_correction c tick) fun y =>
 some y
def tide_below (a : Int) (b : Int) : Option (Int × Int) :=
 Option.bind (rem a b) fun q =>
 Option.bind (rem (w64 (q + b)) b) fun q1 =>
 Option.bind (quo (w64 (a - q1)) b) fun q2 =>
 some (q2, q1)
def tide_value (c : api_Cycle) (tick : Int) : Option Int :=
 Option.bind (tide_below (w64 (tick - c.Begin)) c.Every) fun y =>
 Option.bind (tide_below y.1 (c.Heights.length : Int)) fun y1 =>
 Option.bind (ix c.Heights y1.2) fun x =>
 some x
def tide_parts_2 (tick : Int) (c : api_Cycle) : Option Int :=
 Option.bind (tide_value c tick) fun y =>
 some y
def tide_heights_1_j1 (h : Int) : Option Int :=
 some h
def tide_heights_1_b2 (tick : Int) (c : api_Water) (c1 : api_Water) : (Int × Int) → Option ((Int × Int) ⊕ Int)
 | (h1, i) =>
  if decide (i < (c.Cycles.length : Int)) then
   if decide (i = -1) then
    Option.bind (tide_parts_1 tick c1) fun y =>
    some (.inl (w64 (h1 + y), w64 (i + 1)))
   else
    Option.bind (ix c1.Cycles i) fun c2 =>
    Option.bind (tide_parts_2 tick c2) fun y1 =>
    some (.inl (w64 (h1 + y1), w64 (i + 1)))
  else
   ((tide_heights_1_j1 h1).map Sum.inr)
def tide_heights_1 (tick : Int) (c : api_Water) (c1 : api_Water) : Option Int :=
 Lp (tide_heights_1_b2 tick c c1) fuel (c.Level, (-1))
def tide_Height (w : api_Water) (tick : Int) : Option (Int × Int) :=
 Option.bind (tide_Check w) fun y =>
 if !decide (y = 0) then
  some (0, y)
 else
  if !(tide_minute tick) then
   some (0, 1)
  else
   Option.bind (tide_heights w) fun y1 =>
   Option.bind (tide_heights_1 tick y1.1 y1.2) fun y2 =>
   some (y2, 0)
def berth_Depth (h : api_Harbour) (id : Int) (tick : Int) : Option (Int × Int) :=
 Option.bind (berth_Check h) fun y =>
 if !decide (y = 0) then
  some (0, y)
 else
  Option.bind (berth_first_api_Berth__berth_berthID h.Berths id) fun y1 =>
  if decide (y1 < 0) then
   some (0, 5)
  else
   Option.bind (tide_Height h.Water tick) fun y2 =>
   if !decide (y2.2 = 0) then
    some (0, 1)
   else
    Option.bind (ix h.Berths y1) fun x =>
    some (w64 (x.Depth + y2.1), 0)
def berth_needed (h : api_Harbour) (b : api_Berth) (draught : Int) : Int :=
 w64 ((w64 (draught + h.Keel)) - b.Depth)
def tide_minutes (s : api_Span) : Int :=
 if (((decide (s.Lo < 0)) || (decide (s.Hi < s.Lo))) || (decide (1048576 < s.Hi))) then
  1
 else
  if decide (10080 ≤ (w64 (s.Hi - s.Lo))) then
   2
  else
   0
def tide_asked (w : api_Water) (s : api_Span) : Option Int :=
 Option.bind (tide_Check w) fun y =>
 if !decide (y = 0) then
  some y
 else
  some (tide_minutes s)
def tide_stands (w : api_Water) (s : api_Span) : api_Water × api_Span :=
 (w, s)
def tide_Windows_j1 (height : Int) (Lo : Int) (Hi : Int) (Height : Int) (l : (List api_Span)) : Option ((List api_Span) × Int) :=
 if decide (Height < height) then
  some (l, 0)
 else
  gb ((decide (0 < (l.length : Int)))) (ix l (w64 ((l.length : Int) - 1))) fun x =>
  if ((decide (0 < (l.length : Int))) && (decide ((w64 (x.Hi + 1)) = Lo))) then
   Option.bind (ix l (w64 ((l.length : Int) - 1))) fun x1 =>
   some ((put l (w64 ((l.length : Int) - 1)) (⟨x1.Lo, Hi⟩ : api_Span)), 0)
  else
   Option.bind (app l ([(⟨Lo, Hi⟩ : api_Span)])) fun l1 =>
   some (l1, 0)
def tide_Windows_j3 (t : Int) (Lo1 : Int) (Height1 : Int) (l2 : (List api_Span)) : Option ((Int × Int × Int × Int × (List api_Span)) ⊕ ((List api_Span) × Int)) :=
 some (.inl (w64 (t + 1), Lo1, t, Height1, l2))
def tide_Windows_b2 (w : api_Water) (s : api_Span) (height : Int) (y1 : api_Water × api_Water) : (Int × Int × Int × Int × (List api_Span)) → Option ((Int × Int × Int × Int × (List api_Span)) ⊕ ((List api_Span) × Int))
 | (t, Lo2, Hi1, Height2, l5) =>
  if decide (t ≤ ((tide_stands w s).2.Hi)) then
   Option.bind (tide_heights_1 t y1.1 y1.2) fun y3 =>
   if decide (y3 = Height2) then
    tide_Windows_j3 t Lo2 Height2 l5
   else
    if decide (Height2 < height) then
     tide_Windows_j3 t t y3 l5
    else
     gb ((decide (0 < (l5.length : Int)))) (ix l5 (w64 ((l5.length : Int) - 1))) fun x2 =>
     if ((decide (0 < (l5.length : Int))) && (decide ((w64 (x2.Hi + 1)) = Lo2))) then
      Option.bind (ix l5 (w64 ((l5.length : Int) - 1))) fun x3 =>
      tide_Windows_j3 t t y3 (put l5 (w64 ((l5.length : Int) - 1)) (⟨x3.Lo, Hi1⟩ : api_Span))
     else
      Option.bind (app l5 ([(⟨Lo2, Hi1⟩ : api_Span)])) fun l3 =>
      tide_Windows_j3 t t y3 l3
  else
   ((tide_Windows_j1 height Lo2 Hi1 Height2 l5).map Sum.inr)
def tide_Windows (w : api_Water) (s : api_Span) (height : Int) : Option ((List api_Span) × Int) :=
 Option.bind (tide_asked w s) fun y =>
 if !decide (y = 0) then
  some ([], y)
 else
  Option.bind (tide_heights ((tide_stands w s).1)) fun y1 =>
  Option.bind (tide_heights_1 ((tide_stands w s).2.Lo) y1.1 y1.2) fun y2 =>
  Lp (tide_Windows_b2 w s height y1) fuel (w64 (((tide_stands w s).2.Lo) + 1), (tide_stands w s).2.Lo, (tide_stands w s).2.Lo, y2, [])
def berth_Touch (h : api_Harbour) (id : Int) (draught : Int) (s : api_Span) : Option (Int × Bool × Int) :=
 Option.bind (berth_Check h) fun y =>
 if !decide (y = 0) then
  some (0, false, y)
 else
  Option.bind (berth_first_api_Berth__berth_berthID h.Berths id) fun y1 =>
  if decide (y1 < 0) then
   some (0, false, 5)
  else
   if ((!(berth_within draught 0 8000)) || (!(berth_timed s))) then
    some (0, false, 1)
   else
    Option.bind (ix h.Berths y1) fun x =>
    Option.bind (tide_Windows h.Water s (berth_needed h x draught)) fun y2 =>
    if !decide (y2.2 = 0) then
     some (0, false, y2.2)
    else
     gb (!(decide ((y2.1.length : Int) = 0))) (ix y2.1 0) fun x1 =>
     if ((decide ((y2.1.length : Int) = 0)) || (decide (s.Lo < x1.Lo))) then
      some (s.Lo, true, 0)
     else
      Option.bind (ix y2.1 0) fun x2 =>
      if decide (x2.Hi < s.Hi) then
       Option.bind (ix y2.1 0) fun x3 =>
       some (w64 (x3.Hi + 1), true, 0)
      else
       some (0, false, 0)
def law06_waiting_j1 (l : (List api_Call)) : Option (List api_Call) :=
 some l
def law06_waiting_b2 (n : Int) : (Int × (List api_Call)) → Option ((Int × (List api_Call)) ⊕ (List api_Call))
 | (i, l2) =>
  if decide (i < n) then
   Option.bind (app l2 ([(⟨w64 (11 + i), 700, 0, 1000, 60⟩ : api_Call)])) fun l1 =>
   some (.inl (w64 (i + 1), l1))
  else
   ((law06_waiting_j1 l2).map Sum.inr)
def law06_waiting (n : Int) : Option (List api_Call) :=
 Lp (law06_waiting_b2 n) fuel (0, [])
def berth_right (c : api_Call) : Bool :=
 ((((((berth_within c.ID 1 1099511627776) && (berth_within c.Draught 0 8000)) && (decide (0 ≤ c.From))) && (decide (c.From ≤ c.To))) && (decide (c.To ≤ 1048576))) && (berth_within c.Long 1 1440))
def berth_slot (h : api_Harbour) (x : api_Slot) : Option (api_Berth × Bool) :=
 Option.bind (berth_first_api_Berth__berth_berthID h.Berths x.Berth) fun y =>
 if ((decide (y < 0)) || (!(berth_within x.Tide 0 (w64 ((h.Tides.length : Int) - 1))))) then
  some ((⟨0, 0⟩ : api_Berth), false)
 else
  Option.bind (ix h.Berths y) fun x1 =>
  some (x1, true)
def tide_Next_j1 : Option (api_Span × Int) :=
 some ((⟨0, 0⟩ : api_Span), 5)
def tide_Next_b2 (long : Int) (y : (List api_Span) × Int) : Int → Option (Int ⊕ (api_Span × Int))
 | x1 =>
  if decide (x1 < (y.1.length : Int)) then
   Option.bind (ix y.1 x1) fun x =>
   if decide ((w64 (long - 1)) ≤ (w64 (x.Hi - x.Lo))) then
    some (.inr (x, 0))
   else
    some (.inl (w64 (x1 + 1)))
  else
   ((tide_Next_j1).map Sum.inr)
def tide_Next (w : api_Water) (s : api_Span) (height : Int) (long : Int) : Option (api_Span × Int) :=
 Option.bind (tide_Windows w s height) fun y =>
 if !decide (y.2 = 0) then
  some ((⟨0, 0⟩ : api_Span), y.2)
 else
  if decide (long < 1) then
   some ((⟨0, 0⟩ : api_Span), 1)
  else
   Lp (tide_Next_b2 long y) fuel 0
def berth_when (h : api_Harbour) (c : api_Call) (x : api_Slot) (b : api_Berth) : Option (api_Span × Bool) :=
 Option.bind (ix h.Tides x.Tide) fun x1 =>
 if decide ((min x1.Hi c.To) < (max x1.Lo c.From)) then
  some ((⟨0, 0⟩ : api_Span), false)
 else
  Option.bind (tide_Next h.Water (⟨max x1.Lo c.From, min x1.Hi c.To⟩ : api_Span) (berth_needed h b c.Draught) c.Long) fun y =>
  if !decide (y.2 = 0) then
   some ((⟨0, 0⟩ : api_Span), false)
  else
   some ((⟨y.1.Lo, w64 ((w64 (y.1.Lo + c.Long)) - 1)⟩ : api_Span), true)
def berth_When (h : api_Harbour) (c : api_Call) (x : api_Slot) : Option (api_Span × Bool × Int) :=
 Option.bind (berth_Check h) fun y =>
 if !decide (y = 0) then
  some ((⟨0, 0⟩ : api_Span), false, y)
 else
  if !(berth_right c) then
   some ((⟨0, 0⟩ : api_Span), false, 1)
  else
   Option.bind (berth_slot h x) fun y1 =>
   if !y1.2 then
    some ((⟨0, 0⟩ : api_Span), false, 5)
   else
    Option.bind (berth_when h c x y1.1) fun y2 =>
    some (y2.1, y2.2, 0)
def berth_Allow_1 (draught : Int) (c : api_Harbour) (c1 : Int) (c2 : api_Slot) (c3 : api_Berth) : Option Bool :=
 Option.bind (berth_when c (⟨0, draught, 0, 1048576, c1⟩ : api_Call) c2 c3) fun y =>
 some y.2
def berth_Allow_j1 (lo : Int) : Option (Int × Int) :=
 some (lo, 0)
def berth_Allow_j3 (lo1 : Int) (hi : Int) : Option ((Int × Int) ⊕ (Int × Int)) :=
 some (.inl (lo1, hi))
def berth_Allow_b2 (h : api_Harbour) (x : api_Slot) (long : Int) (y1 : api_Berth × Bool) : (Int × Int) → Option ((Int × Int) ⊕ (Int × Int))
 | (lo2, hi1) =>
  if decide (lo2 < hi1) then
   Option.bind (quo (w64 ((w64 (lo2 + hi1)) + 1)) 2) fun q =>
   Option.bind (berth_Allow_1 q h long x y1.1) fun y3 =>
   if y3 then
    berth_Allow_j3 q hi1
   else
    berth_Allow_j3 lo2 (w64 (q - 1))
  else
   ((berth_Allow_j1 lo2).map Sum.inr)
def berth_Allow (h : api_Harbour) (x : api_Slot) (long : Int) : Option (Int × Int) :=
 Option.bind (berth_Check h) fun y =>
 if !decide (y = 0) then
  some (0, y)
 else
  Option.bind (berth_slot h x) fun y1 =>
  if !y1.2 then
   some (0, 5)
  else
   if !(berth_within long 1 1440) then
    some (0, 1)
   else
    Option.bind (berth_Allow_1 0 h long x y1.1) fun y2 =>
    if !y2 then
     some (0, 5)
    else
     Lp (berth_Allow_b2 h x long y1) fuel (0, 8000)
def berth_callID (c : api_Call) : Int :=
 c.ID
def berth_first_api_Call_1__berth_callID (x : api_Call) (c : Int) : Bool :=
 decide ((berth_callID x) = c)
def slices_IndexFunc_api_Call__berth_first_api_Call_1__berth_callID_j1 : Option Int :=
 some (-1)
def slices_IndexFunc_api_Call__berth_first_api_Call_1__berth_callID_b2 (s : (List api_Call)) (c : Int) : Int → Option (Int ⊕ Int)
 | x1 =>
  if decide (x1 < (s.length : Int)) then
   Option.bind (ix s x1) fun x =>
   if (berth_first_api_Call_1__berth_callID x c) then
    some (.inr x1)
   else
    some (.inl (w64 (x1 + 1)))
  else
   ((slices_IndexFunc_api_Call__berth_first_api_Call_1__berth_callID_j1).map Sum.inr)
def slices_IndexFunc_api_Call__berth_first_api_Call_1__berth_callID (s : (List api_Call)) (c : Int) : Option Int :=
 Lp (slices_IndexFunc_api_Call__berth_first_api_Call_1__berth_callID_b2 s c) fuel 0
def berth_first_api_Call__berth_callID (l : (List api_Call)) (id : Int) : Option Int :=
 Option.bind (slices_IndexFunc_api_Call__berth_first_api_Call_1__berth_callID l id) fun y =>
 some y
def berth_CheckCalls_j1 : Option Int :=
 some 0
def berth_CheckCalls_b2 (l : (List api_Call)) : Int → Option (Int ⊕ Int)
 | x1 =>
  if decide (x1 < (l.length : Int)) then
   Option.bind (ix l x1) fun x =>
   if !(berth_right x) then
    some (.inr 1)
   else
    Option.bind (berth_first_api_Call__berth_callID l x.ID) fun y1 =>
    if decide (y1 < x1) then
     some (.inr 6)
    else
     some (.inl (w64 (x1 + 1)))
  else
   ((berth_CheckCalls_j1).map Sum.inr)
def berth_CheckCalls (h : api_Harbour) (l : (List api_Call)) : Option Int :=
 Option.bind (berth_Check h) fun y =>
 if !decide (y = 0) then
  some y
 else
  if decide (10 < (l.length : Int)) then
   some 2
  else
   Lp (berth_CheckCalls_b2 l) fuel 0
structure api_Stay where
 Call : Int
 Slot : api_Slot
 Span : api_Span
 deriving DecidableEq, Inhabited
def berth_slots (h : api_Harbour) : api_Harbour :=
 h
def berth_taken_j2 (x2 : Int) (l : (List api_Slot)) (m : (List (api_Slot × api_Span))) : Option ((Int × (List api_Slot) × (List (api_Slot × api_Span))) ⊕ ((List api_Slot) × (List (api_Slot × api_Span)))) :=
 some (.inl (w64 (x2 + 1), l, m))
def berth_taken_b3 (h : api_Harbour) (c : api_Call) (x2 : Int) : (Int × (List api_Slot) × (List (api_Slot × api_Span))) → Option ((Int × (List api_Slot) × (List (api_Slot × api_Span))) ⊕ ((Int × (List api_Slot) × (List (api_Slot × api_Span))) ⊕ ((List api_Slot) × (List (api_Slot × api_Span)))))
 | (x1, l3, m2) =>
  if decide (x1 < (((berth_slots h).Berths).length : Int)) then
   Option.bind (ix ((berth_slots h).Berths) x1) fun x =>
   Option.bind (berth_when h c (⟨x2, x.ID⟩ : api_Slot) x) fun y =>
   if y.2 then
    Option.bind (app l3 ([(⟨x2, x.ID⟩ : api_Slot)])) fun l1 =>
    some (.inl (w64 (x1 + 1), l1, (putM posE m2 (⟨x2, x.ID⟩ : api_Slot) y.1)))
   else
    some (.inl (w64 (x1 + 1), l3, m2))
  else
   ((berth_taken_j2 x2 l3 m2).map Sum.inr)
def berth_taken_b1 (h : api_Harbour) (c : api_Call) : (Int × (List api_Slot) × (List (api_Slot × api_Span))) → Option ((Int × (List api_Slot) × (List (api_Slot × api_Span))) ⊕ ((List api_Slot) × (List (api_Slot × api_Span))))
 | (x2, l2, m1) =>
  if decide (x2 < (((berth_slots h).Tides).length : Int)) then
   Lp (berth_taken_b3 h c x2) fuel (0, l2, m1)
  else
   some (.inr (l2, m1))
def berth_taken (h : api_Harbour) (c : api_Call) : Option ((List api_Slot) × (List (api_Slot × api_Span))) :=
 Lp (berth_taken_b1 h c) fuel (0, [], [])
structure berth_board where
 calls : (List api_Call)
 slots : (List api_Slot)
 can : (List (List (api_Slot × api_Span)))
 old : (List Int)
 deriving DecidableEq, Inhabited
def berth_laid_j2 (x4 : Int) (l1 : (List api_Slot)) : Option ((Int × (List api_Slot)) ⊕ berth_board) :=
 some (.inl (w64 (x4 + 1), l1))
def berth_laid_b3 (h : api_Harbour) (x4 : Int) : (Int × (List api_Slot)) → Option ((Int × (List api_Slot)) ⊕ ((Int × (List api_Slot)) ⊕ berth_board))
 | (x1, l3) =>
  if decide (x1 < (((berth_slots h).Berths).length : Int)) then
   Option.bind (ix ((berth_slots h).Berths) x1) fun x =>
   Option.bind (app l3 ([(⟨x4, x.ID⟩ : api_Slot)])) fun l2 =>
   some (.inl (w64 (x1 + 1), l2))
  else
   ((berth_laid_j2 x4 l3).map Sum.inr)
def berth_laid_j4 (l : (List api_Call)) (l10 : (List api_Slot)) (l4 : (List (List (api_Slot × api_Span)))) (l5 : (List Int)) : Option ((Int × (List api_Slot)) ⊕ berth_board) :=
 some (.inr (⟨l, l10, l4, l5⟩ : berth_board))
def berth_laid_b5 (h : api_Harbour) (l : (List api_Call)) (l10 : (List api_Slot)) : (Int × (List (List (api_Slot × api_Span))) × (List Int)) → Option ((Int × (List (List (api_Slot × api_Span))) × (List Int)) ⊕ ((Int × (List api_Slot)) ⊕ berth_board))
 | (x3, l8, l9) =>
  if decide (x3 < (l.length : Int)) then
   Option.bind (ix l x3) fun x2 =>
   Option.bind (berth_taken h x2) fun y =>
   Option.bind (app l8 ([y.2])) fun l6 =>
   Option.bind (app l9 ([(-1)])) fun l7 =>
   some (.inl (w64 (x3 + 1), l6, l7))
  else
   ((berth_laid_j4 l l10 l8 l9).map Sum.inr)
def berth_laid_b1 (h : api_Harbour) (l : (List api_Call)) : (Int × (List api_Slot)) → Option ((Int × (List api_Slot)) ⊕ berth_board)
 | (x4, l10) =>
  if decide (x4 < (((berth_slots h).Tides).length : Int)) then
   Lp (berth_laid_b3 h x4) fuel (0, l10)
  else
   Lp (berth_laid_b5 h l l10) fuel (0, [], [])
def berth_laid (h : api_Harbour) (l : (List api_Call)) : Option berth_board :=
 Lp (berth_laid_b1 h l) fuel (0, [])
def berth_board_costs_j2 (b : berth_board) (ship : Int) (l2 : (List Int)) : Option (List Int) :=
 Option.bind (ix l2 (w64 ((b.slots.length : Int) + ship))) fun x =>
 some (put l2 (w64 ((b.slots.length : Int) + ship)) 0)
def berth_board_costs_j4 (x6 : Int) (l3 : (List Int)) : Option ((Int × (List Int)) ⊕ (List Int)) :=
 some (.inl (w64 (x6 + 1), l3))
def berth_board_costs_b3 (b : berth_board) (ship : Int) : (Int × (List Int)) → Option ((Int × (List Int)) ⊕ (List Int))
 | (x6, l4) =>
  if decide (x6 < (b.slots.length : Int)) then
   Option.bind (ix b.slots x6) fun x1 =>
   Option.bind (ix b.can ship) fun x2 =>
   if (lookM x1 x2).isSome then
    Option.bind (ix l4 x6) fun x3 =>
    Option.bind (ix b.old ship) fun x4 =>
    if decide (x4 = x6) then
     Option.bind (ix (put l4 x6 (-1000)) x6) fun x5 =>
     berth_board_costs_j4 x6 (put (put l4 x6 (-1000)) x6 (-1001))
    else
     berth_board_costs_j4 x6 (put l4 x6 (-1000))
   else
    berth_board_costs_j4 x6 l4
  else
   ((berth_board_costs_j2 b ship l4).map Sum.inr)
def berth_board_costs_j1 (b : berth_board) (ship : Int) (l1 : (List Int)) : Option (List Int) :=
 Lp (berth_board_costs_b3 b ship) fuel (0, l1)
def berth_board_costs_b5 (b : berth_board) (ship : Int) (l : (List Int)) : (Int × (List Int)) → Option ((Int × (List Int)) ⊕ (List Int))
 | (x8, l5) =>
  if decide (x8 < (l.length : Int)) then
   Option.bind (ix l5 x8) fun x7 =>
   some (.inl (w64 (x8 + 1), (put l5 x8 1073741824)))
  else
   ((berth_board_costs_j1 b ship l5).map Sum.inr)
def berth_board_costs (b : berth_board) (ship : Int) : Option (List Int) :=
 Option.bind (mkS (w64 ((b.slots.length : Int) + (b.calls.length : Int))) (w64 ((b.slots.length : Int) + (b.calls.length : Int))) (0 : Int)) fun l =>
 Lp (berth_board_costs_b5 b ship l) fuel (0, l)
def berth_assign_j2 (sum : Int) (l5 : (List Int)) : Option ((List Int) × Int) :=
 some (l5, sum)
def berth_assign_j4 (k : Int) (sum1 : Int) (l6 : (List Int)) : Option ((Int × Int × (List Int)) ⊕ ((List Int) × Int)) :=
 some (.inl (sum1, w64 (k + 1), l6))
def berth_assign_b3 (cost : (List (List Int))) (places : Int) (l3 : (List Int)) : (Int × Int × (List Int)) → Option ((Int × Int × (List Int)) ⊕ ((List Int) × Int))
 | (sum2, k, l7) =>
  if decide (k ≤ places) then
   Option.bind (ix l3 k) fun x =>
   if decide (0 < x) then
    Option.bind (ix l3 k) fun x1 =>
    Option.bind (ix l7 (w64 (x1 - 1))) fun x2 =>
    Option.bind (ix l3 k) fun x3 =>
    Option.bind (ix cost (w64 (x3 - 1))) fun x4 =>
    Option.bind (ix x4 (w64 (k - 1))) fun x5 =>
    berth_assign_j4 k (w64 (sum2 + x5)) (put l7 (w64 (x1 - 1)) (w64 (k - 1)))
   else
    berth_assign_j4 k sum2 l7
  else
   ((berth_assign_j2 sum2 l7).map Sum.inr)
def berth_assign_j1 (cost : (List (List Int))) (places : Int) (l3 : (List Int)) : Option ((List Int) × Int) :=
 Option.bind (mkS (cost.length : Int) (cost.length : Int) (0 : Int)) fun l4 =>
 Lp (berth_assign_b3 cost places l3) fuel (0, 1, l4)
def berth_assign_j8 (i : Int) (l12 : (List Int)) (l13 : (List Int)) (l15 : (List Int)) : Option ((Int × (List Int) × (List Int) × (List Int)) ⊕ ((List Int) × Int)) :=
 some (.inl (w64 (i + 1), l12, l13, l15))
def berth_assign_b9 (i : Int) (l12 : (List Int)) (l13 : (List Int)) (l14 : (List Int)) : (Int × (List Int)) → Option ((Int × (List Int)) ⊕ ((Int × (List Int) × (List Int) × (List Int)) ⊕ ((List Int) × Int)))
 | (at_1, l16) =>
  if !decide (at_1 = 0) then
   Option.bind (ix l14 at_1) fun x7 =>
   Option.bind (ix l16 x7) fun x8 =>
   Option.bind (ix l16 at_1) fun x9 =>
   Option.bind (ix l14 at_1) fun x10 =>
   some (.inl (x10, (put l16 at_1 x8)))
  else
   ((berth_assign_j8 i l12 l13 l16).map Sum.inr)
def berth_assign_j7 (i : Int) (l42 : (List Int)) (at_ : Int) (l12 : (List Int)) (l13 : (List Int)) (l14 : (List Int)) : Option ((Int × (List Int) × (List Int) × (List Int)) ⊕ ((List Int) × Int)) :=
 Lp (berth_assign_b9 i l12 l13 l14) fuel (at_, (put l42 0 i))
def berth_assign_j12 (i : Int) (l42 : (List Int)) (at_2 : Int) (l38 : (List Bool)) (next : Int) (l18 : (List Int)) (l19 : (List Int)) (l20 : (List Int)) (l21 : (List Int)) : Option ((Int × (List Int) × (List Int) × (List Int) × (List Int) × (List Bool)) ⊕ ((Int × (List Int) × (List Int) × (List Int)) ⊕ ((List Int) × Int))) :=
 Option.bind (ix (put l42 0 i) next) fun x13 =>
 if decide (x13 = 0) then
  ((berth_assign_j7 i l42 next l19 l20 l18).map Sum.inr)
 else
  some (.inl (next, l19, l20, l21, l18, (put l38 at_2 true)))
def berth_assign_j14 (x22 : Int) (l22 : (List Int)) (l23 : (List Int)) (l24 : (List Int)) : Option ((Int × (List Int) × (List Int) × (List Int)) ⊕ ((Int × (List Int) × (List Int) × (List Int) × (List Int) × (List Bool)) ⊕ ((Int × (List Int) × (List Int) × (List Int)) ⊕ ((List Int) × Int)))) :=
 some (.inl (w64 (x22 + 1), l22, l23, l24))
def berth_assign_b13 (i : Int) (l42 : (List Int)) (at_2 : Int) (l38 : (List Bool)) (next : Int) (step : Int) (l18 : (List Int)) : (Int × (List Int) × (List Int) × (List Int)) → Option ((Int × (List Int) × (List Int) × (List Int)) ⊕ ((Int × (List Int) × (List Int) × (List Int) × (List Int) × (List Bool)) ⊕ ((Int × (List Int) × (List Int) × (List Int)) ⊕ ((List Int) × Int))))
 | (x22, l25, l26, l27) =>
  if decide (x22 < ((put l38 at_2 true).length : Int)) then
   Option.bind (ix (put l38 at_2 true) x22) fun x14 =>
   if x14 then
    Option.bind (ix (put l42 0 i) x22) fun x15 =>
    Option.bind (ix l25 x15) fun x16 =>
    Option.bind (ix l25 x15) fun x17 =>
    Option.bind (ix l26 x22) fun x18 =>
    Option.bind (ix l26 x22) fun x19 =>
    berth_assign_j14 x22 (put l25 x15 (w64 (x16 + step))) (put l26 x22 (w64 (x18 - step))) l27
   else
    Option.bind (ix l27 x22) fun x20 =>
    Option.bind (ix l27 x22) fun x21 =>
    berth_assign_j14 x22 l25 l26 (put l27 x22 (w64 (x20 - step)))
  else
   ((berth_assign_j12 i l42 at_2 l38 next l18 l25 l26 l27).map Sum.inr)
def berth_assign_j11 (i : Int) (l42 : (List Int)) (at_2 : Int) (l34 : (List Int)) (l35 : (List Int)) (l38 : (List Bool)) (next : Int) (step : Int) (l17 : (List Int)) (l18 : (List Int)) : Option ((Int × (List Int) × (List Int) × (List Int) × (List Int) × (List Bool)) ⊕ ((Int × (List Int) × (List Int) × (List Int)) ⊕ ((List Int) × Int))) :=
 Lp (berth_assign_b13 i l42 at_2 l38 next step l18) fuel (0, l34, l35, l17)
def berth_assign_j16 (k1 : Int) (next1 : Int) (step1 : Int) (l28 : (List Int)) (l29 : (List Int)) : Option ((Int × Int × Int × (List Int) × (List Int)) ⊕ ((Int × (List Int) × (List Int) × (List Int) × (List Int) × (List Bool)) ⊕ ((Int × (List Int) × (List Int) × (List Int)) ⊕ ((List Int) × Int)))) :=
 some (.inl (next1, step1, w64 (k1 + 1), l28, l29))
def berth_assign_j17 (next2 : Int) (step2 : Int) (k1 : Int) (l30 : (List Int)) (l31 : (List Int)) : Option ((Int × Int × Int × (List Int) × (List Int)) ⊕ ((Int × (List Int) × (List Int) × (List Int) × (List Int) × (List Bool)) ⊕ ((Int × (List Int) × (List Int) × (List Int)) ⊕ ((List Int) × Int)))) :=
 Option.bind (ix l30 k1) fun x29 =>
 if decide (x29 < step2) then
  Option.bind (ix l30 k1) fun x30 =>
  berth_assign_j16 k1 k1 x30 l30 l31
 else
  berth_assign_j16 k1 next2 step2 l30 l31
def berth_assign_b15 (cost : (List (List Int))) (places : Int) (i : Int) (l42 : (List Int)) (at_2 : Int) (l34 : (List Int)) (l35 : (List Int)) (l38 : (List Bool)) (x12 : Int) : (Int × Int × Int × (List Int) × (List Int)) → Option ((Int × Int × Int × (List Int) × (List Int)) ⊕ ((Int × (List Int) × (List Int) × (List Int) × (List Int) × (List Bool)) ⊕ ((Int × (List Int) × (List Int) × (List Int)) ⊕ ((List Int) × Int))))
 | (next2, step2, k1, l32, l33) =>
  if decide (k1 ≤ places) then
   Option.bind (ix (put l38 at_2 true) k1) fun x23 =>
   if x23 then
    berth_assign_j16 k1 next2 step2 l32 l33
   else
    Option.bind (ix cost (w64 (x12 - 1))) fun x24 =>
    Option.bind (ix x24 (w64 (k1 - 1))) fun x25 =>
    Option.bind (ix l34 x12) fun x26 =>
    Option.bind (ix l35 k1) fun x27 =>
    Option.bind (ix l32 k1) fun x28 =>
    if decide ((w64 ((w64 (x25 - x26)) - x27)) < x28) then
     Option.bind (ix l32 k1) fun x31 =>
     Option.bind (ix l33 k1) fun x32 =>
     berth_assign_j17 next2 step2 k1 (put l32 k1 (w64 ((w64 (x25 - x26)) - x27))) (put l33 k1 at_2)
    else
     berth_assign_j17 next2 step2 k1 l32 l33
  else
   ((berth_assign_j11 i l42 at_2 l34 l35 l38 next2 step2 l32 l33).map Sum.inr)
def berth_assign_b10 (cost : (List (List Int))) (places : Int) (i : Int) (l42 : (List Int)) : (Int × (List Int) × (List Int) × (List Int) × (List Int) × (List Bool)) → Option ((Int × (List Int) × (List Int) × (List Int) × (List Int) × (List Bool)) ⊕ ((Int × (List Int) × (List Int) × (List Int)) ⊕ ((List Int) × Int)))
 | (at_2, l34, l35, l36, l37, l38) =>
  Option.bind (ix l38 at_2) fun x11 =>
  Option.bind (ix (put l42 0 i) at_2) fun x12 =>
  Lp (berth_assign_b15 cost places i l42 at_2 l34 l35 l38 x12) fuel (0, 4294967296, 1, l36, l37)
def berth_assign_j6 (cost : (List (List Int))) (places : Int) (i : Int) (l40 : (List Int)) (l41 : (List Int)) (l42 : (List Int)) (l9 : (List Int)) (l10 : (List Bool)) (l11 : (List Int)) : Option ((Int × (List Int) × (List Int) × (List Int)) ⊕ ((List Int) × Int)) :=
 Lp (berth_assign_b10 cost places i l42) fuel (0, l40, l41, l11, l9, l10)
def berth_assign_b18 (cost : (List (List Int))) (places : Int) (i : Int) (l40 : (List Int)) (l41 : (List Int)) (l42 : (List Int)) (l8 : (List Int)) (l9 : (List Int)) (l10 : (List Bool)) : (Int × (List Int)) → Option ((Int × (List Int)) ⊕ ((Int × (List Int) × (List Int) × (List Int)) ⊕ ((List Int) × Int)))
 | (x34, l39) =>
  if decide (x34 < (l8.length : Int)) then
   Option.bind (ix l39 x34) fun x33 =>
   some (.inl (w64 (x34 + 1), (put l39 x34 4294967296)))
  else
   ((berth_assign_j6 cost places i l40 l41 l42 l9 l10 l39).map Sum.inr)
def berth_assign_b5 (cost : (List (List Int))) (places : Int) : (Int × (List Int) × (List Int) × (List Int)) → Option ((Int × (List Int) × (List Int) × (List Int)) ⊕ ((List Int) × Int))
 | (i, l40, l41, l42) =>
  if decide (i ≤ (cost.length : Int)) then
   Option.bind (ix l42 0) fun x6 =>
   Option.bind (mkS (w64 (places + 1)) (w64 (places + 1)) (0 : Int)) fun l8 =>
   Option.bind (mkS (w64 (places + 1)) (w64 (places + 1)) (0 : Int)) fun l9 =>
   Option.bind (mkS (w64 (places + 1)) (w64 (places + 1)) false) fun l10 =>
   Lp (berth_assign_b18 cost places i l40 l41 l42 l8 l9 l10) fuel (0, l8)
  else
   ((berth_assign_j1 cost places l42).map Sum.inr)
def berth_assign (cost : (List (List Int))) (places : Int) : Option ((List Int) × Int) :=
 Option.bind (mkS (w64 ((cost.length : Int) + 1)) (w64 ((cost.length : Int) + 1)) (0 : Int)) fun l =>
 Option.bind (mkS (w64 (places + 1)) (w64 (places + 1)) (0 : Int)) fun l1 =>
 Option.bind (mkS (w64 (places + 1)) (w64 (places + 1)) (0 : Int)) fun l2 =>
 Lp (berth_assign_b5 cost places) fuel (1, l, l1, l2)
def berth_board_best_j1 (b : berth_board) (l : (List (List Int))) : Option ((List Int) × Int) :=
 Option.bind (berth_assign l (w64 ((b.slots.length : Int) + (b.calls.length : Int)))) fun y =>
 some (y.1, y.2)
def berth_board_best_j3 (x3 : Int) (l5 : (List (List Int))) (l1 : (List Int)) : Option ((Int × (List (List Int))) ⊕ ((List Int) × Int)) :=
 Option.bind (app l5 ([l1])) fun l2 =>
 some (.inl (w64 (x3 + 1), l2))
def berth_board_best_j6 (x2 : Int) (l3 : (List Int)) : Option ((Int × (List Int)) ⊕ ((Int × (List (List Int))) ⊕ ((List Int) × Int))) :=
 some (.inl (w64 (x2 + 1), l3))
def berth_board_best_b5 (x3 : Int) (l5 : (List (List Int))) (y1 : (List Int)) (k : Int) : (Int × (List Int)) → Option ((Int × (List Int)) ⊕ ((Int × (List (List Int))) ⊕ ((List Int) × Int)))
 | (x2, l4) =>
  if decide (x2 < (y1.length : Int)) then
   if !decide (x2 = k) then
    Option.bind (ix l4 x2) fun x1 =>
    berth_board_best_j6 x2 (put l4 x2 1073741824)
   else
    berth_board_best_j6 x2 l4
  else
   ((berth_board_best_j3 x3 l5 l4).map Sum.inr)
def berth_board_best_j4 (x3 : Int) (l5 : (List (List Int))) (y1 : (List Int)) (k : Int) : Option ((Int × (List (List Int))) ⊕ ((List Int) × Int)) :=
 Lp (berth_board_best_b5 x3 l5 y1 k) fuel (0, y1)
def berth_board_best_b2 (b : berth_board) (fixed : (List Int)) : (Int × (List (List Int))) → Option ((Int × (List (List Int))) ⊕ ((List Int) × Int))
 | (x3, l5) =>
  if decide (x3 < (b.calls.length : Int)) then
   Option.bind (berth_board_costs b x3) fun y1 =>
   if decide (x3 < (fixed.length : Int)) then
    Option.bind (ix fixed x3) fun x =>
    if decide (x < 0) then
     berth_board_best_j4 x3 l5 y1 (w64 ((b.slots.length : Int) + x3))
    else
     berth_board_best_j4 x3 l5 y1 x
   else
    berth_board_best_j3 x3 l5 y1
  else
   ((berth_board_best_j1 b l5).map Sum.inr)
def berth_board_best (b : berth_board) (fixed : (List Int)) : Option ((List Int) × Int) :=
 Lp (berth_board_best_b2 b fixed) fuel (0, [])
def slices_Clone_int (l : List Int) : Option (List Int) := app [] l
def berth_board_plan_j1 (l : (List api_Stay)) : Option (List api_Stay) :=
 some l
def berth_board_plan_j3 (x4 : Int) (l1 : (List Int)) (l2 : (List api_Stay)) : Option ((Int × (List Int) × (List api_Stay)) ⊕ (List api_Stay)) :=
 some (.inl (w64 (x4 + 1), l1, l2))
def berth_board_plan_j4 (x4 : Int) (l8 : (List Int)) (l9 : (List api_Stay)) : Option ((Int × (List Int) × (List api_Stay)) ⊕ (List api_Stay)) :=
 Option.bind (app l8 ([(-1)])) fun l3 =>
 berth_board_plan_j3 x4 l3 l9
def berth_board_plan_j6 (x3 : Int) : Option (Int ⊕ ((Int × (List Int) × (List api_Stay)) ⊕ (List api_Stay))) :=
 some (.inl (w64 (x3 + 1)))
def berth_board_plan_b5 (b : berth_board) (y : (List Int) × Int) (x4 : Int) (l8 : (List Int)) (l9 : (List api_Stay)) (x : api_Call) : Int → Option (Int ⊕ ((Int × (List Int) × (List api_Stay)) ⊕ (List api_Stay)))
 | x3 =>
  if decide (x3 < (b.slots.length : Int)) then
   Option.bind (ix b.slots x3) fun x1 =>
   Option.bind (ix b.can x4) fun x2 =>
   if !(lookM x1 x2).isSome then
    berth_board_plan_j6 x3
   else
    Option.bind (app [] l8) fun l4 =>
    Option.bind (app l4 ([x3])) fun l5 =>
    Option.bind (berth_board_best b l5) fun y1 =>
    if decide (y1.2 = y.2) then
     Option.bind (app l8 ([x3])) fun l6 =>
     Option.bind (app l9 ([(⟨x.ID, x1, ((lookM x1 x2).getD (⟨0, 0⟩ : api_Span))⟩ : api_Stay)])) fun l7 =>
     ((berth_board_plan_j3 x4 l6 l7).map Sum.inr)
    else
     berth_board_plan_j6 x3
  else
   ((berth_board_plan_j4 x4 l8 l9).map Sum.inr)
def berth_board_plan_b2 (b : berth_board) (y : (List Int) × Int) : (Int × (List Int) × (List api_Stay)) → Option ((Int × (List Int) × (List api_Stay)) ⊕ (List api_Stay))
 | (x4, l8, l9) =>
  if decide (x4 < (b.calls.length : Int)) then
   Option.bind (ix b.calls x4) fun x =>
   Lp (berth_board_plan_b5 b y x4 l8 l9 x) fuel 0
  else
   ((berth_board_plan_j1 l9).map Sum.inr)
def berth_board_plan (b : berth_board) : Option (List api_Stay) :=
 Option.bind (berth_board_best b []) fun y =>
 Lp (berth_board_plan_b2 b y) fuel (0, [], [])
def berth_Plan (h : api_Harbour) (l : (List api_Call)) : Option ((List api_Stay) × Int) :=
 Option.bind (berth_CheckCalls h l) fun y =>
 if !decide (y = 0) then
  some ([], y)
 else
  Option.bind (berth_laid h l) fun y1 =>
  Option.bind (berth_board_plan y1) fun y2 =>
  some (y2, 0)
structure api_Crowd where
 Calls : (List Int)
 Slots : (List api_Slot)
 deriving DecidableEq, Inhabited
def berth_board_crowd_1 (c : api_Call) (c1 : berth_board) (c2 : api_Slot) (c3 : (List (Int × Bool))) : Option Bool :=
 Option.bind (berth_first_api_Call__berth_callID c1.calls c.ID) fun y =>
 Option.bind (ix c1.can y) fun x =>
 some (((lookM c2 x).isSome) && ((lookM y c3).getD false))
def slices_IndexFunc_api_Call__berth_board_crowd_1_j1 : Option Int :=
 some (-1)
def slices_IndexFunc_api_Call__berth_board_crowd_1_b2 (s : (List api_Call)) (c : berth_board) (c1 : api_Slot) (c2 : (List (Int × Bool))) : Int → Option (Int ⊕ Int)
 | x1 =>
  if decide (x1 < (s.length : Int)) then
   Option.bind (ix s x1) fun x =>
   Option.bind (berth_board_crowd_1 x c c1 c2) fun y =>
   if y then
    some (.inr x1)
   else
    some (.inl (w64 (x1 + 1)))
  else
   ((slices_IndexFunc_api_Call__berth_board_crowd_1_j1).map Sum.inr)
def slices_IndexFunc_api_Call__berth_board_crowd_1 (s : (List api_Call)) (c : berth_board) (c1 : api_Slot) (c2 : (List (Int × Bool))) : Option Int :=
 Lp (slices_IndexFunc_api_Call__berth_board_crowd_1_b2 s c c1 c2) fuel 0
def slices_ContainsFunc_api_Call__berth_board_crowd_1 (s : (List api_Call)) (c : berth_board) (c1 : api_Slot) (c2 : (List (Int × Bool))) : Option Bool :=
 Option.bind (slices_IndexFunc_api_Call__berth_board_crowd_1 s c c1 c2) fun y =>
 some (decide (0 ≤ y))
def berth_board_crowd_j2 (l1 : (List Int)) (l2 : (List api_Slot)) : Option api_Crowd :=
 some (⟨l1, l2⟩ : api_Crowd)
def berth_board_crowd_j4 (x1 : Int) (l3 : (List api_Slot)) : Option ((Int × (List api_Slot)) ⊕ api_Crowd) :=
 some (.inl (w64 (x1 + 1), l3))
def berth_board_crowd_b3 (b : berth_board) (ships : (List (Int × Bool))) (l1 : (List Int)) : (Int × (List api_Slot)) → Option ((Int × (List api_Slot)) ⊕ api_Crowd)
 | (x1, l5) =>
  if decide (x1 < (b.slots.length : Int)) then
   Option.bind (ix b.slots x1) fun x =>
   Option.bind (slices_ContainsFunc_api_Call__berth_board_crowd_1 b.calls b x ships) fun y =>
   if y then
    Option.bind (app l5 ([x])) fun l4 =>
    berth_board_crowd_j4 x1 l4
   else
    berth_board_crowd_j4 x1 l5
  else
   ((berth_board_crowd_j2 l1 l5).map Sum.inr)
def berth_board_crowd_j1 (b : berth_board) (ships : (List (Int × Bool))) (l : (List Int)) : Option api_Crowd :=
 Option.bind (srtO l) fun l1 =>
 Lp (berth_board_crowd_b3 b ships l1) fuel (0, [])
def berth_board_crowd_j6 (x3 : Int) (l6 : (List Int)) : Option ((Int × (List Int)) ⊕ api_Crowd) :=
 some (.inl (w64 (x3 + 1), l6))
def berth_board_crowd_b5 (b : berth_board) (ships : (List (Int × Bool))) : (Int × (List Int)) → Option ((Int × (List Int)) ⊕ api_Crowd)
 | (x3, l8) =>
  if decide (x3 < (b.calls.length : Int)) then
   Option.bind (ix b.calls x3) fun x2 =>
   if ((lookM x3 ships).getD false) then
    Option.bind (app l8 ([x2.ID])) fun l7 =>
    berth_board_crowd_j6 x3 l7
   else
    berth_board_crowd_j6 x3 l8
  else
   ((berth_board_crowd_j1 b ships l8).map Sum.inr)
def berth_board_crowd (b : berth_board) (ships : (List (Int × Bool))) : Option api_Crowd :=
 Lp (berth_board_crowd_b5 b ships) fuel (0, [])
def berth_Full_j2 (y1 : berth_board) (m2 : (List (Int × Bool))) : Option (api_Crowd × Bool × Int) :=
 Option.bind (berth_board_crowd y1 m2) fun y3 =>
 some (y3, true, 0)
def berth_Full_j5 (x3 : Int) (more : Bool) (m3 : (List (Int × Bool))) : Option ((Bool × Int × (List (Int × Bool))) ⊕ ((Bool × (List (Int × Bool))) ⊕ (api_Crowd × Bool × Int))) :=
 some (.inl (more, w64 (x3 + 1), m3))
def berth_Full_j7 (x2 : Int) (more1 : Bool) (m4 : (List (Int × Bool))) : Option ((Bool × Int × (List (Int × Bool))) ⊕ ((Bool × Int × (List (Int × Bool))) ⊕ ((Bool × (List (Int × Bool))) ⊕ (api_Crowd × Bool × Int)))) :=
 some (.inl (more1, w64 (x2 + 1), m4))
def berth_Full_b6 (l : (List api_Call)) (y1 : berth_board) (m1 : (List (Int × Int))) (x3 : Int) (x : api_Slot) : (Bool × Int × (List (Int × Bool))) → Option ((Bool × Int × (List (Int × Bool))) ⊕ ((Bool × Int × (List (Int × Bool))) ⊕ ((Bool × (List (Int × Bool))) ⊕ (api_Crowd × Bool × Int))))
 | (more2, x2, m5) =>
  if decide (x2 < (l.length : Int)) then
   Option.bind (ix y1.can x2) fun x1 =>
   if (((lookM x x1).isSome) && ((lookM x2 m5).getD false)) then
    berth_Full_j7 x2 true (putM posI m5 ((lookM x3 m1).getD 0) true)
   else
    berth_Full_j7 x2 more2 m5
  else
   ((berth_Full_j5 x3 more2 m5).map Sum.inr)
def berth_Full_b4 (l : (List api_Call)) (y1 : berth_board) (m1 : (List (Int × Int))) : (Bool × Int × (List (Int × Bool))) → Option ((Bool × Int × (List (Int × Bool))) ⊕ ((Bool × (List (Int × Bool))) ⊕ (api_Crowd × Bool × Int)))
 | (more3, x3, m6) =>
  if decide (x3 < (y1.slots.length : Int)) then
   Option.bind (ix y1.slots x3) fun x =>
   if ((!(lookM x3 m1).isSome) || ((lookM ((lookM x3 m1).getD 0) m6).getD false)) then
    berth_Full_j5 x3 more3 m6
   else
    Lp (berth_Full_b6 l y1 m1 x3 x) fuel (more3, 0, m6)
  else
   some (.inr (.inl (more3, m6)))
def berth_Full_b3 (l : (List api_Call)) (y1 : berth_board) (m1 : (List (Int × Int))) : (Bool × (List (Int × Bool))) → Option ((Bool × (List (Int × Bool))) ⊕ (api_Crowd × Bool × Int))
 | (more4, m7) =>
  if more4 then
   Lp (berth_Full_b4 l y1 m1) fuel (false, 0, m7)
  else
   ((berth_Full_j2 y1 m7).map Sum.inr)
def berth_Full_j1 (l : (List api_Call)) (y1 : berth_board) (m : (List (Int × Bool))) (m1 : (List (Int × Int))) : Option (api_Crowd × Bool × Int) :=
 if decide ((m.length : Int) = 0) then
  some ((⟨[], []⟩ : api_Crowd), false, 0)
 else
  Lp (berth_Full_b3 l y1 m1) fuel (true, m)
def berth_Full_j9 (x5 : Int) (m8 : (List (Int × Bool))) (m9 : (List (Int × Int))) : Option ((Int × (List (Int × Bool)) × (List (Int × Int))) ⊕ (api_Crowd × Bool × Int)) :=
 some (.inl (w64 (x5 + 1), m8, m9))
def berth_Full_b8 (l : (List api_Call)) (y1 : berth_board) (y2 : (List Int) × Int) : (Int × (List (Int × Bool)) × (List (Int × Int))) → Option ((Int × (List (Int × Bool)) × (List (Int × Int))) ⊕ (api_Crowd × Bool × Int))
 | (x5, m10, m11) =>
  if decide (x5 < (y2.1.length : Int)) then
   Option.bind (ix y2.1 x5) fun x4 =>
   if decide ((y1.slots.length : Int) ≤ x4) then
    berth_Full_j9 x5 (putM posI m10 x5 true) m11
   else
    berth_Full_j9 x5 m10 (putM posI m11 x4 x5)
  else
   ((berth_Full_j1 l y1 m10 m11).map Sum.inr)
def berth_Full (h : api_Harbour) (l : (List api_Call)) : Option (api_Crowd × Bool × Int) :=
 Option.bind (berth_CheckCalls h l) fun y =>
 if !decide (y = 0) then
  some ((⟨[], []⟩ : api_Crowd), false, y)
 else
  Option.bind (berth_laid h l) fun y1 =>
  Option.bind (berth_board_best y1 []) fun y2 =>
  Lp (berth_Full_b8 l y1 y2) fuel (0, [], [])
def slices_Equal_int_j1 : Option Bool :=
 some true
def slices_Equal_int_b2 (s1 : (List Int)) (s2 : (List Int)) : Int → Option (Int ⊕ Bool)
 | x2 =>
  if decide (x2 < (s1.length : Int)) then
   Option.bind (ix s1 x2) fun x =>
   Option.bind (ix s2 x2) fun x1 =>
   if !decide (x = x1) then
    some (.inr false)
   else
    some (.inl (w64 (x2 + 1)))
  else
   ((slices_Equal_int_j1).map Sum.inr)
def slices_Equal_int (s1 : (List Int)) (s2 : (List Int)) : Option Bool :=
 if !decide ((s1.length : Int) = (s2.length : Int)) then
  some false
 else
  Lp (slices_Equal_int_b2 s1 s2) fuel 0
def slices_Equal_api_Slot_j1 : Option Bool :=
 some true
def slices_Equal_api_Slot_b2 (s1 : (List api_Slot)) (s2 : (List api_Slot)) : Int → Option (Int ⊕ Bool)
 | x2 =>
  if decide (x2 < (s1.length : Int)) then
   Option.bind (ix s1 x2) fun x =>
   Option.bind (ix s2 x2) fun x1 =>
   if !decide (x = x1) then
    some (.inr false)
   else
    some (.inl (w64 (x2 + 1)))
  else
   ((slices_Equal_api_Slot_j1).map Sum.inr)
def slices_Equal_api_Slot (s1 : (List api_Slot)) (s2 : (List api_Slot)) : Option Bool :=
 if !decide ((s1.length : Int) = (s2.length : Int)) then
  some false
 else
  Lp (slices_Equal_api_Slot_b2 s1 s2) fuel 0
def berth_CheckFull_j1 (h : api_Harbour) (l : (List api_Call)) (x : api_Crowd) (m : (List (Int × Bool))) : Option (Int × Int) :=
 Option.bind (berth_laid h l) fun y1 =>
 Option.bind (berth_board_crowd y1 m) fun y2 =>
 gb (!(decide ((x.Calls.length : Int) = 0))) (slices_Equal_int x.Calls y2.Calls) fun y3 =>
 gb (!(((decide ((x.Calls.length : Int) = 0)) || (!y3)))) (slices_Equal_api_Slot x.Slots y2.Slots) fun y4 =>
 if ((((decide ((x.Calls.length : Int) = 0)) || (!y3)) || (!y4)) || (decide ((x.Calls.length : Int) ≤ (x.Slots.length : Int)))) then
  some (0, 8)
 else
  some (w64 ((x.Calls.length : Int) - (x.Slots.length : Int)), 0)
def berth_CheckFull_j3 (x2 : Int) (m1 : (List (Int × Bool))) : Option ((Int × (List (Int × Bool))) ⊕ (Int × Int)) :=
 some (.inl (w64 (x2 + 1), m1))
def berth_CheckFull_b2 (h : api_Harbour) (l : (List api_Call)) (x : api_Crowd) : (Int × (List (Int × Bool))) → Option ((Int × (List (Int × Bool))) ⊕ (Int × Int))
 | (x2, m2) =>
  if decide (x2 < (x.Calls.length : Int)) then
   Option.bind (ix x.Calls x2) fun x1 =>
   Option.bind (berth_first_api_Call__berth_callID l x1) fun y5 =>
   if decide (0 ≤ y5) then
    berth_CheckFull_j3 x2 (putM posI m2 y5 true)
   else
    berth_CheckFull_j3 x2 m2
  else
   ((berth_CheckFull_j1 h l x m2).map Sum.inr)
def berth_CheckFull (h : api_Harbour) (l : (List api_Call)) (x : api_Crowd) : Option (Int × Int) :=
 Option.bind (berth_CheckCalls h l) fun y =>
 if !decide (y = 0) then
  some (0, y)
 else
  Lp (berth_CheckFull_b2 h l x) fuel (0, [])
def law06_sanity : Option Bool :=
 Option.bind (berth_Depth (law06_Harbour) 1 130) fun y =>
 Option.bind (berth_Touch (law06_Harbour) 2 700 (⟨60, 200⟩ : api_Span)) fun y1 =>
 Option.bind (berth_Touch (law06_Harbour) 2 600 (⟨60, 200⟩ : api_Span)) fun y2 =>
 Option.bind (law06_waiting 1) fun y3 =>
 Option.bind (ix y3 0) fun x =>
 Option.bind (berth_When (law06_Harbour) x (⟨0, 2⟩ : api_Slot)) fun y4 =>
 Option.bind (berth_Allow (law06_Harbour) (⟨0, 2⟩ : api_Slot) 120) fun y5 =>
 Option.bind (law06_waiting 3) fun y6 =>
 Option.bind (berth_Plan (law06_Harbour) y6) fun y7 =>
 Option.bind (law06_waiting 5) fun y8 =>
 Option.bind (berth_Full (law06_Harbour) y8) fun y9 =>
 Option.bind (law06_waiting 5) fun y10 =>
 Option.bind (berth_CheckFull (law06_Harbour) y10 y9.1) fun y11 =>
 if (((((((((!decide (y.2 = 0)) || (!decide (y1.2.2 = 0))) || (!decide (y2.2.2 = 0))) || (!decide (y4.2.2 = 0))) || (!decide (y5.2 = 0))) || (!decide (y7.2 = 0))) || (!decide (y9.2.2 = 0))) || (!decide (y11.2 = 0))) || (!decide ((y7.1.length : Int) = 3))) then
  some false
 else
  gb (((((((((decide (y.1 = 1000)) && y1.2.1) && (decide (y1.1 = 60))) && (!y2.2.1)) && y4.2.1) && (decide (y4.1 = (⟨120, 179⟩ : api_Span)))) && (decide (y5.1 = 650))))) (ix y7.1 2) fun x1 =>
  some ((((((((((((decide (y.1 = 1000)) && y1.2.1) && (decide (y1.1 = 60))) && (!y2.2.1)) && y4.2.1) && (decide (y4.1 = (⟨120, 179⟩ : api_Span)))) && (decide (y5.1 = 650))) && (decide (x1 = (⟨13, (⟨1, 1⟩ : api_Slot), (⟨240, 299⟩ : api_Span)⟩ : api_Stay)))) && y9.2.1) && (decide ((y9.1.Calls.length : Int) = 5))) && (decide ((y9.1.Slots.length : Int) = 4))) && (decide (y11.1 = 1)))
def ref02_within (n : Int) (lo : Int) (hi : Int) : Bool :=
 ((decide (lo ≤ n)) && (decide (n ≤ hi)))
def ref02_Right_j1 : Option Bool :=
 some true
def ref02_Right_b2 (c : api_Cycle) : Int → Option (Int ⊕ Bool)
 | i =>
  if decide (i < (c.Heights.length : Int)) then
   Option.bind (ix c.Heights i) fun x =>
   if !(ref02_within x (-4000) 4000) then
    some (.inr false)
   else
    some (.inl (w64 (i + 1)))
  else
   ((ref02_Right_j1).map Sum.inr)
def ref02_Right (c : api_Cycle) : Option Bool :=
 if ((((!(ref02_within c.ID 1 1099511627776)) || (!(ref02_within c.Begin 0 1048576))) || (!(ref02_within c.Every 1 120))) || (!(ref02_within (c.Heights.length : Int) 1 60))) then
  some false
 else
  Lp (ref02_Right_b2 c) fuel 0
def ref02_shifted_j1 : Option Int :=
 some 0
def ref02_shifted_b2 (l : (List api_Shift)) : Int → Option (Int ⊕ Int)
 | i =>
  if decide (i < (l.length : Int)) then
   Option.bind (ix l i) fun x =>
   Option.bind (ix l i) fun x1 =>
   gb (!(decide (x1.From < 0))) (ix l i) fun x2 =>
   gb (!(decide (x1.From < 0))) (ix l i) fun x3 =>
   gb (!(((decide (x1.From < 0)) || (decide (x3.To < x2.From))))) (ix l i) fun x4 =>
   if ((((decide (x1.From < 0)) || (decide (x3.To < x2.From))) || (decide (728 < x4.To))) || (!(ref02_within x.Add (-4000) 4000))) then
    some (.inr 1)
   else
    gb ((decide (0 < i))) (ix l i) fun x5 =>
    gb ((decide (0 < i))) (ix l (max 0 (w64 (i - 1)))) fun x6 =>
    if ((decide (0 < i)) && (decide (x5.From ≤ x6.To))) then
     some (.inr 1)
    else
     some (.inl (w64 (i + 1)))
  else
   ((ref02_shifted_j1).map Sum.inr)
def ref02_shifted (l : (List api_Shift)) : Option Int :=
 Lp (ref02_shifted_b2 l) fuel 0
def ref02_Check_j1 (w : api_Water) : Option Int :=
 Option.bind (ref02_shifted w.Shifts) fun y =>
 some y
def ref02_Check_j3 (i : Int) : Option (Int ⊕ Int) :=
 some (.inl (w64 (i + 1)))
def ref02_Check_b4 (w : api_Water) (i : Int) : Int → Option (Int ⊕ (Int ⊕ Int))
 | k =>
  if decide (k < i) then
   Option.bind (ix w.Cycles k) fun x1 =>
   Option.bind (ix w.Cycles i) fun x2 =>
   if decide (x1.ID = x2.ID) then
    some (.inr (.inr 6))
   else
    some (.inl (w64 (k + 1)))
  else
   ((ref02_Check_j3 i).map Sum.inr)
def ref02_Check_b2 (w : api_Water) : Int → Option (Int ⊕ Int)
 | i =>
  if decide (i < (w.Cycles.length : Int)) then
   Option.bind (ix w.Cycles i) fun x =>
   Option.bind (ref02_Right x) fun y1 =>
   if !y1 then
    some (.inr 1)
   else
    Lp (ref02_Check_b4 w i) fuel 0
  else
   ((ref02_Check_j1 w).map Sum.inr)
def ref02_Check (w : api_Water) : Option Int :=
 if !(ref02_within w.Level (-4000) 4000) then
  some 1
 else
  if ((decide (6 < (w.Cycles.length : Int))) || (decide (20 < (w.Shifts.length : Int)))) then
   some 2
  else
   Lp (ref02_Check_b2 w) fuel 0
def ref06_in (n : Int) (lo : Int) (hi : Int) : Bool :=
 ((decide (lo ≤ n)) && (decide (n ≤ hi)))
def ref06_stay (s : api_Span) : Bool :=
 ((((decide (0 ≤ s.Lo)) && (decide (s.Lo ≤ s.Hi))) && (decide (s.Hi ≤ 1048576))) && (decide ((w64 (s.Hi - s.Lo)) < 1440)))
def ref06_Check_j2 (h : api_Harbour) : Option Int :=
 if !(ref06_in h.Keel 0 8000) then
  some 1
 else
  some 0
def ref06_Check_b3 (h : api_Harbour) : Int → Option (Int ⊕ Int)
 | i =>
  if decide (i < (h.Tides.length : Int)) then
   Option.bind (ix h.Tides i) fun x =>
   gb (!(!(ref06_stay x)) && (decide (0 < i))) (ix h.Tides i) fun x1 =>
   gb (!(!(ref06_stay x)) && (decide (0 < i))) (ix h.Tides (w64 (i - 1))) fun x2 =>
   if ((!(ref06_stay x)) || ((decide (0 < i)) && (decide (x1.Lo ≤ x2.Hi)))) then
    some (.inr 1)
   else
    some (.inl (w64 (i + 1)))
  else
   ((ref06_Check_j2 h).map Sum.inr)
def ref06_Check_j1 (h : api_Harbour) : Option Int :=
 Lp (ref06_Check_b3 h) fuel 0
def ref06_Check_j5 (i1 : Int) : Option (Int ⊕ Int) :=
 some (.inl (w64 (i1 + 1)))
def ref06_Check_b6 (h : api_Harbour) (i1 : Int) : Int → Option (Int ⊕ (Int ⊕ Int))
 | k =>
  if decide (k < i1) then
   Option.bind (ix h.Berths k) fun x5 =>
   Option.bind (ix h.Berths i1) fun x6 =>
   if decide (x5.ID = x6.ID) then
    some (.inr (.inr 6))
   else
    some (.inl (w64 (k + 1)))
  else
   ((ref06_Check_j5 i1).map Sum.inr)
def ref06_Check_b4 (h : api_Harbour) : Int → Option (Int ⊕ Int)
 | i1 =>
  if decide (i1 < (h.Berths.length : Int)) then
   Option.bind (ix h.Berths i1) fun x3 =>
   gb (!(!(ref06_in x3.ID 1 1099511627776))) (ix h.Berths i1) fun x4 =>
   if ((!(ref06_in x3.ID 1 1099511627776)) || (!(ref06_in x4.Depth 0 8000))) then
    some (.inr 1)
   else
    Lp (ref06_Check_b6 h i1) fuel 0
  else
   ((ref06_Check_j1 h).map Sum.inr)
def ref06_Check (h : api_Harbour) : Option Int :=
 Option.bind (ref02_Check h.Water) fun y =>
 if !decide (y = 0) then
  some y
 else
  if ((decide (6 < (h.Berths.length : Int))) || (decide (12 < (h.Tides.length : Int)))) then
   some 2
  else
   Lp (ref06_Check_b4 h) fuel 0
def ref06_valid (c : api_Call) : Bool :=
 (((((ref06_in c.ID 1 1099511627776) && (ref06_in c.Draught 0 8000)) && (ref06_in c.From 0 1048576)) && (ref06_in c.To c.From 1048576)) && (ref06_in c.Long 1 1440))
def ref06_berth_j1 : Option Int :=
 some (-1)
def ref06_berth_b2 (h : api_Harbour) (id : Int) : Int → Option (Int ⊕ Int)
 | i =>
  if decide (i < (h.Berths.length : Int)) then
   Option.bind (ix h.Berths i) fun x =>
   if decide (x.ID = id) then
    some (.inr i)
   else
    some (.inl (w64 (i + 1)))
  else
   ((ref06_berth_j1).map Sum.inr)
def ref06_berth (h : api_Harbour) (id : Int) : Option Int :=
 Lp (ref06_berth_b2 h id) fuel 0
def ref06_slot (h : api_Harbour) (x : api_Slot) : Option Bool :=
 gb (((ref06_in x.Tide 0 (w64 ((h.Tides.length : Int) - 1))))) (ref06_berth h x.Berth) fun y =>
 some ((ref06_in x.Tide 0 (w64 ((h.Tides.length : Int) - 1))) && (decide (0 ≤ y)))
def ref02_correction_j1 : Option Int :=
 some 0
def ref02_correction_b2 (w : api_Water) (q : Int) : Int → Option (Int ⊕ Int)
 | i =>
  if decide (i < (w.Shifts.length : Int)) then
   Option.bind (ix w.Shifts i) fun x =>
   gb ((decide (x.From ≤ q))) (ix w.Shifts i) fun x1 =>
   if ((decide (x.From ≤ q)) && (decide (q ≤ x1.To))) then
    Option.bind (ix w.Shifts i) fun x2 =>
    some (.inr x2.Add)
   else
    some (.inl (w64 (i + 1)))
  else
   ((ref02_correction_j1).map Sum.inr)
def ref02_correction (w : api_Water) (tick : Int) : Option Int :=
 Option.bind (quo tick 1440) fun q =>
 Lp (ref02_correction_b2 w q) fuel 0
def ref02_floor_j1 (q2 : Int) : Option Int :=
 some q2
def ref02_floor (a : Int) (b : Int) : Option Int :=
 Option.bind (quo a b) fun q =>
 Option.bind (rem a b) fun q1 =>
 if decide (q1 < 0) then
  ref02_floor_j1 (w64 (q - 1))
 else
  ref02_floor_j1 q
def ref02_Of (c : api_Cycle) (tick : Int) : Option Int :=
 Option.bind (ref02_floor (w64 (tick - c.Begin)) c.Every) fun y =>
 Option.bind (ref02_floor y (c.Heights.length : Int)) fun y1 =>
 Option.bind (ix c.Heights (w64 (y - (w64 (y1 * (c.Heights.length : Int)))))) fun x =>
 some x
def ref02_rest_j1 (h : Int) : Option Int :=
 some h
def ref02_rest_b2 (w : api_Water) (tick : Int) : (Int × Int) → Option ((Int × Int) ⊕ Int)
 | (h1, i) =>
  if decide (i < (w.Cycles.length : Int)) then
   Option.bind (ix w.Cycles i) fun x =>
   Option.bind (ref02_Of x tick) fun y1 =>
   some (.inl (w64 (h1 + y1), w64 (i + 1)))
  else
   ((ref02_rest_j1 h1).map Sum.inr)
def ref02_rest (w : api_Water) (tick : Int) : Option Int :=
 Option.bind (ref02_correction w tick) fun y =>
 Lp (ref02_rest_b2 w tick) fuel (y, 0)
def ref02_At (w : api_Water) (tick : Int) : Option Int :=
 Option.bind (ref02_rest w tick) fun y =>
 some (w64 (w.Level + y))
def ref06_depth (h : api_Harbour) (at_ : Int) (tick : Int) : Option Int :=
 Option.bind (ix h.Berths at_) fun x =>
 Option.bind (ref02_At h.Water tick) fun y =>
 some (w64 (x.Depth + y))
def ref06_when_j1 : Option (api_Span × Bool) :=
 some ((⟨0, 0⟩ : api_Span), false)
def ref06_when_j3 (c : api_Call) (n : Int) (run : Int) : Option ((Int × Int) ⊕ (api_Span × Bool)) :=
 if decide (run = c.Long) then
  some (.inr ((⟨w64 ((w64 (n - c.Long)) + 1), n⟩ : api_Span), true))
 else
  some (.inl (run, w64 (n + 1)))
def ref06_when_b2 (h : api_Harbour) (c : api_Call) (x1 : api_Span) (y : Int) : (Int × Int) → Option ((Int × Int) ⊕ (api_Span × Bool))
 | (run1, n) =>
  if decide (n ≤ (min x1.Hi c.To)) then
   Option.bind (ref06_depth h (max 0 y) n) fun y1 =>
   if decide (y1 < (w64 (c.Draught + h.Keel))) then
    ref06_when_j3 c n 0
   else
    ref06_when_j3 c n (w64 (run1 + 1))
  else
   ((ref06_when_j1).map Sum.inr)
def ref06_when (h : api_Harbour) (c : api_Call) (x : api_Slot) : Option (api_Span × Bool) :=
 Option.bind (ix h.Tides x.Tide) fun x1 =>
 Option.bind (ref06_berth h x.Berth) fun y =>
 Lp (ref06_when_b2 h c x1 y) fuel (0, max x1.Lo c.From)
def ref06_When (h : api_Harbour) (c : api_Call) (x : api_Slot) : Option (api_Span × Bool × Int) :=
 Option.bind (ref06_Check h) fun y =>
 if !decide (y = 0) then
  some ((⟨0, 0⟩ : api_Span), false, y)
 else
  if !(ref06_valid c) then
   some ((⟨0, 0⟩ : api_Span), false, 1)
  else
   Option.bind (ref06_slot h x) fun y1 =>
   if !y1 then
    some ((⟨0, 0⟩ : api_Span), false, 5)
   else
    Option.bind (ref06_when h c x) fun y2 =>
    some (y2.1, y2.2, 0)
def ref06_Allow_j1 (best : Int) : Option (Int × Int) :=
 if decide (best < 0) then
  some (0, 5)
 else
  some (min best 8000, 0)
def ref06_Allow_j3 (h : api_Harbour) (best1 : Int) (n : Int) (least : Int) : Option ((Int × Int) ⊕ (Int × Int)) :=
 some (.inl (max best1 (w64 (least - h.Keel)), w64 (n + 1)))
def ref06_Allow_b4 (h : api_Harbour) (long : Int) (y2 : Int) (best1 : Int) (n : Int) : (Int × Int) → Option ((Int × Int) ⊕ ((Int × Int) ⊕ (Int × Int)))
 | (least1, k) =>
  if decide (k < (w64 (n + long))) then
   Option.bind (ref06_depth h (max 0 y2) k) fun y4 =>
   some (.inl (min least1 y4, w64 (k + 1)))
  else
   ((ref06_Allow_j3 h best1 n least1).map Sum.inr)
def ref06_Allow_b2 (h : api_Harbour) (long : Int) (x1 : api_Span) (y2 : Int) : (Int × Int) → Option ((Int × Int) ⊕ (Int × Int))
 | (best1, n) =>
  if decide ((w64 ((w64 (n + long)) - 1)) ≤ x1.Hi) then
   Option.bind (ref06_depth h (max 0 y2) n) fun y3 =>
   Lp (ref06_Allow_b4 h long y2 best1 n) fuel (y3, n)
  else
   ((ref06_Allow_j1 best1).map Sum.inr)
def ref06_Allow (h : api_Harbour) (x : api_Slot) (long : Int) : Option (Int × Int) :=
 Option.bind (ref06_Check h) fun y =>
 if !decide (y = 0) then
  some (0, y)
 else
  Option.bind (ref06_slot h x) fun y1 =>
  if !y1 then
   some (0, 5)
  else
   if !(ref06_in long 1 1440) then
    some (0, 1)
   else
    Option.bind (ix h.Tides x.Tide) fun x1 =>
    Option.bind (ref06_berth h x.Berth) fun y2 =>
    Lp (ref06_Allow_b2 h long x1 y2) fuel ((-1), x1.Lo)
def berth_Slots (h : api_Harbour) (c : api_Call) : Option ((List api_Slot) × Int) :=
 Option.bind (berth_Check h) fun y =>
 if !decide (y = 0) then
  some ([], y)
 else
  if !(berth_right c) then
   some ([], 1)
  else
   Option.bind (berth_taken h c) fun y1 =>
   some (y1.1, 0)
structure ref06_Taken where
 L : (List api_Slot)
 E : Int
 deriving DecidableEq, Inhabited
def ref06_slots_j1 (l : (List api_Slot)) : Option (List api_Slot) :=
 some l
def ref06_slots_j3 (t : Int) (l1 : (List api_Slot)) : Option ((Int × (List api_Slot)) ⊕ (List api_Slot)) :=
 some (.inl (w64 (t + 1), l1))
def ref06_slots_j5 (b : Int) (l2 : (List api_Slot)) : Option ((Int × (List api_Slot)) ⊕ ((Int × (List api_Slot)) ⊕ (List api_Slot))) :=
 some (.inl (w64 (b + 1), l2))
def ref06_slots_b4 (h : api_Harbour) (c : api_Call) (t : Int) : (Int × (List api_Slot)) → Option ((Int × (List api_Slot)) ⊕ ((Int × (List api_Slot)) ⊕ (List api_Slot)))
 | (b, l4) =>
  if decide (b < (h.Berths.length : Int)) then
   Option.bind (ix h.Berths b) fun x =>
   Option.bind (ref06_when h c (⟨t, x.ID⟩ : api_Slot)) fun y =>
   if y.2 then
    Option.bind (app l4 ([(⟨t, x.ID⟩ : api_Slot)])) fun l3 =>
    ref06_slots_j5 b l3
   else
    ref06_slots_j5 b l4
  else
   ((ref06_slots_j3 t l4).map Sum.inr)
def ref06_slots_b2 (h : api_Harbour) (c : api_Call) : (Int × (List api_Slot)) → Option ((Int × (List api_Slot)) ⊕ (List api_Slot))
 | (t, l5) =>
  if decide (t < (h.Tides.length : Int)) then
   Lp (ref06_slots_b4 h c t) fuel (0, l5)
  else
   ((ref06_slots_j1 l5).map Sum.inr)
def ref06_slots (h : api_Harbour) (c : api_Call) : Option (List api_Slot) :=
 Lp (ref06_slots_b2 h c) fuel (0, [])
def ref06_Slots (h : api_Harbour) (c : api_Call) : Option ref06_Taken :=
 Option.bind (ref06_Check h) fun y =>
 if !decide (y = 0) then
  some (⟨[], y⟩ : ref06_Taken)
 else
  if !(ref06_valid c) then
   some (⟨[], 1⟩ : ref06_Taken)
  else
   Option.bind (ref06_slots h c) fun y1 =>
   some (⟨y1, 0⟩ : ref06_Taken)
def ref06_SameSlots_j1 : Option Bool :=
 some true
def ref06_SameSlots_b2 (a : (List api_Slot)) (b : (List api_Slot)) : Int → Option (Int ⊕ Bool)
 | i =>
  if decide (i < (a.length : Int)) then
   Option.bind (ix a i) fun x =>
   Option.bind (ix b i) fun x1 =>
   if !decide (x = x1) then
    some (.inr false)
   else
    some (.inl (w64 (i + 1)))
  else
   ((ref06_SameSlots_j1).map Sum.inr)
def ref06_SameSlots (a : (List api_Slot)) (b : (List api_Slot)) : Option Bool :=
 if !decide ((a.length : Int) = (b.length : Int)) then
  some false
 else
  Lp (ref06_SameSlots_b2 a b) fuel 0
def law06_BerthSlots (h : api_Harbour) (c : api_Call) (x : api_Slot) (long : Int) : Option Bool :=
 Option.bind (law06_small h) fun y =>
 if !y then
  Option.bind (law06_sanity) fun y1 =>
  some y1
 else
  Option.bind (berth_When h c x) fun y2 =>
  Option.bind (ref06_When h c x) fun y3 =>
  Option.bind (berth_Allow h x long) fun y4 =>
  Option.bind (ref06_Allow h x long) fun y5 =>
  Option.bind (berth_Slots h c) fun y6 =>
  Option.bind (ref06_Slots h c) fun y7 =>
  Option.bind (law06_sanity) fun y8 =>
  gb (((((((y8 && (decide (y2.1 = y3.1))) && (y2.2.1 == y3.2.1)) && (decide (y2.2.2 = y3.2.2))) && (decide (y4.1 = y5.1))) && (decide (y4.2 = y5.2))))) (ref06_SameSlots y6.1 y7.L) fun y9 =>
  some (((((((y8 && (decide (y2.1 = y3.1))) && (y2.2.1 == y3.2.1)) && (decide (y2.2.2 = y3.2.2))) && (decide (y4.1 = y5.1))) && (decide (y4.2 = y5.2))) && y9) && (decide (y6.2 = y7.E)))
end Go.Mx
