/- Functions of the program as plain functions. Conditions: none. Printed by a program (wip/tools/xg.py). -/
import Derived.Test.YtbmojhkipnnmlaaGreatXl
set_option linter.unusedVariables false
namespace Go.Mx
structure api_Hold where
 ID : Int
 Room : Int
 Lever : Int
 Height : Int
 deriving DecidableEq, Inhabited
structure api_Knot where
 X : Int
 Y : Int
 deriving DecidableEq, Inhabited
structure api_Curve where
 Knots : (List api_Knot)
 Err : Int
 deriving DecidableEq, Inhabited
structure api_Ship where
 ID : Int
 Light : Int
 Lever : Int
 Height : Int
 Holds : (List api_Hold)
 Mean : api_Curve
 Mtac : api_Curve
 Turn : Int
 Least : Int
 deriving DecidableEq, Inhabited
structure api_Span where
 Lo : Int
 Hi : Int
 deriving DecidableEq, Inhabited
structure api_Load where
 Holds : (List api_Span)
 All : api_Span
 deriving DecidableEq, Inhabited
def top_slight (s : api_Ship) (l : api_Load) : Bool :=
 ((((((decide ((s.Holds.length : Int) ≤ 6)) && (decide ((s.Mean.Knots.length : Int) ≤ 40))) && (decide ((s.Mtac.Knots.length : Int) ≤ 40))) && (decide ((l.Holds.length : Int) ≤ 6))) && (decide ((w64 (l.All.Hi - l.All.Lo)) ≤ 300))) && (decide (l.All.Lo ≤ l.All.Hi)))
def hull_within (n : Int) (lo : Int) (hi : Int) : Bool :=
 ((decide (lo ≤ n)) && (decide (n ≤ hi)))
def hull_placed (lever : Int) (height : Int) : Bool :=
 ((hull_within lever (-20000) 20000) && (hull_within height 0 5000))
def hull_Check_1 (x : api_Hold) (c : api_Hold) : Bool :=
 decide (x.ID = c.ID)
def slices_IndexFunc_api_Hold__hull_Check_1_j1 : Option Int :=
 some (-1)
def slices_IndexFunc_api_Hold__hull_Check_1_b2 (s : (List api_Hold)) (c : api_Hold) : Int → Option (Int ⊕ Int)
 | x1 =>
  if decide (x1 < (s.length : Int)) then
   Option.bind (ix s x1) fun x =>
   if (hull_Check_1 x c) then
    some (.inr x1)
   else
    some (.inl (w64 (x1 + 1)))
  else
   ((slices_IndexFunc_api_Hold__hull_Check_1_j1).map Sum.inr)
def slices_IndexFunc_api_Hold__hull_Check_1 (s : (List api_Hold)) (c : api_Hold) : Option Int :=
 Lp (slices_IndexFunc_api_Hold__hull_Check_1_b2 s c) fuel 0
def slices_ContainsFunc_api_Hold__hull_Check_1 (s : (List api_Hold)) (c : api_Hold) : Option Bool :=
 Option.bind (slices_IndexFunc_api_Hold__hull_Check_1 s c) fun y =>
 some (decide (0 ≤ y))
def hull_rooms_j1 (n : Int) : Option Int :=
 some n
def hull_rooms_b2 (s : api_Ship) : (Int × Int) → Option ((Int × Int) ⊕ Int)
 | (n1, x1) =>
  if decide (x1 < (s.Holds.length : Int)) then
   Option.bind (ix s.Holds x1) fun x =>
   some (.inl (w64 (n1 + x.Room), w64 (x1 + 1)))
  else
   ((hull_rooms_j1 n1).map Sum.inr)
def hull_rooms (s : api_Ship) : Option Int :=
 Lp (hull_rooms_b2 s) fuel (s.Light, 0)
def curve_within (n : Int) (lo : Int) (hi : Int) : Bool :=
 ((decide (lo ≤ n)) && (decide (n ≤ hi)))
def curve_Check_j1 : Option Int :=
 some 0
def curve_Check_b2 (c : api_Curve) : (Int × Int) → Option ((Int × Int) ⊕ Int)
 | (last, x1) =>
  if decide (x1 < (c.Knots.length : Int)) then
   Option.bind (ix c.Knots x1) fun x =>
   if ((!(curve_within x.X (w64 (last + 1)) 2000)) || (!(curve_within x.Y (-65536) 65536))) then
    some (.inr 1)
   else
    some (.inl (x.X, w64 (x1 + 1)))
  else
   ((curve_Check_j1).map Sum.inr)
def curve_Check (c : api_Curve) : Option Int :=
 if decide (40 < (c.Knots.length : Int)) then
  some 2
 else
  if ((decide ((c.Knots.length : Int) = 0)) || (!(curve_within c.Err 0 4000))) then
   some 1
  else
   Lp (curve_Check_b2 c) fuel ((-1), 0)
def curve_pieces (c : api_Curve) : api_Curve :=
 c
structure curve_piece where
 p : api_Knot
 q : api_Knot
 deriving DecidableEq, Inhabited
def curve_piece_rise (x : curve_piece) : Int :=
 w64 (x.q.Y - x.p.Y)
def curve_rising_b1 (c : api_Curve) : (Int × Bool × Bool) → Option ((Int × Bool × Bool) ⊕ Int)
 | (i, up, down) =>
  if decide (i < (((curve_pieces c).Knots).length : Int)) then
   Option.bind (ix ((curve_pieces c).Knots) (w64 (i - 1))) fun x =>
   Option.bind (ix ((curve_pieces c).Knots) i) fun x1 =>
   some (.inl (w64 (i + 1), (up && (decide (0 < (curve_piece_rise (⟨x, x1⟩ : curve_piece))))), (down && (decide ((curve_piece_rise (⟨x, x1⟩ : curve_piece)) < 0)))))
  else
   if up then
    some (.inr 1)
   else
    if down then
     some (.inr (-1))
    else
     some (.inr 0)
def curve_rising (c : api_Curve) : Option Int :=
 Lp (curve_rising_b1 c) fuel (1, true, true)
def curve_Rising (c : api_Curve) : Option (Int × Int) :=
 Option.bind (curve_Check c) fun y =>
 if !decide (y = 0) then
  some (0, y)
 else
  Option.bind (curve_rising c) fun y1 =>
  some (y1, 0)
structure hull_table where
 Curve : api_Curve
 deriving DecidableEq, Inhabited
def hull_table_masses (t : hull_table) : Option api_Span :=
 Option.bind (ix t.Curve.Knots 0) fun x =>
 Option.bind (ix t.Curve.Knots (w64 ((t.Curve.Knots.length : Int) - 1))) fun x1 =>
 some (⟨w64 (x.X * 40), w64 (x1.X * 40)⟩ : api_Span)
def hull_tabled_1 (k : api_Knot) : Bool :=
 decide (k.Y < 0)
def slices_IndexFunc_api_Knot__hull_tabled_1_j1 : Option Int :=
 some (-1)
def slices_IndexFunc_api_Knot__hull_tabled_1_b2 (s : (List api_Knot)) : Int → Option (Int ⊕ Int)
 | x1 =>
  if decide (x1 < (s.length : Int)) then
   Option.bind (ix s x1) fun x =>
   if (hull_tabled_1 x) then
    some (.inr x1)
   else
    some (.inl (w64 (x1 + 1)))
  else
   ((slices_IndexFunc_api_Knot__hull_tabled_1_j1).map Sum.inr)
def slices_IndexFunc_api_Knot__hull_tabled_1 (s : (List api_Knot)) : Option Int :=
 Lp (slices_IndexFunc_api_Knot__hull_tabled_1_b2 s) fuel 0
def slices_ContainsFunc_api_Knot__hull_tabled_1 (s : (List api_Knot)) : Option Bool :=
 Option.bind (slices_IndexFunc_api_Knot__hull_tabled_1 s) fun y =>
 some (decide (0 ≤ y))
def hull_tabled (s : api_Ship) (c : api_Curve) : Option Int :=
 Option.bind (hull_table_masses (⟨c⟩ : hull_table)) fun y =>
 gb (!(decide (s.Light < y.Lo))) (hull_rooms s) fun y1 =>
 gb (!(((decide (s.Light < y.Lo)) || (decide (y.Hi < y1))))) (slices_ContainsFunc_api_Knot__hull_tabled_1 c.Knots) fun y2 =>
 if (((decide (s.Light < y.Lo)) || (decide (y.Hi < y1))) || y2) then
  some 1
 else
  some 0
def cmp_Or_api_Errno_j1 : Option Int :=
 some 0
def cmp_Or_api_Errno_b2 (vals : (List Int)) : Int → Option (Int ⊕ Int)
 | x1 =>
  if decide (x1 < (vals.length : Int)) then
   Option.bind (ix vals x1) fun x =>
   if !decide (x = 0) then
    some (.inr x)
   else
    some (.inl (w64 (x1 + 1)))
  else
   ((cmp_Or_api_Errno_j1).map Sum.inr)
def cmp_Or_api_Errno (vals : (List Int)) : Option Int :=
 Lp (cmp_Or_api_Errno_b2 vals) fuel 0
def hull_Check_j2 (s : api_Ship) : Option Int :=
 Option.bind (curve_Rising s.Mean) fun y1 =>
 if !decide (y1.1 = 1) then
  some 1
 else
  Option.bind (hull_tabled s s.Mean) fun y2 =>
  Option.bind (hull_tabled s s.Mtac) fun y3 =>
  Option.bind (cmp_Or_api_Errno ([y2, y3])) fun y4 =>
  some y4
def hull_Check_b3 (s : api_Ship) : Int → Option (Int ⊕ Int)
 | x1 =>
  if decide (x1 < (([s.Mean, s.Mtac]).length : Int)) then
   Option.bind (ix ([s.Mean, s.Mtac]) x1) fun x =>
   Option.bind (curve_Check x) fun y5 =>
   if !decide (y5 = 0) then
    some (.inr y5)
   else
    some (.inl (w64 (x1 + 1)))
  else
   ((hull_Check_j2 s).map Sum.inr)
def hull_Check_j1 (s : api_Ship) : Option Int :=
 Option.bind (hull_rooms s) fun y =>
 if decide (65536 < y) then
  some 1
 else
  Lp (hull_Check_b3 s) fuel 0
def hull_Check_b4 (s : api_Ship) : Int → Option (Int ⊕ Int)
 | x3 =>
  if decide (x3 < (s.Holds.length : Int)) then
   Option.bind (ix s.Holds x3) fun x2 =>
   if (((!(hull_within x2.ID 1 1099511627776)) || (!(hull_within x2.Room 0 65536))) || (!(hull_placed x2.Lever x2.Height))) then
    some (.inr 1)
   else
    Option.bind (sub s.Holds 0 x3) fun l =>
    Option.bind (slices_ContainsFunc_api_Hold__hull_Check_1 l x2) fun y6 =>
    if y6 then
     some (.inr 6)
    else
     some (.inl (w64 (x3 + 1)))
  else
   ((hull_Check_j1 s).map Sum.inr)
def hull_Check (s : api_Ship) : Option Int :=
 if (((((!(hull_within s.ID 1 1099511627776)) || (!(hull_within s.Light 1 65536))) || (!(hull_placed s.Lever s.Height))) || (!(hull_within s.Turn 1 1048576))) || (!(hull_within s.Least 0 5000))) then
  some 1
 else
  if decide (8 < (s.Holds.length : Int)) then
   some 2
  else
   Lp (hull_Check_b4 s) fuel 0
def hull_sums_j1 (Lo : Int) (Hi : Int) : Option api_Span :=
 some (⟨Lo, Hi⟩ : api_Span)
def hull_sums_b2 (l : (List api_Span)) : (Int × Int × Int) → Option ((Int × Int × Int) ⊕ api_Span)
 | (x1, Lo1, Hi1) =>
  if decide (x1 < (l.length : Int)) then
   Option.bind (ix l x1) fun x =>
   some (.inl (w64 (x1 + 1), w64 (Lo1 + x.Lo), w64 (Hi1 + x.Hi)))
  else
   ((hull_sums_j1 Lo1 Hi1).map Sum.inr)
def hull_sums (l : (List api_Span)) : Option api_Span :=
 Lp (hull_sums_b2 l) fuel (0, 0, 0)
def hull_greater_int (a : Int) (b : Int) : Int :=
 if decide (a < b) then
  b
 else
  a
def hull_totals (l : api_Load) : Option api_Span :=
 Option.bind (hull_sums l.Holds) fun y =>
 some (⟨(hull_greater_int y.Lo l.All.Lo), min y.Hi l.All.Hi⟩ : api_Span)
def hull_CheckLoad_j1 (l : api_Load) : Option Int :=
 Option.bind (hull_totals l) fun y1 =>
 if (((decide (l.All.Lo < 0)) || (decide (l.All.Hi < l.All.Lo))) || (decide (65536 < l.All.Hi))) then
  some 1
 else
  if decide (4000 ≤ (w64 (l.All.Hi - l.All.Lo))) then
   some 2
  else
   if decide (y1.Hi < y1.Lo) then
    some 9
   else
    some 0
def hull_CheckLoad_b2 (s : api_Ship) (l : api_Load) : Int → Option (Int ⊕ Int)
 | x2 =>
  if decide (x2 < (l.Holds.length : Int)) then
   Option.bind (ix l.Holds x2) fun x =>
   gb (!(((decide (x.Lo < 0)) || (decide (x.Hi < x.Lo))))) (ix s.Holds x2) fun x1 =>
   if (((decide (x.Lo < 0)) || (decide (x.Hi < x.Lo))) || (decide (x1.Room < x.Hi))) then
    some (.inr 1)
   else
    some (.inl (w64 (x2 + 1)))
  else
   ((hull_CheckLoad_j1 l).map Sum.inr)
def hull_CheckLoad (s : api_Ship) (l : api_Load) : Option Int :=
 Option.bind (hull_Check s) fun y =>
 if !decide (y = 0) then
  some y
 else
  if !decide ((l.Holds.length : Int) = (s.Holds.length : Int)) then
   some 1
  else
   Lp (hull_CheckLoad_b2 s l) fuel 0
def law03_Ship : api_Ship :=
 (⟨1, 400, 0, 100, [(⟨1, 400, 50, 60⟩ : api_Hold), (⟨2, 400, (-50), 150⟩ : api_Hold)], (⟨[(⟨10, 100⟩ : api_Knot), (⟨30, 500⟩ : api_Knot)], 0⟩ : api_Curve), (⟨[(⟨10, 160⟩ : api_Knot), (⟨30, 140⟩ : api_Knot)], 0⟩ : api_Curve), 10, 30⟩ : api_Ship)
structure api_Frac where
 Num : Int
 Den : Int
 deriving DecidableEq, Inhabited
def hull_table_at_1 (k : api_Knot) (c : Int) : Bool :=
 decide (c ≤ (w64 (k.X * 40)))
def slices_IndexFunc_api_Knot__hull_table_at_1_j1 : Option Int :=
 some (-1)
def slices_IndexFunc_api_Knot__hull_table_at_1_b2 (s : (List api_Knot)) (c : Int) : Int → Option (Int ⊕ Int)
 | x1 =>
  if decide (x1 < (s.length : Int)) then
   Option.bind (ix s x1) fun x =>
   if (hull_table_at_1 x c) then
    some (.inr x1)
   else
    some (.inl (w64 (x1 + 1)))
  else
   ((slices_IndexFunc_api_Knot__hull_table_at_1_j1).map Sum.inr)
def slices_IndexFunc_api_Knot__hull_table_at_1 (s : (List api_Knot)) (c : Int) : Option Int :=
 Lp (slices_IndexFunc_api_Knot__hull_table_at_1_b2 s c) fuel 0
def hull_table_at (t : hull_table) (mass : Int) : Option (Int × Int) :=
 Option.bind (slices_IndexFunc_api_Knot__hull_table_at_1 t.Curve.Knots mass) fun y =>
 Option.bind (ix t.Curve.Knots y) fun x =>
 if decide ((w64 (x.X * 40)) = mass) then
  some (x.Y, 1)
 else
  Option.bind (ix t.Curve.Knots (w64 (y - 1))) fun x1 =>
  some (w64 ((w64 (x1.Y * (w64 ((w64 (x.X - x1.X)) * 40)))) + (w64 ((w64 (x.Y - x1.Y)) * (w64 (mass - (w64 (x1.X * 40))))))), w64 ((w64 (x.X - x1.X)) * 40))
def hull_low_j1 (num : Int) (den : Int) (a : Int) : Option api_Frac :=
 Option.bind (quo num a) fun q =>
 Option.bind (quo den a) fun q1 =>
 some (⟨q, q1⟩ : api_Frac)
def hull_low_b2 (num : Int) (den : Int) : (Int × Int) → Option ((Int × Int) ⊕ api_Frac)
 | (a1, b) =>
  if decide (0 < b) then
   Option.bind (rem a1 b) fun q2 =>
   some (.inl (b, q2))
  else
   ((hull_low_j1 num den a1).map Sum.inr)
def hull_low (num : Int) (den : Int) : Option api_Frac :=
 Lp (hull_low_b2 num den) fuel ((hull_greater_int num (w64 (0 - num))), den)
def hull_Meta (s : api_Ship) (mass : Int) : Option (api_Frac × Int) :=
 Option.bind (hull_Check s) fun y =>
 if !decide (y = 0) then
  some ((⟨0, 0⟩ : api_Frac), y)
 else
  Option.bind (hull_rooms s) fun y1 =>
  if !(hull_within mass s.Light y1) then
   some ((⟨0, 0⟩ : api_Frac), 1)
  else
   Option.bind (hull_table_at (⟨s.Mtac⟩ : hull_table) mass) fun y2 =>
   Option.bind (hull_low y2.1 y2.2) fun y3 =>
   some (y3, 0)
def curve_domain (c : api_Curve) : Option api_Span :=
 Option.bind (ix c.Knots 0) fun x =>
 Option.bind (ix c.Knots (w64 ((c.Knots.length : Int) - 1))) fun x1 =>
 some (⟨x.X, x1.X⟩ : api_Span)
def curve_piece_run (x : curve_piece) : Int :=
 w64 (x.q.X - x.p.X)
def curve_size (n : Int) : Int :=
 max n (w64 (0 - n))
def curve_common_j1 (a1 : Int) : Option Int :=
 some a1
def curve_common_b2 : (Int × Int) → Option ((Int × Int) ⊕ Int)
 | (a2, b1) =>
  if !decide (b1 = 0) then
   Option.bind (rem a2 b1) fun q =>
   some (.inl (b1, q))
  else
   ((curve_common_j1 a2).map Sum.inr)
def curve_common (a : Int) (b : Int) : Option Int :=
 Lp curve_common_b2 fuel (a, b)
def curve_frac_j1 (num1 : Int) (den1 : Int) : Option api_Frac :=
 Option.bind (curve_common (curve_size num1) den1) fun y =>
 Option.bind (quo num1 y) fun q =>
 Option.bind (quo den1 y) fun q1 =>
 some (⟨q, q1⟩ : api_Frac)
def curve_frac (num : Int) (den : Int) : Option api_Frac :=
 if decide (den < 0) then
  curve_frac_j1 (w64 (0 - num)) (w64 (0 - den))
 else
  curve_frac_j1 num den
def curve_value_b1 (c : api_Curve) (x : Int) : Int → Option (Int ⊕ api_Frac)
 | i =>
  if decide (i < (((curve_pieces c).Knots).length : Int)) then
   Option.bind (ix ((curve_pieces c).Knots) (w64 (i - 1))) fun x1 =>
   Option.bind (ix ((curve_pieces c).Knots) i) fun x2 =>
   if decide (x ≤ x2.X) then
    Option.bind (curve_frac (w64 ((w64 (x1.Y * (curve_piece_run (⟨x1, x2⟩ : curve_piece)))) + (w64 ((curve_piece_rise (⟨x1, x2⟩ : curve_piece)) * (w64 (x - x1.X)))))) (curve_piece_run (⟨x1, x2⟩ : curve_piece))) fun y =>
    some (.inr y)
   else
    some (.inl (w64 (i + 1)))
  else
   Option.bind (ix c.Knots (w64 ((c.Knots.length : Int) - 1))) fun x3 =>
   Option.bind (curve_frac x3.Y 1) fun y1 =>
   some (.inr y1)
def curve_value (c : api_Curve) (x : Int) : Option api_Frac :=
 Lp (curve_value_b1 c x) fuel 1
def curve_Value (c : api_Curve) (x : Int) : Option (api_Frac × Int) :=
 Option.bind (curve_Check c) fun y =>
 if !decide (y = 0) then
  some ((⟨0, 0⟩ : api_Frac), y)
 else
  Option.bind (curve_domain c) fun y1 =>
  if !(curve_within x y1.Lo y1.Hi) then
   some ((⟨0, 0⟩ : api_Frac), 3)
  else
   Option.bind (curve_value c x) fun y2 =>
   some (y2, 0)
def hull_each (l : api_Load) : api_Load :=
 l
def hull_heights_j1 (l : (List Int)) : Option (List Int) :=
 some l
def hull_heights_b2 (s : api_Ship) : (Int × (List Int)) → Option ((Int × (List Int)) ⊕ (List Int))
 | (x1, l2) =>
  if decide (x1 < (s.Holds.length : Int)) then
   Option.bind (ix s.Holds x1) fun x =>
   Option.bind (app l2 ([x.Height])) fun l1 =>
   some (.inl (w64 (x1 + 1), l1))
  else
   ((hull_heights_j1 l2).map Sum.inr)
def hull_heights (s : api_Ship) : Option (List Int) :=
 Lp (hull_heights_b2 s) fuel (0, [])
def cmp_isNaN_int (x : Int) : Bool :=
 !decide (x = x)
def cmp_Compare_int (x : Int) (y : Int) : Int :=
 if (cmp_isNaN_int x) then
  if (cmp_isNaN_int y) then
   0
  else
   (-1)
 else
  if (cmp_isNaN_int y) then
   1
  else
   if decide (x < y) then
    (-1)
   else
    if decide (y < x) then
     1
    else
     0
def hull_best_1 (a : Int) (b : Int) (c : (List Int)) : Option Int :=
 Option.bind (ix c b) fun x =>
 Option.bind (ix c a) fun x1 =>
 some (cmp_Compare_int x x1)
def hull_sum_j1 (n : Int) : Option Int :=
 some n
def hull_sum_b2 (x : (List Int)) : (Int × Int) → Option ((Int × Int) ⊕ Int)
 | (n1, x2) =>
  if decide (x2 < (x.length : Int)) then
   Option.bind (ix x x2) fun x1 =>
   some (.inl (w64 (n1 + x1), w64 (x2 + 1)))
  else
   ((hull_sum_j1 n1).map Sum.inr)
def hull_sum (x : (List Int)) : Option Int :=
 Lp (hull_sum_b2 x) fuel (0, 0)
def hull_best_j3 (l4 : (List Int)) : Option (List Int) :=
 some l4
def hull_best_b4 (l : api_Load) (l3 : (List Int)) : (Int × Int × (List Int)) → Option ((Int × Int × (List Int)) ⊕ (List Int))
 | (x5, left, l5) =>
  if decide (x5 < (l3.length : Int)) then
   Option.bind (ix l3 x5) fun x =>
   Option.bind (ix l.Holds x) fun x1 =>
   Option.bind (ix l.Holds x) fun x2 =>
   Option.bind (ix l5 x) fun x3 =>
   Option.bind (ix l5 x) fun x4 =>
   some (.inl (w64 (x5 + 1), w64 (left - (min left (w64 (x1.Hi - x2.Lo)))), (put l5 x (w64 (x3 + (min left (w64 (x1.Hi - x2.Lo))))))))
  else
   ((hull_best_j3 l5).map Sum.inr)
def hull_best_j2 (l : api_Load) (total : Int) (l1 : (List Int)) (l2 : (List Int)) (l3 : (List Int)) : Option (List Int) :=
 Option.bind (sameO l1 l3) fun _ =>
 Option.bind (hull_sum l2) fun y =>
 Lp (hull_best_b4 l l3) fuel (0, w64 (total - y), l2)
def hull_best_j8 (l1 : (List Int)) (blockSize : Int) : Option (Int ⊕ (List Int)) :=
 if decide ((w64 (0 + blockSize)) < (l1.length : Int)) then
  none
 else
  some (.inl (w64 (blockSize * 2)))
def hull_best_b9 (l1 : (List Int)) (blockSize : Int) : Unit → Option (Unit ⊕ (Int ⊕ (List Int)))
 | () =>
  if decide ((w64 (2 * blockSize)) ≤ (l1.length : Int)) then
   none
  else
   ((hull_best_j8 l1 blockSize).map Sum.inr)
def hull_best_b7 (l : api_Load) (total : Int) (l1 : (List Int)) (l2 : (List Int)) (l7 : (List Int)) : Int → Option (Int ⊕ (List Int))
 | blockSize =>
  if decide (blockSize < (l1.length : Int)) then
   Lp (hull_best_b9 l1 blockSize) fuel ()
  else
   ((hull_best_j2 l total l1 l2 l7).map Sum.inr)
def hull_best_j6 (l : api_Load) (total : Int) (l1 : (List Int)) (l2 : (List Int)) (l7 : (List Int)) : Option (List Int) :=
 Lp (hull_best_b7 l total l1 l2 l7) fuel 20
def hull_best_j11 (i : Int) (l8 : (List Int)) : Option ((Int × (List Int)) ⊕ (List Int)) :=
 some (.inl (w64 (i + 1), l8))
def hull_best_b12 (form : (List Int)) (a : Int) (i : Int) : (Int × (List Int)) → Option ((Int × (List Int)) ⊕ ((Int × (List Int)) ⊕ (List Int)))
 | (j, l9) =>
  gb ((decide (a < j))) (ix l9 j) fun x6 =>
  gb ((decide (a < j))) (ix l9 (w64 (j - 1))) fun x7 =>
  gb ((decide (a < j))) (hull_best_1 x6 x7 form) fun y1 =>
  if ((decide (a < j)) && (decide (y1 < 0))) then
   Option.bind (ix l9 (w64 (j - 1))) fun x8 =>
   Option.bind (ix l9 j) fun x9 =>
   Option.bind (ix l9 j) fun x10 =>
   Option.bind (ix (put l9 j x8) (w64 (j - 1))) fun x11 =>
   some (.inl (w64 (j - 1), (put (put l9 j x8) (w64 (j - 1)) x9)))
  else
   ((hull_best_j11 i l9).map Sum.inr)
def hull_best_b10 (l : api_Load) (form : (List Int)) (total : Int) (l1 : (List Int)) (l2 : (List Int)) (a : Int) (l6 : (List Int)) : (Int × (List Int)) → Option ((Int × (List Int)) ⊕ (List Int))
 | (i, l10) =>
  if decide (i < (l1.length : Int)) then
   Lp (hull_best_b12 form a i) fuel (i, l10)
  else
   Option.bind (sameO l6 l10) fun _ =>
   ((hull_best_j6 l total l1 l2 l10).map Sum.inr)
def hull_best_j5 (l : api_Load) (form : (List Int)) (total : Int) (l1 : (List Int)) (l2 : (List Int)) (a : Int) (l6 : (List Int)) : Option (List Int) :=
 Lp (hull_best_b10 l form total l1 l2 a l6) fuel (w64 (a + 1), l6)
def hull_best_j14 (b : Int) (l11 : (List Int)) : Option ((Int × Int × (List Int)) ⊕ (List Int)) :=
 some (.inl (b, w64 (b + 20), l11))
def hull_best_j16 (i1 : Int) (l12 : (List Int)) : Option ((Int × (List Int)) ⊕ ((Int × Int × (List Int)) ⊕ (List Int))) :=
 some (.inl (w64 (i1 + 1), l12))
def hull_best_b17 (form : (List Int)) (a1 : Int) (i1 : Int) : (Int × (List Int)) → Option ((Int × (List Int)) ⊕ ((Int × (List Int)) ⊕ ((Int × Int × (List Int)) ⊕ (List Int))))
 | (j1, l13) =>
  gb ((decide (a1 < j1))) (ix l13 j1) fun x12 =>
  gb ((decide (a1 < j1))) (ix l13 (w64 (j1 - 1))) fun x13 =>
  gb ((decide (a1 < j1))) (hull_best_1 x12 x13 form) fun y2 =>
  if ((decide (a1 < j1)) && (decide (y2 < 0))) then
   Option.bind (ix l13 (w64 (j1 - 1))) fun x14 =>
   Option.bind (ix l13 j1) fun x15 =>
   Option.bind (ix l13 j1) fun x16 =>
   Option.bind (ix (put l13 j1 x14) (w64 (j1 - 1))) fun x17 =>
   some (.inl (w64 (j1 - 1), (put (put l13 j1 x14) (w64 (j1 - 1)) x15)))
  else
   ((hull_best_j16 i1 l13).map Sum.inr)
def hull_best_b15 (form : (List Int)) (a1 : Int) (b : Int) (l15 : (List Int)) : (Int × (List Int)) → Option ((Int × (List Int)) ⊕ ((Int × Int × (List Int)) ⊕ (List Int)))
 | (i1, l14) =>
  if decide (i1 < b) then
   Lp (hull_best_b17 form a1 i1) fuel (i1, l14)
  else
   Option.bind (sameO l15 l14) fun _ =>
   ((hull_best_j14 b l14).map Sum.inr)
def hull_best_b13 (l : api_Load) (form : (List Int)) (total : Int) (l1 : (List Int)) (l2 : (List Int)) : (Int × Int × (List Int)) → Option ((Int × Int × (List Int)) ⊕ (List Int))
 | (a1, b, l15) =>
  if decide (b ≤ (l1.length : Int)) then
   Lp (hull_best_b15 form a1 b l15) fuel (w64 (a1 + 1), l15)
  else
   ((hull_best_j5 l form total l1 l2 a1 l15).map Sum.inr)
def hull_best_j1 (l : api_Load) (form : (List Int)) (total : Int) (l1 : (List Int)) (l2 : (List Int)) : Option (List Int) :=
 Lp (hull_best_b13 l form total l1 l2) fuel (0, 20, l1)
def hull_best_b18 (l : api_Load) (form : (List Int)) (total : Int) : (Int × (List Int) × (List Int)) → Option ((Int × (List Int) × (List Int)) ⊕ (List Int))
 | (x19, l18, l19) =>
  if decide (x19 < (l.Holds.length : Int)) then
   Option.bind (ix l.Holds x19) fun x18 =>
   Option.bind (app l19 ([x18.Lo])) fun l16 =>
   Option.bind (app l18 ([x19])) fun l17 =>
   some (.inl (w64 (x19 + 1), l17, l16))
  else
   ((hull_best_j1 l form total l18 l19).map Sum.inr)
def hull_best (l : api_Load) (form : (List Int)) (total : Int) : Option (List Int) :=
 Lp (hull_best_b18 l form total) fuel (0, [], [])
def hull_spare (s : api_Ship) (total : Int) : Option (Int × Int) :=
 Option.bind (hull_table_at (⟨s.Mtac⟩ : hull_table) (w64 (s.Light + total))) fun y =>
 some (w64 ((w64 (y.1 - (w64 ((w64 (s.Mtac.Err + s.Least)) * y.2)))) * (w64 (s.Light + total))), y.2)
def hull_value_j1 (n : Int) : Option Int :=
 some n
def hull_value_b2 (form : (List Int)) (x : (List Int)) : (Int × Int) → Option ((Int × Int) ⊕ Int)
 | (n1, x3) =>
  if decide (x3 < (form.length : Int)) then
   Option.bind (ix form x3) fun x1 =>
   Option.bind (ix x x3) fun x2 =>
   some (.inl (w64 (n1 + (w64 (x1 * x2))), w64 (x3 + 1)))
  else
   ((hull_value_j1 n1).map Sum.inr)
def hull_value (form : (List Int)) (x : (List Int)) : Option Int :=
 Lp (hull_value_b2 form x) fuel (0, 0)
def hull_rise (s : api_Ship) (x : (List Int)) : Option Int :=
 Option.bind (hull_heights s) fun y =>
 Option.bind (hull_value y x) fun y1 =>
 some (w64 ((w64 (s.Light * s.Height)) + y1))
def hull_steady (s : api_Ship) (x : (List Int)) : Option Bool :=
 Option.bind (hull_sum x) fun y =>
 Option.bind (hull_spare s y) fun y1 =>
 Option.bind (hull_rise s x) fun y2 =>
 some (decide ((w64 (y2 * y1.2)) ≤ y1.1))
def hull_shaky_b1 (s : api_Ship) (l : api_Load) (y : api_Span) : Int → Option (Int ⊕ ((List Int) × Bool))
 | t =>
  if decide (t ≤ y.Hi) then
   Option.bind (hull_heights s) fun y1 =>
   Option.bind (hull_best l y1 t) fun y2 =>
   Option.bind (hull_steady s y2) fun y3 =>
   if !y3 then
    some (.inr (y2, true))
   else
    some (.inl (w64 (t + 1)))
  else
   some (.inr ([], false))
def hull_shaky (s : api_Ship) (l : api_Load) : Option ((List Int) × Bool) :=
 Option.bind (hull_totals (hull_each l)) fun y =>
 Lp (hull_shaky_b1 s l y) fuel y.Lo
def hull_Steady (s : api_Ship) (l : api_Load) : Option ((List Int) × Bool × Int) :=
 Option.bind (hull_CheckLoad s l) fun y =>
 if !decide (y = 0) then
  some ([], false, y)
 else
  Option.bind (hull_shaky s l) fun y1 =>
  some (y1.1, !y1.2, 0)
def top_floating : Option Bool :=
 Option.bind (hull_Meta (law03_Ship) 720) fun y =>
 Option.bind (curve_Value ((law03_Ship).Mtac) 18) fun y1 =>
 Option.bind (hull_Steady (law03_Ship) (⟨[(⟨0, 100⟩ : api_Span), (⟨0, 100⟩ : api_Span)], (⟨0, 200⟩ : api_Span)⟩ : api_Load)) fun y2 =>
 some ((((((decide (y.2 = 0)) && (decide (y1.2 = 0))) && (decide (y2.2.2 = 0))) && (decide (y.1 = y1.1))) && y2.2.1) && (decide (y.1 = (⟨152, 1⟩ : api_Frac))))
def law03_Inside_j2 (l : api_Load) (all1 : Int) (l2 : (List Int)) : Option ((List Int) × Bool) :=
 some (l2, ((decide (l.All.Lo ≤ all1)) && (decide (all1 ≤ l.All.Hi))))
def law03_Inside_b3 (l : api_Load) : (Int × Int × (List Int)) → Option ((Int × Int × (List Int)) ⊕ ((List Int) × Bool))
 | (all2, x4, l3) =>
  if decide (x4 < (l.Holds.length : Int)) then
   Option.bind (ix l.Holds x4) fun x =>
   Option.bind (ix l3 x4) fun x1 =>
   Option.bind (ix l3 x4) fun x2 =>
   Option.bind (ix l3 x4) fun x3 =>
   some (.inl (w64 ((w64 (all2 + (max x.Lo (min x.Hi (w64 ((w64 (x1 + (max 0 (w64 (l.All.Lo - all2))))) - (max 0 (w64 (all2 - l.All.Hi))))))))) - x2), w64 (x4 + 1), (put l3 x4 (max x.Lo (min x.Hi (w64 ((w64 (x1 + (max 0 (w64 (l.All.Lo - all2))))) - (max 0 (w64 (all2 - l.All.Hi))))))))))
  else
   ((law03_Inside_j2 l all2 l3).map Sum.inr)
def law03_Inside_j1 (l : api_Load) (all : Int) (l1 : (List Int)) : Option ((List Int) × Bool) :=
 Lp (law03_Inside_b3 l) fuel (all, 0, l1)
def law03_Inside_j5 (all3 : Int) (x7 : Int) (l5 : (List Int)) (n : Int) : Option ((Int × Int × (List Int)) ⊕ ((List Int) × Bool)) :=
 Option.bind (app l5 ([n])) fun l4 =>
 some (.inl (w64 (all3 + n), w64 (x7 + 1), l4))
def law03_Inside_b4 (l : api_Load) (by_ : (List Int)) : (Int × Int × (List Int)) → Option ((Int × Int × (List Int)) ⊕ ((List Int) × Bool))
 | (all3, x7, l5) =>
  if decide (x7 < (l.Holds.length : Int)) then
   Option.bind (ix l.Holds x7) fun x5 =>
   if decide (x7 < (by_.length : Int)) then
    Option.bind (ix by_ x7) fun x6 =>
    Option.bind (rem (w64 x6) (w64 ((w64 (x5.Hi - x5.Lo)) + 1))) fun q =>
    law03_Inside_j5 all3 x7 l5 (w64 (x5.Lo + q))
   else
    law03_Inside_j5 all3 x7 l5 x5.Lo
  else
   ((law03_Inside_j1 l all3 l5).map Sum.inr)
def law03_Inside (l : api_Load) (by_ : (List Int)) : Option ((List Int) × Bool) :=
 Lp (law03_Inside_b4 l by_) fuel (0, 0, [])
def hull_fits_j1 (l : api_Load) (x : (List Int)) : Option Bool :=
 Option.bind (hull_sum x) fun y =>
 some (hull_within y l.All.Lo l.All.Hi)
def hull_fits_b2 (l : api_Load) (x : (List Int)) : Int → Option (Int ⊕ Bool)
 | x4 =>
  if decide (x4 < (x.length : Int)) then
   Option.bind (ix x x4) fun x1 =>
   Option.bind (ix l.Holds x4) fun x2 =>
   Option.bind (ix l.Holds x4) fun x3 =>
   if !(hull_within x1 x2.Lo x3.Hi) then
    some (.inr false)
   else
    some (.inl (w64 (x4 + 1)))
  else
   ((hull_fits_j1 l x).map Sum.inr)
def hull_fits (l : api_Load) (x : (List Int)) : Option Bool :=
 if !decide ((x.length : Int) = (l.Holds.length : Int)) then
  some false
 else
  Lp (hull_fits_b2 l x) fuel 0
def hull_Fits (s : api_Ship) (l : api_Load) (x : (List Int)) : Option Bool :=
 Option.bind (hull_CheckLoad s l) fun y =>
 gb ((decide (y = 0))) (hull_fits l x) fun y1 =>
 some ((decide (y = 0)) && y1)
def hull_loaded_j1 : Option Int :=
 some 0
def hull_loaded_j3 (x4 : Int) : Option (Int ⊕ Int) :=
 some (.inl (w64 (x4 + 1)))
def hull_loaded_b4 (s : api_Ship) (x4 : Int) (x : (List Int)) : Int → Option (Int ⊕ (Int ⊕ Int))
 | x3 =>
  if decide (x3 < (x.length : Int)) then
   Option.bind (ix x x3) fun x1 =>
   Option.bind (ix s.Holds x3) fun x2 =>
   if !(hull_within x1 0 x2.Room) then
    some (.inr (.inr 1))
   else
    some (.inl (w64 (x3 + 1)))
  else
   ((hull_loaded_j3 x4).map Sum.inr)
def hull_loaded_b2 (s : api_Ship) (l : (List (List Int))) : Int → Option (Int ⊕ Int)
 | x4 =>
  if decide (x4 < (l.length : Int)) then
   Option.bind (ix l x4) fun x =>
   if !decide ((x.length : Int) = (s.Holds.length : Int)) then
    some (.inr 1)
   else
    Lp (hull_loaded_b4 s x4 x) fuel 0
  else
   ((hull_loaded_j1).map Sum.inr)
def hull_loaded (s : api_Ship) (l : (List (List Int))) : Option Int :=
 Option.bind (hull_Check s) fun y =>
 if !decide (y = 0) then
  some y
 else
  Lp (hull_loaded_b2 s l) fuel 0
def hull_Displacement (s : api_Ship) (x : (List Int)) : Option (Int × Int) :=
 Option.bind (hull_loaded s ([x])) fun y =>
 if !decide (y = 0) then
  some (0, y)
 else
  Option.bind (hull_sum x) fun y1 =>
  some (w64 (s.Light + y1), 0)
structure api_Draughts where
 Fore : api_Span
 Aft : api_Span
 deriving DecidableEq, Inhabited
def hull_levers_j1 (l : (List Int)) : Option (List Int) :=
 some l
def hull_levers_b2 (s : api_Ship) : (Int × (List Int)) → Option ((Int × (List Int)) ⊕ (List Int))
 | (x1, l2) =>
  if decide (x1 < (s.Holds.length : Int)) then
   Option.bind (ix s.Holds x1) fun x =>
   Option.bind (app l2 ([x.Lever])) fun l1 =>
   some (.inl (w64 (x1 + 1), l1))
  else
   ((hull_levers_j1 l2).map Sum.inr)
def hull_levers (s : api_Ship) : Option (List Int) :=
 Lp (hull_levers_b2 s) fuel (0, [])
def hull_moment (s : api_Ship) (x : (List Int)) : Option Int :=
 Option.bind (hull_levers s) fun y =>
 Option.bind (hull_value y x) fun y1 =>
 some (w64 ((w64 (s.Light * s.Lever)) + y1))
def hull_below (a : Int) (b : Int) : Option Int :=
 Option.bind (rem a b) fun q =>
 Option.bind (rem (w64 (q + b)) b) fun q1 =>
 Option.bind (quo (w64 (a - q1)) b) fun q2 =>
 some q2
def hull_afloat_1 (sign : Int) (c : Int) (c1 : api_Ship) (c2 : (List Int)) (c3 : Int) : Option api_Span :=
 Option.bind (hull_moment c1 c2) fun y =>
 Option.bind (hull_below (w64 ((w64 ((w64 (c * 2)) * c1.Turn)) + (w64 ((w64 (sign * y)) * c3)))) (w64 ((w64 (c3 * 2)) * c1.Turn))) fun y1 =>
 Option.bind (hull_below (w64 (0 - (w64 ((w64 ((w64 (c * 2)) * c1.Turn)) + (w64 ((w64 (sign * y)) * c3)))))) (w64 ((w64 (c3 * 2)) * c1.Turn))) fun y2 =>
 some (⟨w64 (y1 - c1.Mean.Err), w64 ((w64 (0 - y2)) + c1.Mean.Err)⟩ : api_Span)
def hull_afloat (s : api_Ship) (x : (List Int)) : Option api_Draughts :=
 Option.bind (hull_sum x) fun y =>
 Option.bind (hull_table_at (⟨s.Mean⟩ : hull_table) (w64 (s.Light + y))) fun y1 =>
 Option.bind (hull_afloat_1 1 y1.1 s x y1.2) fun y2 =>
 Option.bind (hull_afloat_1 (-1) y1.1 s x y1.2) fun y3 =>
 some (⟨y2, y3⟩ : api_Draughts)
def hull_Afloat (s : api_Ship) (x : (List Int)) : Option (api_Draughts × Int) :=
 Option.bind (hull_loaded s ([x])) fun y =>
 if !decide (y = 0) then
  some ((⟨(⟨0, 0⟩ : api_Span), (⟨0, 0⟩ : api_Span)⟩ : api_Draughts), y)
 else
  Option.bind (hull_afloat s x) fun y1 =>
  some (y1, 0)
def hull_Narrow_j1 (y2 : api_Span) (l1 : (List api_Span)) : Option (api_Load × Int) :=
 some ((⟨l1, y2⟩ : api_Load), 0)
def hull_Narrow_b2 (l : api_Load) (y1 : api_Span) (y2 : api_Span) : (Int × (List api_Span)) → Option ((Int × (List api_Span)) ⊕ (api_Load × Int))
 | (x1, l3) =>
  if decide (x1 < (l.Holds.length : Int)) then
   Option.bind (ix l.Holds x1) fun x =>
   Option.bind (app l3 ([(⟨(hull_greater_int x.Lo (w64 (l.All.Lo - (w64 (y1.Hi - x.Hi))))), min x.Hi (w64 (l.All.Hi - (w64 (y1.Lo - x.Lo))))⟩ : api_Span)])) fun l2 =>
   some (.inl (w64 (x1 + 1), l2))
  else
   ((hull_Narrow_j1 y2 l3).map Sum.inr)
def hull_Narrow (s : api_Ship) (l : api_Load) : Option (api_Load × Int) :=
 Option.bind (hull_CheckLoad s l) fun y =>
 if !decide (y = 0) then
  some ((⟨[], (⟨0, 0⟩ : api_Span)⟩ : api_Load), y)
 else
  Option.bind (hull_sums l.Holds) fun y1 =>
  Option.bind (hull_totals l) fun y2 =>
  Lp (hull_Narrow_b2 l y1 y2) fuel (0, [])
structure api_Range where
 Lo : api_Frac
 Hi : api_Frac
 deriving DecidableEq, Inhabited
def curve_plus (f : api_Frac) (n : Int) : api_Frac :=
 (⟨w64 (f.Num + (w64 (n * f.Den))), f.Den⟩ : api_Frac)
def curve_Values (c : api_Curve) (x : Int) : Option (api_Range × Int) :=
 Option.bind (curve_Value c x) fun y =>
 if !decide (y.2 = 0) then
  some ((⟨(⟨0, 0⟩ : api_Frac), (⟨0, 0⟩ : api_Frac)⟩ : api_Range), y.2)
 else
  some ((⟨(curve_plus y.1 (w64 (0 - c.Err))), (curve_plus y.1 c.Err)⟩ : api_Range), 0)
def top_rounds (a : api_Draughts) (r_ : api_Range) : Bool :=
 ((((decide ((w64 ((w64 (a.Fore.Lo + a.Aft.Lo)) * r_.Lo.Den)) ≤ (w64 (2 * r_.Lo.Num)))) && (decide ((w64 (2 * r_.Lo.Num)) < (w64 ((w64 ((w64 (a.Fore.Lo + a.Aft.Lo)) + 2)) * r_.Lo.Den))))) && (decide ((w64 (2 * r_.Hi.Num)) ≤ (w64 ((w64 (a.Fore.Hi + a.Aft.Hi)) * r_.Hi.Den))))) && (decide ((w64 ((w64 ((w64 (a.Fore.Hi + a.Aft.Hi)) - 2)) * r_.Hi.Den)) < (w64 (2 * r_.Hi.Num)))))
def top_scores (s : api_Ship) (n : api_Load) : Option api_Span :=
 Option.bind (quo (w64 (s.Light + n.All.Lo)) 40) fun q =>
 Option.bind (quo (w64 ((w64 ((w64 (s.Light + n.All.Hi)) + 40)) - 1)) 40) fun q1 =>
 some (⟨q, q1⟩ : api_Span)
def curve_checked_j1 : Option Int :=
 some 0
def curve_checked_b2 (l : (List api_Curve)) : Int → Option (Int ⊕ Int)
 | x1 =>
  if decide (x1 < (l.length : Int)) then
   Option.bind (ix l x1) fun x =>
   Option.bind (curve_Check x) fun y =>
   if !decide (y = 0) then
    some (.inr y)
   else
    some (.inl (w64 (x1 + 1)))
  else
   ((curve_checked_j1).map Sum.inr)
def curve_checked (l : (List api_Curve)) : Option Int :=
 Lp (curve_checked_b2 l) fuel 0
def curve_shared_j1 (Lo : Int) (Hi : Int) : Option api_Span :=
 some (⟨Lo, Hi⟩ : api_Span)
def curve_shared_b2 (l : (List api_Curve)) : (Int × Int × Int) → Option ((Int × Int × Int) ⊕ api_Span)
 | (x1, Lo1, Hi1) =>
  if decide (x1 < (l.length : Int)) then
   Option.bind (ix l x1) fun x =>
   Option.bind (curve_domain x) fun y =>
   some (.inl (w64 (x1 + 1), max Lo1 y.Lo, min Hi1 y.Hi))
  else
   ((curve_shared_j1 Lo1 Hi1).map Sum.inr)
def curve_shared (l : (List api_Curve)) : Option api_Span :=
 Lp (curve_shared_b2 l) fuel (0, 0, 2000)
def curve_spanned (s : api_Span) (l : (List api_Curve)) : Option Int :=
 Option.bind (curve_checked l) fun y =>
 if !decide (y = 0) then
  some y
 else
  if decide (s.Hi < s.Lo) then
   some 1
  else
   Option.bind (curve_shared l) fun y1 =>
   if ((decide (s.Lo < y1.Lo)) || (decide (y1.Hi < s.Hi))) then
    some 3
   else
    some 0
structure api_Peak where
 Lo : api_Frac
 Hi : api_Frac
 AtLo : Int
 AtHi : Int
 deriving DecidableEq, Inhabited
def curve_corners_j2 (x : (List Int)) : Option (List Int) :=
 some x
def curve_corners_j3 (l2 : (List Int)) : Option (List Int) :=
 curve_corners_j2 l2
def curve_corners_j5 (k : Int) (l3 : (List Int)) : Option (Int ⊕ (List Int)) :=
 Option.bind (sub l3 k (l3.length : Int)) fun l4 =>
 Option.bind (clrE l3 k 0) fun l5 =>
 Option.bind (sub l5 0 k) fun l6 =>
 ((curve_corners_j2 l6).map Sum.inr)
def curve_corners_j7 (k21 : Int) (k1 : Int) (l7 : (List Int)) : Option ((Int × Int × (List Int)) ⊕ (Int ⊕ (List Int))) :=
 some (.inl (k1, w64 (k21 + 1), l7))
def curve_corners_b6 (a : Int) : (Int × Int × (List Int)) → Option ((Int × Int × (List Int)) ⊕ (Int ⊕ (List Int)))
 | (k2, k21, l8) =>
  if decide (k21 < ((List.drop (Int.toNat a) l8).length : Int)) then
   Option.bind (ix (List.drop (Int.toNat a) l8) k21) fun x3 =>
   Option.bind (ix (List.drop (Int.toNat a) l8) (w64 (k21 - 1))) fun x4 =>
   if !decide (x3 = x4) then
    Option.bind (ix (List.drop (Int.toNat a) l8) k21) fun x5 =>
    Option.bind (ix l8 k2) fun x6 =>
    curve_corners_j7 k21 (w64 (k2 + 1)) (put l8 k2 x5)
   else
    curve_corners_j7 k21 k2 l8
  else
   ((curve_corners_j5 k2 l8).map Sum.inr)
def curve_corners_b4 (l2 : (List Int)) : Int → Option (Int ⊕ (List Int))
 | k3 =>
  if decide (k3 < (l2.length : Int)) then
   Option.bind (ix l2 k3) fun x1 =>
   Option.bind (ix l2 (w64 (k3 - 1))) fun x2 =>
   if decide (x1 = x2) then
    Option.bind (qsl l2 0 k3) fun a =>
    Lp (curve_corners_b6 a) fuel (k3, 1, l2)
   else
    some (.inl (w64 (k3 + 1)))
  else
   ((curve_corners_j3 l2).map Sum.inr)
def curve_corners_j1 (l1 : (List Int)) : Option (List Int) :=
 Option.bind (srtO l1) fun l2 =>
 if decide ((l2.length : Int) < 2) then
  curve_corners_j2 l2
 else
  Lp (curve_corners_b4 l2) fuel 1
def curve_corners_j9 (x10 : Int) (l9 : (List Int)) : Option ((Int × (List Int)) ⊕ (List Int)) :=
 some (.inl (w64 (x10 + 1), l9))
def curve_corners_j11 (x9 : Int) (l10 : (List Int)) : Option ((Int × (List Int)) ⊕ ((Int × (List Int)) ⊕ (List Int))) :=
 some (.inl (w64 (x9 + 1), l10))
def curve_corners_b10 (s : api_Span) (x10 : Int) (x7 : api_Curve) : (Int × (List Int)) → Option ((Int × (List Int)) ⊕ ((Int × (List Int)) ⊕ (List Int)))
 | (x9, l12) =>
  if decide (x9 < (x7.Knots.length : Int)) then
   Option.bind (ix x7.Knots x9) fun x8 =>
   if (curve_within x8.X s.Lo s.Hi) then
    Option.bind (app l12 ([x8.X])) fun l11 =>
    curve_corners_j11 x9 l11
   else
    curve_corners_j11 x9 l12
  else
   ((curve_corners_j9 x10 l12).map Sum.inr)
def curve_corners_b8 (s : api_Span) (l : (List api_Curve)) : (Int × (List Int)) → Option ((Int × (List Int)) ⊕ (List Int))
 | (x10, l13) =>
  if decide (x10 < (l.length : Int)) then
   Option.bind (ix l x10) fun x7 =>
   Lp (curve_corners_b10 s x10 x7) fuel (0, l13)
  else
   ((curve_corners_j1 l13).map Sum.inr)
def curve_corners (s : api_Span) (l : (List api_Curve)) : Option (List Int) :=
 Lp (curve_corners_b8 s l) fuel (0, [s.Lo, s.Hi])
def curve_Over_1 (x : Int) (c : api_Curve) : Option api_Frac :=
 Option.bind (curve_value c x) fun y =>
 some y
structure curve_spot where
 at_ : Int
 v : api_Frac
 deriving DecidableEq, Inhabited
def curve_order (a : api_Frac) (b : api_Frac) : Int :=
 (cmp_Compare_int (w64 (a.Num * b.Den)) (w64 (b.Num * a.Den)))
def curve_peak_1 (a : curve_spot) (b : curve_spot) : Bool :=
 decide ((curve_order a.v b.v) < 0)
def curve_extreme_curve_spot__curve_peak_1_j1 (at_ : Int) (at_1 : Int) (Num : Int) (Den : Int) : Option (curve_spot × Int) :=
 some ((⟨at_1, (⟨Num, Den⟩ : api_Frac)⟩ : curve_spot), at_)
def curve_extreme_curve_spot__curve_peak_1_j3 (x1 : Int) (at_2 : Int) (at_3 : Int) (Num1 : Int) (Den1 : Int) : Option ((Int × Int × Int × Int × Int) ⊕ (curve_spot × Int)) :=
 some (.inl (at_2, w64 (x1 + 1), at_3, Num1, Den1))
def curve_extreme_curve_spot__curve_peak_1_b2 (l : (List curve_spot)) : (Int × Int × Int × Int × Int) → Option ((Int × Int × Int × Int × Int) ⊕ (curve_spot × Int))
 | (at_4, x1, at_5, Num2, Den2) =>
  if decide (x1 < (l.length : Int)) then
   Option.bind (ix l x1) fun x =>
   if ((decide (at_4 < 0)) || (curve_peak_1 x (⟨at_5, (⟨Num2, Den2⟩ : api_Frac)⟩ : curve_spot))) then
    curve_extreme_curve_spot__curve_peak_1_j3 x1 x1 x.at_ x.v.Num x.v.Den
   else
    curve_extreme_curve_spot__curve_peak_1_j3 x1 at_4 at_5 Num2 Den2
  else
   ((curve_extreme_curve_spot__curve_peak_1_j1 at_4 at_5 Num2 Den2).map Sum.inr)
def curve_extreme_curve_spot__curve_peak_1 (l : (List curve_spot)) : Option (curve_spot × Int) :=
 Lp (curve_extreme_curve_spot__curve_peak_1_b2 l) fuel ((-1), 0, 0, 0, 0)
def curve_peak_2 (a : curve_spot) (b : curve_spot) : Bool :=
 decide (0 < (curve_order a.v b.v))
def curve_extreme_curve_spot__curve_peak_2_j1 (at_ : Int) (at_1 : Int) (Num : Int) (Den : Int) : Option (curve_spot × Int) :=
 some ((⟨at_1, (⟨Num, Den⟩ : api_Frac)⟩ : curve_spot), at_)
def curve_extreme_curve_spot__curve_peak_2_j3 (x1 : Int) (at_2 : Int) (at_3 : Int) (Num1 : Int) (Den1 : Int) : Option ((Int × Int × Int × Int × Int) ⊕ (curve_spot × Int)) :=
 some (.inl (at_2, w64 (x1 + 1), at_3, Num1, Den1))
def curve_extreme_curve_spot__curve_peak_2_b2 (l : (List curve_spot)) : (Int × Int × Int × Int × Int) → Option ((Int × Int × Int × Int × Int) ⊕ (curve_spot × Int))
 | (at_4, x1, at_5, Num2, Den2) =>
  if decide (x1 < (l.length : Int)) then
   Option.bind (ix l x1) fun x =>
   if ((decide (at_4 < 0)) || (curve_peak_2 x (⟨at_5, (⟨Num2, Den2⟩ : api_Frac)⟩ : curve_spot))) then
    curve_extreme_curve_spot__curve_peak_2_j3 x1 x1 x.at_ x.v.Num x.v.Den
   else
    curve_extreme_curve_spot__curve_peak_2_j3 x1 at_4 at_5 Num2 Den2
  else
   ((curve_extreme_curve_spot__curve_peak_2_j1 at_4 at_5 Num2 Den2).map Sum.inr)
def curve_extreme_curve_spot__curve_peak_2 (l : (List curve_spot)) : Option (curve_spot × Int) :=
 Lp (curve_extreme_curve_spot__curve_peak_2_b2 l) fuel ((-1), 0, 0, 0, 0)
def curve_peak (l : (List curve_spot)) : Option api_Peak :=
 Option.bind (curve_extreme_curve_spot__curve_peak_1 l) fun y =>
 Option.bind (curve_extreme_curve_spot__curve_peak_2 l) fun y1 =>
 some (⟨y.1.v, y1.1.v, y.1.at_, y1.1.at_⟩ : api_Peak)
def curve_over__curve_Over_1_j1 (l : (List curve_spot)) : Option api_Peak :=
 Option.bind (curve_peak l) fun y =>
 some y
def curve_over__curve_Over_1_b2 (at_ : (List Int)) (c : api_Curve) : (Int × (List curve_spot)) → Option ((Int × (List curve_spot)) ⊕ api_Peak)
 | (x1, l2) =>
  if decide (x1 < (at_.length : Int)) then
   Option.bind (ix at_ x1) fun x =>
   Option.bind (curve_Over_1 x c) fun y1 =>
   Option.bind (app l2 ([(⟨x, y1⟩ : curve_spot)])) fun l1 =>
   some (.inl (w64 (x1 + 1), l1))
  else
   ((curve_over__curve_Over_1_j1 l2).map Sum.inr)
def curve_over__curve_Over_1 (at_ : (List Int)) (c : api_Curve) : Option api_Peak :=
 Lp (curve_over__curve_Over_1_b2 at_ c) fuel (0, [])
def curve_Over (c : api_Curve) (s : api_Span) : Option (api_Peak × Int) :=
 Option.bind (curve_spanned s ([c])) fun y =>
 if !decide (y = 0) then
  some ((⟨(⟨0, 0⟩ : api_Frac), (⟨0, 0⟩ : api_Frac), 0, 0⟩ : api_Peak), y)
 else
  Option.bind (curve_corners s ([c])) fun y1 =>
  Option.bind (curve_over__curve_Over_1 y1 c) fun y2 =>
  some (y2, 0)
def hull_asked_1 (w : Int) : Bool :=
 !(hull_within w (-1048576) 1048576)
def slices_IndexFunc_int__hull_asked_1_j1 : Option Int :=
 some (-1)
def slices_IndexFunc_int__hull_asked_1_b2 (s : (List Int)) : Int → Option (Int ⊕ Int)
 | x1 =>
  if decide (x1 < (s.length : Int)) then
   Option.bind (ix s x1) fun x =>
   if (hull_asked_1 x) then
    some (.inr x1)
   else
    some (.inl (w64 (x1 + 1)))
  else
   ((slices_IndexFunc_int__hull_asked_1_j1).map Sum.inr)
def slices_IndexFunc_int__hull_asked_1 (s : (List Int)) : Option Int :=
 Lp (slices_IndexFunc_int__hull_asked_1_b2 s) fuel 0
def slices_ContainsFunc_int__hull_asked_1 (s : (List Int)) : Option Bool :=
 Option.bind (slices_IndexFunc_int__hull_asked_1 s) fun y =>
 some (decide (0 ≤ y))
def hull_asked (s : api_Ship) (l : api_Load) (form : (List Int)) : Option Int :=
 Option.bind (hull_CheckLoad s l) fun y =>
 if !decide (y = 0) then
  some y
 else
  gb (!(!decide ((form.length : Int) = (s.Holds.length : Int)))) (slices_ContainsFunc_int__hull_asked_1 form) fun y1 =>
  if ((!decide ((form.length : Int) = (s.Holds.length : Int))) || y1) then
   some 1
  else
   some 0
structure api_Price where
 Value : Int
 Loading : (List Int)
 Price : Int
 deriving DecidableEq, Inhabited
def hull_bound_j1 (n : Int) : Option Int :=
 some n
def hull_bound_b2 (l : api_Load) (form : (List Int)) (price : Int) : (Int × Int) → Option ((Int × Int) ⊕ Int)
 | (n1, x3) =>
  if decide (x3 < (form.length : Int)) then
   Option.bind (ix form x3) fun x =>
   Option.bind (ix l.Holds x3) fun x1 =>
   Option.bind (ix l.Holds x3) fun x2 =>
   some (.inl (w64 (n1 + (hull_greater_int (w64 ((w64 (x - price)) * x1.Lo)) (w64 ((w64 (x - price)) * x2.Hi)))), w64 (x3 + 1)))
  else
   ((hull_bound_j1 n1).map Sum.inr)
def hull_bound (l : api_Load) (form : (List Int)) (price : Int) (t : api_Span) : Option Int :=
 Lp (hull_bound_b2 l form price) fuel ((hull_greater_int (w64 (price * t.Lo)) (w64 (price * t.Hi))), 0)
def hull_priced_j1 (p : Int) : Option Int :=
 some p
def hull_priced_j3 (x1 : Int) (p1 : Int) : Option ((Int × Int) ⊕ Int) :=
 some (.inl (p1, w64 (x1 + 1)))
def hull_priced_b2 (l : api_Load) (form : (List Int)) (t : api_Span) : (Int × Int) → Option ((Int × Int) ⊕ Int)
 | (p2, x1) =>
  if decide (x1 < (form.length : Int)) then
   Option.bind (ix form x1) fun x =>
   Option.bind (hull_bound l form x t) fun y =>
   Option.bind (hull_bound l form p2 t) fun y1 =>
   if decide (y < y1) then
    hull_priced_j3 x1 x
   else
    hull_priced_j3 x1 p2
  else
   ((hull_priced_j1 p2).map Sum.inr)
def hull_priced (l : api_Load) (form : (List Int)) (t : api_Span) : Option Int :=
 Lp (hull_priced_b2 l form t) fuel (0, 0)
def hull_Most_j1 (l : api_Load) (form : (List Int)) (up : Int) : Option (api_Price × Int) :=
 Option.bind (hull_totals l) fun y2 =>
 Option.bind (hull_best l form (min up y2.Hi)) fun y3 =>
 Option.bind (hull_value form y3) fun y4 =>
 Option.bind (hull_priced l form l.All) fun y5 =>
 some ((⟨y4, y3, y5⟩ : api_Price), 0)
def hull_Most_j3 (x3 : Int) (up1 : Int) : Option ((Int × Int) ⊕ (api_Price × Int)) :=
 some (.inl (up1, w64 (x3 + 1)))
def hull_Most_b2 (l : api_Load) (form : (List Int)) : (Int × Int) → Option ((Int × Int) ⊕ (api_Price × Int))
 | (up2, x3) =>
  if decide (x3 < (form.length : Int)) then
   Option.bind (ix form x3) fun x =>
   if decide (0 < x) then
    Option.bind (ix l.Holds x3) fun x1 =>
    Option.bind (hull_totals l) fun y6 =>
    Option.bind (hull_best l form y6.Lo) fun y7 =>
    Option.bind (ix y7 x3) fun x2 =>
    hull_Most_j3 x3 (w64 (up2 + (w64 (x1.Hi - x2))))
   else
    hull_Most_j3 x3 up2
  else
   ((hull_Most_j1 l form up2).map Sum.inr)
def hull_Most (s : api_Ship) (l : api_Load) (form : (List Int)) : Option (api_Price × Int) :=
 Option.bind (hull_asked s l form) fun y =>
 if !decide (y = 0) then
  some ((⟨0, [], 0⟩ : api_Price), y)
 else
  Option.bind (hull_totals l) fun y1 =>
  Lp (hull_Most_b2 l form) fuel (y1.Lo, 0)
def top_surely_j1 (s : api_Ship) (l : api_Load) (n : api_Load) (low : api_Frac) (l1 : (List Int)) : Option Bool :=
 Option.bind (hull_Most s l l1) fun y =>
 some ((decide (y.2 = 0)) && (decide ((w64 ((w64 ((w64 (s.Light * s.Height)) + y.1.Value)) * low.Den)) ≤ (w64 ((w64 (low.Num - (w64 ((w64 (s.Mtac.Err + s.Least)) * low.Den)))) * (w64 (s.Light + n.All.Lo)))))))
def top_surely_b2 (s : api_Ship) (l : api_Load) (n : api_Load) (low : api_Frac) : (Int × (List Int)) → Option ((Int × (List Int)) ⊕ Bool)
 | (x1, l3) =>
  if decide (x1 < (s.Holds.length : Int)) then
   Option.bind (ix s.Holds x1) fun x =>
   Option.bind (app l3 ([x.Height])) fun l2 =>
   some (.inl (w64 (x1 + 1), l2))
  else
   ((top_surely_j1 s l n low l3).map Sum.inr)
def top_surely (s : api_Ship) (l : api_Load) (n : api_Load) (low : api_Frac) : Option Bool :=
 Lp (top_surely_b2 s l n low) fuel (0, [])
def hull_Gravity (s : api_Ship) (x : (List Int)) : Option (api_Frac × Int) :=
 Option.bind (hull_loaded s ([x])) fun y =>
 if !decide (y = 0) then
  some ((⟨0, 0⟩ : api_Frac), y)
 else
  Option.bind (hull_rise s x) fun y1 =>
  Option.bind (hull_sum x) fun y2 =>
  Option.bind (hull_low y1 (w64 (s.Light + y2))) fun y3 =>
  some (y3, 0)
def top_TopShipsAreTheirTables_j1 (s : api_Ship) (l : api_Load) (y2 : (List Int) × Bool) (y5 : api_Frac × Int) (y7 : api_Load × Int) : Option Bool :=
 Option.bind (top_scores s y7.1) fun y8 =>
 Option.bind (curve_Over s.Mtac y8) fun y9 =>
 if (((!decide (y9.2 = 0)) || (decide ((w64 (y5.1.Num * y9.1.Lo.Den)) < (w64 (y9.1.Lo.Num * y5.1.Den))))) || (decide ((w64 (y9.1.Hi.Num * y5.1.Den)) < (w64 (y5.1.Num * y9.1.Hi.Den))))) then
  some false
 else
  Option.bind (hull_Steady s l) fun y10 =>
  gb (!(!decide (y10.2.2 = 0)) && (!y10.2.1)) (top_surely s l y7.1 y9.1.Lo) fun y11 =>
  if ((!decide (y10.2.2 = 0)) || ((!y10.2.1) && y11)) then
   some false
  else
   Option.bind (hull_Gravity s y2.1) fun y12 =>
   Option.bind (top_floating) fun y13 =>
   some ((y13 && (decide (y12.2 = 0))) && ((!y10.2.1) || (decide ((w64 (y12.1.Num * y9.1.Hi.Den)) ≤ (w64 ((w64 (y9.1.Hi.Num - (w64 ((w64 (s.Mtac.Err + s.Least)) * y9.1.Hi.Den)))) * y12.1.Den))))))
def top_TopShipsAreTheirTables (s : api_Ship) (l : api_Load) (by_ : (List Int)) : Option Bool :=
 gb (!(!(top_slight s l))) (hull_CheckLoad s l) fun y =>
 if ((!(top_slight s l)) || (!decide (y = 0))) then
  Option.bind (top_floating) fun y1 =>
  some y1
 else
  Option.bind (law03_Inside l by_) fun y2 =>
  gb (!(!y2.2)) (hull_Fits s l y2.1) fun y3 =>
  if ((!y2.2) || (!y3)) then
   some false
  else
   Option.bind (hull_Displacement s y2.1) fun y4 =>
   Option.bind (hull_Meta s y4.1) fun y5 =>
   Option.bind (hull_Afloat s y2.1) fun y6 =>
   Option.bind (hull_Narrow s l) fun y7 =>
   if ((((!decide (y4.2 = 0)) || (!decide (y5.2 = 0))) || (!decide (y6.2 = 0))) || (!decide (y7.2 = 0))) then
    some false
   else
    Option.bind (rem y4.1 40) fun q =>
    if decide (q = 0) then
     Option.bind (quo y4.1 40) fun q1 =>
     Option.bind (curve_Value s.Mtac q1) fun y14 =>
     Option.bind (quo y4.1 40) fun q2 =>
     Option.bind (curve_Values s.Mean q2) fun y15 =>
     if ((((!decide (y14.2 = 0)) || (!decide (y15.2 = 0))) || (!decide (y14.1 = y5.1))) || (!(top_rounds y6.1 y15.1))) then
      some false
     else
      top_TopShipsAreTheirTables_j1 s l y2 y5 y7
    else
     top_TopShipsAreTheirTables_j1 s l y2 y5 y7
end Go.Mx
