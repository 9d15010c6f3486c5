/- Functions of the program as plain functions. Conditions: none. Printed by a program (wip/tools/xg.py). -/
import Derived.Test.YthfnbjoecocfaaaXl
set_option linter.unusedVariables false
namespace Go.Mx

structure api_Hold where
  ID : Int
  Room : Int
  Lever : Int
  Height : Int
  deriving DecidableEq, Inhabited

structure api_Knot where
  X : Int
  Y : Int
  deriving DecidableEq, Inhabited

structure api_Curve where
  Knots : (List api_Knot)
  Err : Int
  deriving DecidableEq, Inhabited

structure api_Ship where
  ID : Int
  Light : Int
  Lever : Int
  Height : Int
  Holds : (List api_Hold)
  Mean : api_Curve
  Mtac : api_Curve
  Turn : Int
  Least : Int
  deriving DecidableEq, Inhabited

structure api_Span where
  Lo : Int
  Hi : Int
  deriving DecidableEq, Inhabited

structure api_Load where
  Holds : (List api_Span)
  All : api_Span
  deriving DecidableEq, Inhabited

def law03_short (s : api_Ship) (l : api_Load) : Bool :=
  (((((decide ((s.Holds.length : Int) ≤ 12)) && (decide ((s.Mean.Knots.length : Int) ≤ 60))) && (decide ((s.Mtac.Knots.length : Int) ≤ 60))) && (decide ((l.Holds.length : Int) ≤ 20))) && (((decide ((w64 (l.All.Hi - l.All.Lo)) ≤ 300)) || (decide (4000 ≤ (w64 (l.All.Hi - l.All.Lo))))) || (decide ((w64 (l.All.Hi - l.All.Lo)) < 0))))

def law03_Ship : api_Ship :=
  (⟨1, 400, 0, 100, [(⟨1, 400, 50, 60⟩ : api_Hold), (⟨2, 400, (-50), 150⟩ : api_Hold)], (⟨[(⟨10, 100⟩ : api_Knot), (⟨30, 500⟩ : api_Knot)], 0⟩ : api_Curve), (⟨[(⟨10, 160⟩ : api_Knot), (⟨30, 140⟩ : api_Knot)], 0⟩ : api_Curve), 10, 30⟩ : api_Ship)

def hull_within (n : Int) (lo : Int) (hi : Int) : Bool :=
  ((decide (lo ≤ n)) && (decide (n ≤ hi)))

def hull_placed (lever : Int) (height : Int) : Bool :=
  ((hull_within lever (-20000) 20000) && (hull_within height 0 5000))

def hull_Check_1 (x : api_Hold) (c : api_Hold) : Bool :=
  decide (x.ID = c.ID)

def slices_IndexFunc_api_Hold__hull_Check_1_j1 : Option Int :=
  some (-1)

def slices_IndexFunc_api_Hold__hull_Check_1_b2 (s : (List api_Hold)) (c : api_Hold) : Int → Option (Int ⊕ Int)
  | x1 =>
    if decide (x1 < (s.length : Int)) then
      Option.bind (ix s x1) fun x =>
      if (hull_Check_1 x c) then
        some (.inr x1)
      else
        some (.inl (w64 (x1 + 1)))
    else
      ((slices_IndexFunc_api_Hold__hull_Check_1_j1).map Sum.inr)

def slices_IndexFunc_api_Hold__hull_Check_1 (s : (List api_Hold)) (c : api_Hold) : Option Int :=
  Lp (slices_IndexFunc_api_Hold__hull_Check_1_b2 s c) fuel 0

def slices_ContainsFunc_api_Hold__hull_Check_1 (s : (List api_Hold)) (c : api_Hold) : Option Bool :=
  Option.bind (slices_IndexFunc_api_Hold__hull_Check_1 s c) fun y =>
  some (decide (0 ≤ y))

def hull_rooms_j1 (n : Int) : Option Int :=
  some n

def hull_rooms_b2 (s : api_Ship) : (Int × Int) → Option ((Int × Int) ⊕ Int)
  | (n1, x1) =>
    if decide (x1 < (s.Holds.length : Int)) then
      Option.bind (ix s.Holds x1) fun x =>
      some (.inl (w64 (n1 + x.Room), w64 (x1 + 1)))
    else
      ((hull_rooms_j1 n1).map Sum.inr)

def hull_rooms (s : api_Ship) : Option Int :=
  Lp (hull_rooms_b2 s) fuel (s.Light, 0)

def curve_within (n : Int) (lo : Int) (hi : Int) : Bool :=
  ((decide (lo ≤ n)) && (decide (n ≤ hi)))

def curve_Check_j1 : Option Int :=
  some 0

def curve_Check_b2 (c : api_Curve) : (Int × Int) → Option ((Int × Int) ⊕ Int)
  | (last, x1) =>
    if decide (x1 < (c.Knots.length : Int)) then
      Option.bind (ix c.Knots x1) fun x =>
      if ((!(curve_within x.X (w64 (last + 1)) 2000)) || (!(curve_within x.Y (-65536) 65536))) then
        some (.inr 1)
      else
        some (.inl (x.X, w64 (x1 + 1)))
    else
      ((curve_Check_j1).map Sum.inr)

def curve_Check (c : api_Curve) : Option Int :=
  if decide (40 < (c.Knots.length : Int)) then
    some 2
  else
    if ((decide ((c.Knots.length : Int) = 0)) || (!(curve_within c.Err 0 4000))) then
      some 1
    else
      Lp (curve_Check_b2 c) fuel ((-1), 0)

def curve_pieces (c : api_Curve) : api_Curve :=
  c

structure curve_piece where
  p : api_Knot
  q : api_Knot
  deriving DecidableEq, Inhabited

def curve_piece_rise (x : curve_piece) : Int :=
  w64 (x.q.Y - x.p.Y)

def curve_rising_b1 (c : api_Curve) : (Int × Bool × Bool) → Option ((Int × Bool × Bool) ⊕ Int)
  | (i, up, down) =>
    if decide (i < (((curve_pieces c).Knots).length : Int)) then
      Option.bind (ix ((curve_pieces c).Knots) (w64 (i - 1))) fun x =>
      Option.bind (ix ((curve_pieces c).Knots) i) fun x1 =>
      some (.inl (w64 (i + 1), (up && (decide (0 < (curve_piece_rise (⟨x, x1⟩ : curve_piece))))), (down && (decide ((curve_piece_rise (⟨x, x1⟩ : curve_piece)) < 0)))))
    else
      if up then
        some (.inr 1)
      else
        if down then
          some (.inr (-1))
        else
          some (.inr 0)

def curve_rising (c : api_Curve) : Option Int :=
  Lp (curve_rising_b1 c) fuel (1, true, true)

def curve_Rising (c : api_Curve) : Option (Int × Int) :=
  Option.bind (curve_Check c) fun y =>
  if !decide (y = 0) then
    some (0, y)
  else
    Option.bind (curve_rising c) fun y1 =>
    some (y1, 0)

structure hull_table where
  Curve : api_Curve
  deriving DecidableEq, Inhabited

def hull_table_masses (t : hull_table) : Option api_Span :=
  Option.bind (ix t.Curve.Knots 0) fun x =>
  Option.bind (ix t.Curve.Knots (w64 ((t.Curve.Knots.length : Int) - 1))) fun x1 =>
  some (⟨w64 (x.X * 40), w64 (x1.X * 40)⟩ : api_Span)

def hull_tabled_1 (k : api_Knot) : Bool :=
  decide (k.Y < 0)

def slices_IndexFunc_api_Knot__hull_tabled_1_j1 : Option Int :=
  some (-1)

def slices_IndexFunc_api_Knot__hull_tabled_1_b2 (s : (List api_Knot)) : Int → Option (Int ⊕ Int)
  | x1 =>
    if decide (x1 < (s.length : Int)) then
      Option.bind (ix s x1) fun x =>
      if (hull_tabled_1 x) then
        some (.inr x1)
      else
        some (.inl (w64 (x1 + 1)))
    else
      ((slices_IndexFunc_api_Knot__hull_tabled_1_j1).map Sum.inr)

def slices_IndexFunc_api_Knot__hull_tabled_1 (s : (List api_Knot)) : Option Int :=
  Lp (slices_IndexFunc_api_Knot__hull_tabled_1_b2 s) fuel 0

def slices_ContainsFunc_api_Knot__hull_tabled_1 (s : (List api_Knot)) : Option Bool :=
  Option.bind (slices_IndexFunc_api_Knot__hull_tabled_1 s) fun y =>
  some (decide (0 ≤ y))

def hull_tabled (s : api_Ship) (c : api_Curve) : Option Int :=
  Option.bind (hull_table_masses (⟨c⟩ : hull_table)) fun y =>
  gb (!(decide (s.Light < y.Lo))) (hull_rooms s) fun y1 =>
  gb (!(((decide (s.Light < y.Lo)) || (decide (y.Hi < y1))))) (slices_ContainsFunc_api_Knot__hull_tabled_1 c.Knots) fun y2 =>
  if (((decide (s.Light < y.Lo)) || (decide (y.Hi < y1))) || y2) then
    some 1
  else
    some 0

def cmp_Or_api_Errno_j1 : Option Int :=
  some 0

def cmp_Or_api_Errno_b2 (vals : (List Int)) : Int → Option (Int ⊕ Int)
  | x1 =>
    if decide (x1 < (vals.length : Int)) then
      Option.bind (ix vals x1) fun x =>
      if !decide (x = 0) then
        some (.inr x)
      else
        some (.inl (w64 (x1 + 1)))
    else
      ((cmp_Or_api_Errno_j1).map Sum.inr)

def cmp_Or_api_Errno (vals : (List Int)) : Option Int :=
  Lp (cmp_Or_api_Errno_b2 vals) fuel 0

def hull_Check_j2 (s : api_Ship) : Option Int :=
  Option.bind (curve_Rising s.Mean) fun y1 =>
  if !decide (y1.1 = 1) then
    some 1
  else
    Option.bind (hull_tabled s s.Mean) fun y2 =>
    Option.bind (hull_tabled s s.Mtac) fun y3 =>
    Option.bind (cmp_Or_api_Errno ([y2, y3])) fun y4 =>
    some y4

def hull_Check_b3 (s : api_Ship) : Int → Option (Int ⊕ Int)
  | x1 =>
    if decide (x1 < (([s.Mean, s.Mtac]).length : Int)) then
      Option.bind (ix ([s.Mean, s.Mtac]) x1) fun x =>
      Option.bind (curve_Check x) fun y5 =>
      if !decide (y5 = 0) then
        some (.inr y5)
      else
        some (.inl (w64 (x1 + 1)))
    else
      ((hull_Check_j2 s).map Sum.inr)

def hull_Check_j1 (s : api_Ship) : Option Int :=
  Option.bind (hull_rooms s) fun y =>
  if decide (65536 < y) then
    some 1
  else
    Lp (hull_Check_b3 s) fuel 0

def hull_Check_b4 (s : api_Ship) : Int → Option (Int ⊕ Int)
  | x3 =>
    if decide (x3 < (s.Holds.length : Int)) then
      Option.bind (ix s.Holds x3) fun x2 =>
      if (((!(hull_within x2.ID 1 1099511627776)) || (!(hull_within x2.Room 0 65536))) || (!(hull_placed x2.Lever x2.Height))) then
        some (.inr 1)
      else
        Option.bind (sub s.Holds 0 x3) fun l =>
        Option.bind (slices_ContainsFunc_api_Hold__hull_Check_1 l x2) fun y6 =>
        if y6 then
          some (.inr 6)
        else
          some (.inl (w64 (x3 + 1)))
    else
      ((hull_Check_j1 s).map Sum.inr)

def hull_Check (s : api_Ship) : Option Int :=
  if (((((!(hull_within s.ID 1 1099511627776)) || (!(hull_within s.Light 1 65536))) || (!(hull_placed s.Lever s.Height))) || (!(hull_within s.Turn 1 1048576))) || (!(hull_within s.Least 0 5000))) then
    some 1
  else
    if decide (8 < (s.Holds.length : Int)) then
      some 2
    else
      Lp (hull_Check_b4 s) fuel 0

def hull_loaded_j1 : Option Int :=
  some 0

def hull_loaded_j3 (x4 : Int) : Option (Int ⊕ Int) :=
  some (.inl (w64 (x4 + 1)))

def hull_loaded_b4 (s : api_Ship) (x4 : Int) (x : (List Int)) : Int → Option (Int ⊕ (Int ⊕ Int))
  | x3 =>
    if decide (x3 < (x.length : Int)) then
      Option.bind (ix x x3) fun x1 =>
      Option.bind (ix s.Holds x3) fun x2 =>
      if !(hull_within x1 0 x2.Room) then
        some (.inr (.inr 1))
      else
        some (.inl (w64 (x3 + 1)))
    else
      ((hull_loaded_j3 x4).map Sum.inr)

def hull_loaded_b2 (s : api_Ship) (l : (List (List Int))) : Int → Option (Int ⊕ Int)
  | x4 =>
    if decide (x4 < (l.length : Int)) then
      Option.bind (ix l x4) fun x =>
      if !decide ((x.length : Int) = (s.Holds.length : Int)) then
        some (.inr 1)
      else
        Lp (hull_loaded_b4 s x4 x) fuel 0
    else
      ((hull_loaded_j1).map Sum.inr)

def hull_loaded (s : api_Ship) (l : (List (List Int))) : Option Int :=
  Option.bind (hull_Check s) fun y =>
  if !decide (y = 0) then
    some y
  else
    Lp (hull_loaded_b2 s l) fuel 0

def hull_levers_j1 (l : (List Int)) : Option (List Int) :=
  some l

def hull_levers_b2 (s : api_Ship) : (Int × (List Int)) → Option ((Int × (List Int)) ⊕ (List Int))
  | (x1, l2) =>
    if decide (x1 < (s.Holds.length : Int)) then
      Option.bind (ix s.Holds x1) fun x =>
      Option.bind (app l2 ([x.Lever])) fun l1 =>
      some (.inl (w64 (x1 + 1), l1))
    else
      ((hull_levers_j1 l2).map Sum.inr)

def hull_levers (s : api_Ship) : Option (List Int) :=
  Lp (hull_levers_b2 s) fuel (0, [])

def hull_value_j1 (n : Int) : Option Int :=
  some n

def hull_value_b2 (form : (List Int)) (x : (List Int)) : (Int × Int) → Option ((Int × Int) ⊕ Int)
  | (n1, x3) =>
    if decide (x3 < (form.length : Int)) then
      Option.bind (ix form x3) fun x1 =>
      Option.bind (ix x x3) fun x2 =>
      some (.inl (w64 (n1 + (w64 (x1 * x2))), w64 (x3 + 1)))
    else
      ((hull_value_j1 n1).map Sum.inr)

def hull_value (form : (List Int)) (x : (List Int)) : Option Int :=
  Lp (hull_value_b2 form x) fuel (0, 0)

def hull_moment (s : api_Ship) (x : (List Int)) : Option Int :=
  Option.bind (hull_levers s) fun y =>
  Option.bind (hull_value y x) fun y1 =>
  some (w64 ((w64 (s.Light * s.Lever)) + y1))

def hull_Moment (s : api_Ship) (x : (List Int)) : Option (Int × Int) :=
  Option.bind (hull_loaded s ([x])) fun y =>
  if !decide (y = 0) then
    some (0, y)
  else
    Option.bind (hull_moment s x) fun y1 =>
    some (y1, 0)

structure api_Frac where
  Num : Int
  Den : Int
  deriving DecidableEq, Inhabited

def hull_heights_j1 (l : (List Int)) : Option (List Int) :=
  some l

def hull_heights_b2 (s : api_Ship) : (Int × (List Int)) → Option ((Int × (List Int)) ⊕ (List Int))
  | (x1, l2) =>
    if decide (x1 < (s.Holds.length : Int)) then
      Option.bind (ix s.Holds x1) fun x =>
      Option.bind (app l2 ([x.Height])) fun l1 =>
      some (.inl (w64 (x1 + 1), l1))
    else
      ((hull_heights_j1 l2).map Sum.inr)

def hull_heights (s : api_Ship) : Option (List Int) :=
  Lp (hull_heights_b2 s) fuel (0, [])

def hull_rise (s : api_Ship) (x : (List Int)) : Option Int :=
  Option.bind (hull_heights s) fun y =>
  Option.bind (hull_value y x) fun y1 =>
  some (w64 ((w64 (s.Light * s.Height)) + y1))

def hull_sum_j1 (n : Int) : Option Int :=
  some n

def hull_sum_b2 (x : (List Int)) : (Int × Int) → Option ((Int × Int) ⊕ Int)
  | (n1, x2) =>
    if decide (x2 < (x.length : Int)) then
      Option.bind (ix x x2) fun x1 =>
      some (.inl (w64 (n1 + x1), w64 (x2 + 1)))
    else
      ((hull_sum_j1 n1).map Sum.inr)

def hull_sum (x : (List Int)) : Option Int :=
  Lp (hull_sum_b2 x) fuel (0, 0)

def hull_greater_int (a : Int) (b : Int) : Int :=
  if decide (a < b) then
    b
  else
    a

def hull_low_j1 (num : Int) (den : Int) (a : Int) : Option api_Frac :=
  Option.bind (quo num a) fun q =>
  Option.bind (quo den a) fun q1 =>
  some (⟨q, q1⟩ : api_Frac)

def hull_low_b2 (num : Int) (den : Int) : (Int × Int) → Option ((Int × Int) ⊕ api_Frac)
  | (a1, b) =>
    if decide (0 < b) then
      Option.bind (rem a1 b) fun q2 =>
      some (.inl (b, q2))
    else
      ((hull_low_j1 num den a1).map Sum.inr)

def hull_low (num : Int) (den : Int) : Option api_Frac :=
  Lp (hull_low_b2 num den) fuel ((hull_greater_int num (w64 (0 - num))), den)

def hull_Gravity (s : api_Ship) (x : (List Int)) : Option (api_Frac × Int) :=
  Option.bind (hull_loaded s ([x])) fun y =>
  if !decide (y = 0) then
    some ((⟨0, 0⟩ : api_Frac), y)
  else
    Option.bind (hull_rise s x) fun y1 =>
    Option.bind (hull_sum x) fun y2 =>
    Option.bind (hull_low y1 (w64 (s.Light + y2))) fun y3 =>
    some (y3, 0)

def hull_table_at_1 (k : api_Knot) (c : Int) : Bool :=
  decide (c ≤ (w64 (k.X * 40)))

def slices_IndexFunc_api_Knot__hull_table_at_1_j1 : Option Int :=
  some (-1)

def slices_IndexFunc_api_Knot__hull_table_at_1_b2 (s : (List api_Knot)) (c : Int) : Int → Option (Int ⊕ Int)
  | x1 =>
    if decide (x1 < (s.length : Int)) then
      Option.bind (ix s x1) fun x =>
      if (hull_table_at_1 x c) then
        some (.inr x1)
      else
        some (.inl (w64 (x1 + 1)))
    else
      ((slices_IndexFunc_api_Knot__hull_table_at_1_j1).map Sum.inr)

def slices_IndexFunc_api_Knot__hull_table_at_1 (s : (List api_Knot)) (c : Int) : Option Int :=
  Lp (slices_IndexFunc_api_Knot__hull_table_at_1_b2 s c) fuel 0

def hull_table_at (t : hull_table) (mass : Int) : Option (Int × Int) :=
  Option.bind (slices_IndexFunc_api_Knot__hull_table_at_1 t.Curve.Knots mass) fun y =>
  Option.bind (ix t.Curve.Knots y) fun x =>
  if decide ((w64 (x.X * 40)) = mass) then
    some (x.Y, 1)
  else
    Option.bind (ix t.Curve.Knots (w64 (y - 1))) fun x1 =>
    some (w64 ((w64 (x1.Y * (w64 ((w64 (x.X - x1.X)) * 40)))) + (w64 ((w64 (x.Y - x1.Y)) * (w64 (mass - (w64 (x1.X * 40))))))), w64 ((w64 (x.X - x1.X)) * 40))

def hull_Stiff (s : api_Ship) (x : (List Int)) : Option (api_Frac × Int) :=
  Option.bind (hull_loaded s ([x])) fun y =>
  if !decide (y = 0) then
    some ((⟨0, 0⟩ : api_Frac), y)
  else
    Option.bind (hull_sum x) fun y1 =>
    Option.bind (hull_table_at (⟨s.Mtac⟩ : hull_table) (w64 (s.Light + y1))) fun y2 =>
    Option.bind (hull_rise s x) fun y3 =>
    Option.bind (hull_low (w64 ((w64 ((w64 (y2.1 - (w64 (s.Mtac.Err * y2.2)))) * (w64 (s.Light + y1)))) - (w64 (y3 * y2.2)))) (w64 (y2.2 * (w64 (s.Light + y1))))) fun y4 =>
    some (y4, 0)

structure api_Draughts where
  Fore : api_Span
  Aft : api_Span
  deriving DecidableEq, Inhabited

def hull_below (a : Int) (b : Int) : Option Int :=
  Option.bind (rem a b) fun q =>
  Option.bind (rem (w64 (q + b)) b) fun q1 =>
  Option.bind (quo (w64 (a - q1)) b) fun q2 =>
  some q2

def hull_afloat_1 (sign : Int) (c : Int) (c1 : api_Ship) (c2 : (List Int)) (c3 : Int) : Option api_Span :=
  Option.bind (hull_moment c1 c2) fun y =>
  Option.bind (hull_below (w64 ((w64 ((w64 (c * 2)) * c1.Turn)) + (w64 ((w64 (sign * y)) * c3)))) (w64 ((w64 (c3 * 2)) * c1.Turn))) fun y1 =>
  Option.bind (hull_below (w64 (0 - (w64 ((w64 ((w64 (c * 2)) * c1.Turn)) + (w64 ((w64 (sign * y)) * c3)))))) (w64 ((w64 (c3 * 2)) * c1.Turn))) fun y2 =>
  some (⟨w64 (y1 - c1.Mean.Err), w64 ((w64 (0 - y2)) + c1.Mean.Err)⟩ : api_Span)

def hull_afloat (s : api_Ship) (x : (List Int)) : Option api_Draughts :=
  Option.bind (hull_sum x) fun y =>
  Option.bind (hull_table_at (⟨s.Mean⟩ : hull_table) (w64 (s.Light + y))) fun y1 =>
  Option.bind (hull_afloat_1 1 y1.1 s x y1.2) fun y2 =>
  Option.bind (hull_afloat_1 (-1) y1.1 s x y1.2) fun y3 =>
  some (⟨y2, y3⟩ : api_Draughts)

def hull_Afloat (s : api_Ship) (x : (List Int)) : Option (api_Draughts × Int) :=
  Option.bind (hull_loaded s ([x])) fun y =>
  if !decide (y = 0) then
    some ((⟨(⟨0, 0⟩ : api_Span), (⟨0, 0⟩ : api_Span)⟩ : api_Draughts), y)
  else
    Option.bind (hull_afloat s x) fun y1 =>
    some (y1, 0)

def law03_of (a : Int) (b : Int) (c : Int) (d : Int) (e : Int) (f : Int) : api_Load :=
  (⟨[(⟨a, b⟩ : api_Span), (⟨c, d⟩ : api_Span)], (⟨e, f⟩ : api_Span)⟩ : api_Load)

def hull_sums_j1 (Lo : Int) (Hi : Int) : Option api_Span :=
  some (⟨Lo, Hi⟩ : api_Span)

def hull_sums_b2 (l : (List api_Span)) : (Int × Int × Int) → Option ((Int × Int × Int) ⊕ api_Span)
  | (x1, Lo1, Hi1) =>
    if decide (x1 < (l.length : Int)) then
      Option.bind (ix l x1) fun x =>
      some (.inl (w64 (x1 + 1), w64 (Lo1 + x.Lo), w64 (Hi1 + x.Hi)))
    else
      ((hull_sums_j1 Lo1 Hi1).map Sum.inr)

def hull_sums (l : (List api_Span)) : Option api_Span :=
  Lp (hull_sums_b2 l) fuel (0, 0, 0)

def hull_totals (l : api_Load) : Option api_Span :=
  Option.bind (hull_sums l.Holds) fun y =>
  some (⟨(hull_greater_int y.Lo l.All.Lo), min y.Hi l.All.Hi⟩ : api_Span)

def hull_CheckLoad_j1 (l : api_Load) : Option Int :=
  Option.bind (hull_totals l) fun y1 =>
  if (((decide (l.All.Lo < 0)) || (decide (l.All.Hi < l.All.Lo))) || (decide (65536 < l.All.Hi))) then
    some 1
  else
    if decide (4000 ≤ (w64 (l.All.Hi - l.All.Lo))) then
      some 2
    else
      if decide (y1.Hi < y1.Lo) then
        some 9
      else
        some 0

def hull_CheckLoad_b2 (s : api_Ship) (l : api_Load) : Int → Option (Int ⊕ Int)
  | x2 =>
    if decide (x2 < (l.Holds.length : Int)) then
      Option.bind (ix l.Holds x2) fun x =>
      gb (!(((decide (x.Lo < 0)) || (decide (x.Hi < x.Lo))))) (ix s.Holds x2) fun x1 =>
      if (((decide (x.Lo < 0)) || (decide (x.Hi < x.Lo))) || (decide (x1.Room < x.Hi))) then
        some (.inr 1)
      else
        some (.inl (w64 (x2 + 1)))
    else
      ((hull_CheckLoad_j1 l).map Sum.inr)

def hull_CheckLoad (s : api_Ship) (l : api_Load) : Option Int :=
  Option.bind (hull_Check s) fun y =>
  if !decide (y = 0) then
    some y
  else
    if !decide ((l.Holds.length : Int) = (s.Holds.length : Int)) then
      some 1
    else
      Lp (hull_CheckLoad_b2 s l) fuel 0

def hull_asked_1 (w : Int) : Bool :=
  !(hull_within w (-1048576) 1048576)

def slices_IndexFunc_int__hull_asked_1_j1 : Option Int :=
  some (-1)

def slices_IndexFunc_int__hull_asked_1_b2 (s : (List Int)) : Int → Option (Int ⊕ Int)
  | x1 =>
    if decide (x1 < (s.length : Int)) then
      Option.bind (ix s x1) fun x =>
      if (hull_asked_1 x) then
        some (.inr x1)
      else
        some (.inl (w64 (x1 + 1)))
    else
      ((slices_IndexFunc_int__hull_asked_1_j1).map Sum.inr)

def slices_IndexFunc_int__hull_asked_1 (s : (List Int)) : Option Int :=
  Lp (slices_IndexFunc_int__hull_asked_1_b2 s) fuel 0

def slices_ContainsFunc_int__hull_asked_1 (s : (List Int)) : Option Bool :=
  Option.bind (slices_IndexFunc_int__hull_asked_1 s) fun y =>
  some (decide (0 ≤ y))

def hull_asked (s : api_Ship) (l : api_Load) (form : (List Int)) : Option Int :=
  Option.bind (hull_CheckLoad s l) fun y =>
  if !decide (y = 0) then
    some y
  else
    gb (!(!decide ((form.length : Int) = (s.Holds.length : Int)))) (slices_ContainsFunc_int__hull_asked_1 form) fun y1 =>
    if ((!decide ((form.length : Int) = (s.Holds.length : Int))) || y1) then
      some 1
    else
      some 0

structure api_Price where
  Value : Int
  Loading : (List Int)
  Price : Int
  deriving DecidableEq, Inhabited

def cmp_isNaN_int (x : Int) : Bool :=
  !decide (x = x)

def cmp_Compare_int (x : Int) (y : Int) : Int :=
  if (cmp_isNaN_int x) then
    if (cmp_isNaN_int y) then
      0
    else
      (-1)
  else
    if (cmp_isNaN_int y) then
      1
    else
      if decide (x < y) then
        (-1)
      else
        if decide (y < x) then
          1
        else
          0

def hull_best_1 (a : Int) (b : Int) (c : (List Int)) : Option Int :=
  Option.bind (ix c b) fun x =>
  Option.bind (ix c a) fun x1 =>
  some (cmp_Compare_int x x1)

def hull_best_j3 (l4 : (List Int)) : Option (List Int) :=
  some l4

def hull_best_b4 (l : api_Load) (l3 : (List Int)) : (Int × Int × (List Int)) → Option ((Int × Int × (List Int)) ⊕ (List Int))
  | (x5, left, l5) =>
    if decide (x5 < (l3.length : Int)) then
      Option.bind (ix l3 x5) fun x =>
      Option.bind (ix l.Holds x) fun x1 =>
      Option.bind (ix l.Holds x) fun x2 =>
      Option.bind (ix l5 x) fun x3 =>
      Option.bind (ix l5 x) fun x4 =>
      some (.inl (w64 (x5 + 1), w64 (left - (min left (w64 (x1.Hi - x2.Lo)))), (put l5 x (w64 (x3 + (min left (w64 (x1.Hi - x2.Lo))))))))
    else
      ((hull_best_j3 l5).map Sum.inr)

def hull_best_j2 (l : api_Load) (total : Int) (l1 : (List Int)) (l2 : (List Int)) (l3 : (List Int)) : Option (List Int) :=
  Option.bind (sameO l1 l3) fun _ =>
  Option.bind (hull_sum l2) fun y =>
  Lp (hull_best_b4 l l3) fuel (0, w64 (total - y), l2)

def hull_best_j8 (l1 : (List Int)) (blockSize : Int) : Option (Int ⊕ (List Int)) :=
  if decide ((w64 (0 + blockSize)) < (l1.length : Int)) then
    none
  else
    some (.inl (w64 (blockSize * 2)))

def hull_best_b9 (l1 : (List Int)) (blockSize : Int) : Unit → Option (Unit ⊕ (Int ⊕ (List Int)))
  | () =>
    if decide ((w64 (2 * blockSize)) ≤ (l1.length : Int)) then
      none
    else
      ((hull_best_j8 l1 blockSize).map Sum.inr)

def hull_best_b7 (l : api_Load) (total : Int) (l1 : (List Int)) (l2 : (List Int)) (l7 : (List Int)) : Int → Option (Int ⊕ (List Int))
  | blockSize =>
    if decide (blockSize < (l1.length : Int)) then
      Lp (hull_best_b9 l1 blockSize) fuel ()
    else
      ((hull_best_j2 l total l1 l2 l7).map Sum.inr)

def hull_best_j6 (l : api_Load) (total : Int) (l1 : (List Int)) (l2 : (List Int)) (l7 : (List Int)) : Option (List Int) :=
  Lp (hull_best_b7 l total l1 l2 l7) fuel 20

def hull_best_j11 (i : Int) (l8 : (List Int)) : Option ((Int × (List Int)) ⊕ (List Int)) :=
  some (.inl (w64 (i + 1), l8))

def hull_best_b12 (form : (List Int)) (a : Int) (i : Int) : (Int × (List Int)) → Option ((Int × (List Int)) ⊕ ((Int × (List Int)) ⊕ (List Int)))
  | (j, l9) =>
    gb ((decide (a < j))) (ix l9 j) fun x6 =>
    gb ((decide (a < j))) (ix l9 (w64 (j - 1))) fun x7 =>
    gb ((decide (a < j))) (hull_best_1 x6 x7 form) fun y1 =>
    if ((decide (a < j)) && (decide (y1 < 0))) then
      Option.bind (ix l9 (w64 (j - 1))) fun x8 =>
      Option.bind (ix l9 j) fun x9 =>
      Option.bind (ix l9 j) fun x10 =>
      Option.bind (ix (put l9 j x8) (w64 (j - 1))) fun x11 =>
      some (.inl (w64 (j - 1), (put (put l9 j x8) (w64 (j - 1)) x9)))
    else
      ((hull_best_j11 i l9).map Sum.inr)

def hull_best_b10 (l : api_Load) (form : (List Int)) (total : Int) (l1 : (List Int)) (l2 : (List Int)) (a : Int) (l6 : (List Int)) : (Int × (List Int)) → Option ((Int × (List Int)) ⊕ (List Int))
  | (i, l10) =>
    if decide (i < (l1.length : Int)) then
      Lp (hull_best_b12 form a i) fuel (i, l10)
    else
      Option.bind (sameO l6 l10) fun _ =>
      ((hull_best_j6 l total l1 l2 l10).map Sum.inr)

def hull_best_j5 (l : api_Load) (form : (List Int)) (total : Int) (l1 : (List Int)) (l2 : (List Int)) (a : Int) (l6 : (List Int)) : Option (List Int) :=
  Lp (hull_best_b10 l form total l1 l2 a l6) fuel (w64 (a + 1), l6)

def hull_best_j14 (b : Int) (l11 : (List Int)) : Option ((Int × Int × (List Int)) ⊕ (List Int)) :=
  some (.inl (b, w64 (b + 20), l11))

def hull_best_j16 (i1 : Int) (l12 : (List Int)) : Option ((Int × (List Int)) ⊕ ((Int × Int × (List Int)) ⊕ (List Int))) :=
  some (.inl (w64 (i1 + 1), l12))

def hull_best_b17 (form : (List Int)) (a1 : Int) (i1 : Int) : (Int × (List Int)) → Option ((Int × (List Int)) ⊕ ((Int × (List Int)) ⊕ ((Int × Int × (List Int)) ⊕ (List Int))))
  | (j1, l13) =>
    gb ((decide (a1 < j1))) (ix l13 j1) fun x12 =>
    gb ((decide (a1 < j1))) (ix l13 (w64 (j1 - 1))) fun x13 =>
    gb ((decide (a1 < j1))) (hull_best_1 x12 x13 form) fun y2 =>
    if ((decide (a1 < j1)) && (decide (y2 < 0))) then
      Option.bind (ix l13 (w64 (j1 - 1))) fun x14 =>
      Option.bind (ix l13 j1) fun x15 =>
      Option.bind (ix l13 j1) fun x16 =>
      Option.bind (ix (put l13 j1 x14) (w64 (j1 - 1))) fun x17 =>
      some (.inl (w64 (j1 - 1), (put (put l13 j1 x14) (w64 (j1 - 1)) x15)))
    else
      ((hull_best_j16 i1 l13).map Sum.inr)

def hull_best_b15 (form : (List Int)) (a1 : Int) (b : Int) (l15 : (List Int)) : (Int × (List Int)) → Option ((Int × (List Int)) ⊕ ((Int × Int × (List Int)) ⊕ (List Int)))
  | (i1, l14) =>
    if decide (i1 < b) then
      Lp (hull_best_b17 form a1 i1) fuel (i1, l14)
    else
      Option.bind (sameO l15 l14) fun _ =>
      ((hull_best_j14 b l14).map Sum.inr)

def hull_best_b13 (l : api_Load) (form : (List Int)) (total : Int) (l1 : (List Int)) (l2 : (List Int)) : (Int × Int × (List Int)) → Option ((Int × Int × (List Int)) ⊕ (List Int))
  | (a1, b, l15) =>
    if decide (b ≤ (l1.length : Int)) then
      Lp (hull_best_b15 form a1 b l15) fuel (w64 (a1 + 1), l15)
    else
      ((hull_best_j5 l form total l1 l2 a1 l15).map Sum.inr)

def hull_best_j1 (l : api_Load) (form : (List Int)) (total : Int) (l1 : (List Int)) (l2 : (List Int)) : Option (List Int) :=
  Lp (hull_best_b13 l form total l1 l2) fuel (0, 20, l1)

def hull_best_b18 (l : api_Load) (form : (List Int)) (total : Int) : (Int × (List Int) × (List Int)) → Option ((Int × (List Int) × (List Int)) ⊕ (List Int))
  | (x19, l18, l19) =>
    if decide (x19 < (l.Holds.length : Int)) then
      Option.bind (ix l.Holds x19) fun x18 =>
      Option.bind (app l19 ([x18.Lo])) fun l16 =>
      Option.bind (app l18 ([x19])) fun l17 =>
      some (.inl (w64 (x19 + 1), l17, l16))
    else
      ((hull_best_j1 l form total l18 l19).map Sum.inr)

def hull_best (l : api_Load) (form : (List Int)) (total : Int) : Option (List Int) :=
  Lp (hull_best_b18 l form total) fuel (0, [], [])

def hull_bound_j1 (n : Int) : Option Int :=
  some n

def hull_bound_b2 (l : api_Load) (form : (List Int)) (price : Int) : (Int × Int) → Option ((Int × Int) ⊕ Int)
  | (n1, x3) =>
    if decide (x3 < (form.length : Int)) then
      Option.bind (ix form x3) fun x =>
      Option.bind (ix l.Holds x3) fun x1 =>
      Option.bind (ix l.Holds x3) fun x2 =>
      some (.inl (w64 (n1 + (hull_greater_int (w64 ((w64 (x - price)) * x1.Lo)) (w64 ((w64 (x - price)) * x2.Hi)))), w64 (x3 + 1)))
    else
      ((hull_bound_j1 n1).map Sum.inr)

def hull_bound (l : api_Load) (form : (List Int)) (price : Int) (t : api_Span) : Option Int :=
  Lp (hull_bound_b2 l form price) fuel ((hull_greater_int (w64 (price * t.Lo)) (w64 (price * t.Hi))), 0)

def hull_priced_j1 (p : Int) : Option Int :=
  some p

def hull_priced_j3 (x1 : Int) (p1 : Int) : Option ((Int × Int) ⊕ Int) :=
  some (.inl (p1, w64 (x1 + 1)))

def hull_priced_b2 (l : api_Load) (form : (List Int)) (t : api_Span) : (Int × Int) → Option ((Int × Int) ⊕ Int)
  | (p2, x1) =>
    if decide (x1 < (form.length : Int)) then
      Option.bind (ix form x1) fun x =>
      Option.bind (hull_bound l form x t) fun y =>
      Option.bind (hull_bound l form p2 t) fun y1 =>
      if decide (y < y1) then
        hull_priced_j3 x1 x
      else
        hull_priced_j3 x1 p2
    else
      ((hull_priced_j1 p2).map Sum.inr)

def hull_priced (l : api_Load) (form : (List Int)) (t : api_Span) : Option Int :=
  Lp (hull_priced_b2 l form t) fuel (0, 0)

def hull_Most_j1 (l : api_Load) (form : (List Int)) (up : Int) : Option (api_Price × Int) :=
  Option.bind (hull_totals l) fun y2 =>
  Option.bind (hull_best l form (min up y2.Hi)) fun y3 =>
  Option.bind (hull_value form y3) fun y4 =>
  Option.bind (hull_priced l form l.All) fun y5 =>
  some ((⟨y4, y3, y5⟩ : api_Price), 0)

def hull_Most_j3 (x3 : Int) (up1 : Int) : Option ((Int × Int) ⊕ (api_Price × Int)) :=
  some (.inl (up1, w64 (x3 + 1)))

def hull_Most_b2 (l : api_Load) (form : (List Int)) : (Int × Int) → Option ((Int × Int) ⊕ (api_Price × Int))
  | (up2, x3) =>
    if decide (x3 < (form.length : Int)) then
      Option.bind (ix form x3) fun x =>
      if decide (0 < x) then
        Option.bind (ix l.Holds x3) fun x1 =>
        Option.bind (hull_totals l) fun y6 =>
        Option.bind (hull_best l form y6.Lo) fun y7 =>
        Option.bind (ix y7 x3) fun x2 =>
        hull_Most_j3 x3 (w64 (up2 + (w64 (x1.Hi - x2))))
      else
        hull_Most_j3 x3 up2
    else
      ((hull_Most_j1 l form up2).map Sum.inr)

def hull_Most (s : api_Ship) (l : api_Load) (form : (List Int)) : Option (api_Price × Int) :=
  Option.bind (hull_asked s l form) fun y =>
  if !decide (y = 0) then
    some ((⟨0, [], 0⟩ : api_Price), y)
  else
    Option.bind (hull_totals l) fun y1 =>
    Lp (hull_Most_b2 l form) fuel (y1.Lo, 0)

def hull_Narrow_j1 (y2 : api_Span) (l1 : (List api_Span)) : Option (api_Load × Int) :=
  some ((⟨l1, y2⟩ : api_Load), 0)

def hull_Narrow_b2 (l : api_Load) (y1 : api_Span) (y2 : api_Span) : (Int × (List api_Span)) → Option ((Int × (List api_Span)) ⊕ (api_Load × Int))
  | (x1, l3) =>
    if decide (x1 < (l.Holds.length : Int)) then
      Option.bind (ix l.Holds x1) fun x =>
      Option.bind (app l3 ([(⟨(hull_greater_int x.Lo (w64 (l.All.Lo - (w64 (y1.Hi - x.Hi))))), min x.Hi (w64 (l.All.Hi - (w64 (y1.Lo - x.Lo))))⟩ : api_Span)])) fun l2 =>
      some (.inl (w64 (x1 + 1), l2))
    else
      ((hull_Narrow_j1 y2 l3).map Sum.inr)

def hull_Narrow (s : api_Ship) (l : api_Load) : Option (api_Load × Int) :=
  Option.bind (hull_CheckLoad s l) fun y =>
  if !decide (y = 0) then
    some ((⟨[], (⟨0, 0⟩ : api_Span)⟩ : api_Load), y)
  else
    Option.bind (hull_sums l.Holds) fun y1 =>
    Option.bind (hull_totals l) fun y2 =>
    Lp (hull_Narrow_b2 l y1 y2) fuel (0, [])

def hull_each (l : api_Load) : api_Load :=
  l

def hull_spare (s : api_Ship) (total : Int) : Option (Int × Int) :=
  Option.bind (hull_table_at (⟨s.Mtac⟩ : hull_table) (w64 (s.Light + total))) fun y =>
  some (w64 ((w64 (y.1 - (w64 ((w64 (s.Mtac.Err + s.Least)) * y.2)))) * (w64 (s.Light + total))), y.2)

def hull_steady (s : api_Ship) (x : (List Int)) : Option Bool :=
  Option.bind (hull_sum x) fun y =>
  Option.bind (hull_spare s y) fun y1 =>
  Option.bind (hull_rise s x) fun y2 =>
  some (decide ((w64 (y2 * y1.2)) ≤ y1.1))

def hull_shaky_b1 (s : api_Ship) (l : api_Load) (y : api_Span) : Int → Option (Int ⊕ ((List Int) × Bool))
  | t =>
    if decide (t ≤ y.Hi) then
      Option.bind (hull_heights s) fun y1 =>
      Option.bind (hull_best l y1 t) fun y2 =>
      Option.bind (hull_steady s y2) fun y3 =>
      if !y3 then
        some (.inr (y2, true))
      else
        some (.inl (w64 (t + 1)))
    else
      some (.inr ([], false))

def hull_shaky (s : api_Ship) (l : api_Load) : Option ((List Int) × Bool) :=
  Option.bind (hull_totals (hull_each l)) fun y =>
  Lp (hull_shaky_b1 s l y) fuel y.Lo

def hull_Steady (s : api_Ship) (l : api_Load) : Option ((List Int) × Bool × Int) :=
  Option.bind (hull_CheckLoad s l) fun y =>
  if !decide (y = 0) then
    some ([], false, y)
  else
    Option.bind (hull_shaky s l) fun y1 =>
    some (y1.1, !y1.2, 0)

structure api_Drop where
  Hold : Int
  Mass : Int
  deriving DecidableEq, Inhabited

structure hull_done where
  a0 : Int
  a1 : Int
  a2 : Int
  a3 : Int
  a4 : Int
  a5 : Int
  a6 : Int
  a7 : Int
  deriving DecidableEq, Inhabited
def hull_done.toL (x : hull_done) : List Int := [x.a0, x.a1, x.a2, x.a3, x.a4, x.a5, x.a6, x.a7]
def hull_done.ofL : List Int → hull_done
  | [a0, a1, a2, a3, a4, a5, a6, a7] => ⟨a0, a1, a2, a3, a4, a5, a6, a7⟩
  | _ => default
def hull_done.set (x : hull_done) (i : Int) (v : Int) : hull_done := hull_done.ofL (put x.toL i v)
theorem hull_done.toL_of : ∀ {l : List Int}, l.length = 8 → (hull_done.ofL l).toL = l
  | [a0, a1, a2, a3, a4, a5, a6, a7], _ => rfl
theorem hull_done.toL_set (x : hull_done) (i : Int) (v : Int) : (x.set i v).toL = put x.toL i v := hull_done.toL_of (by simp [put, hull_done.toL])

structure hull_unloading where
  ship : api_Ship
  from_ : (List Int)
  to : (List Int)
  step : Int
  deriving DecidableEq, Inhabited

def hull_unloading_steps (u : hull_unloading) (hold : Int) : Option Int :=
  Option.bind (ix u.from_ hold) fun x =>
  Option.bind (ix u.to hold) fun x1 =>
  Option.bind (quo (w64 ((w64 ((w64 (x - x1)) + u.step)) - 1)) u.step) fun q =>
  some q

def hull_unloading_behind_j1 (l : (List Int)) : Option (List Int) :=
  some l

def hull_unloading_behind_b2 (u : hull_unloading) (d : hull_done) : (Int × (List Int)) → Option ((Int × (List Int)) ⊕ (List Int))
  | (x2, l2) =>
    if decide (x2 < (u.from_.length : Int)) then
      Option.bind (ix u.from_ x2) fun x =>
      Option.bind (ix (hull_done.toL d) x2) fun y =>
      Option.bind (ix u.to x2) fun x1 =>
      Option.bind (app l2 ([(hull_greater_int (w64 (x - (w64 (y * u.step)))) x1)])) fun l1 =>
      some (.inl (w64 (x2 + 1), l1))
    else
      ((hull_unloading_behind_j1 l2).map Sum.inr)

def hull_unloading_behind (u : hull_unloading) (d : hull_done) : Option (List Int) :=
  Lp (hull_unloading_behind_b2 u d) fuel (0, [])

def hull_unloading_search_j3 (l1 : (List api_Drop)) : Option ((List api_Drop) × Int) :=
  some (l1, 0)

def hull_unloading_search_b4 (l : (List api_Drop)) : (Int × Int × (List api_Drop)) → Option ((Int × Int × (List api_Drop)) ⊕ ((List api_Drop) × Int))
  | (i, j, l2) =>
    if decide (i < j) then
      Option.bind (ix l2 j) fun x =>
      Option.bind (ix l2 i) fun x1 =>
      Option.bind (ix l2 i) fun x2 =>
      Option.bind (ix (put l2 i x) j) fun x3 =>
      some (.inl (w64 (i + 1), w64 (j - 1), (put (put l2 i x) j x1)))
    else
      Option.bind (sameO l l2) fun _ =>
      ((hull_unloading_search_j3 l2).map Sum.inr)

def hull_unloading_search_j2 (l : (List api_Drop)) : Option ((List api_Drop) × Int) :=
  Lp (hull_unloading_search_b4 l) fuel (0, w64 ((l.length : Int) - 1), l)

def hull_unloading_search_b5 (u : hull_unloading) (m : (List (hull_done × Int))) : ((List api_Drop) × hull_done) → Option (((List api_Drop) × hull_done) ⊕ ((List api_Drop) × Int))
  | (l4, at_) =>
    if decide (0 ≤ ((lookM at_ m).getD 0)) then
      Option.bind (ix (hull_done.toL at_) ((lookM at_ m).getD 0)) fun y =>
      Option.bind (ix (hull_done.toL at_) ((lookM at_ m).getD 0)) fun y1 =>
      Option.bind (hull_unloading_behind u (hull_done.set at_ ((lookM at_ m).getD 0) (w64 (y - 1)))) fun y2 =>
      Option.bind (ix y2 ((lookM at_ m).getD 0)) fun x4 =>
      Option.bind (hull_unloading_behind u at_) fun y3 =>
      Option.bind (ix y3 ((lookM at_ m).getD 0)) fun x5 =>
      Option.bind (app l4 ([(⟨((lookM at_ m).getD 0), w64 (x4 - x5)⟩ : api_Drop)])) fun l3 =>
      some (.inl (l3, (hull_done.set at_ ((lookM at_ m).getD 0) (w64 (y - 1)))))
    else
      ((hull_unloading_search_j2 l4).map Sum.inr)

def hull_unloading_search_j1 (u : hull_unloading) (end_ : hull_done) (m : (List (hull_done × Int))) : Option ((List api_Drop) × Int) :=
  if !(lookM end_ m).isSome then
    some ([], 5)
  else
    Lp (hull_unloading_search_b5 u m) fuel ([], end_)

def hull_unloading_search_j8 (x7 : Int) (a1 : Int) (m1 : (List (hull_done × Int))) (l5 : (List hull_done)) : Option ((Int × Int × (List (hull_done × Int)) × (List hull_done)) ⊕ ((Int × (List (hull_done × Int)) × (List hull_done)) ⊕ ((List api_Drop) × Int))) :=
  some (.inl (a1, w64 (x7 + 1), m1, l5))

def hull_unloading_search_b7 (u : hull_unloading) (end_ : hull_done) (x6 : hull_done) : (Int × Int × (List (hull_done × Int)) × (List hull_done)) → Option ((Int × Int × (List (hull_done × Int)) × (List hull_done)) ⊕ ((Int × (List (hull_done × Int)) × (List hull_done)) ⊕ ((List api_Drop) × Int)))
  | (a2, x7, m2, l7) =>
    if decide (x7 < (u.from_.length : Int)) then
      Option.bind (ix (hull_done.toL x6) x7) fun y4 =>
      Option.bind (ix (hull_done.toL x6) x7) fun y5 =>
      gb (!((lookM (hull_done.set x6 x7 (w64 (y4 + 1))) m2).isSome)) (ix (hull_done.toL (hull_done.set x6 x7 (w64 (y4 + 1)))) x7) fun y6 =>
      gb (!((lookM (hull_done.set x6 x7 (w64 (y4 + 1))) m2).isSome)) (ix (hull_done.toL end_) x7) fun y7 =>
      gb (!((((lookM (hull_done.set x6 x7 (w64 (y4 + 1))) m2).isSome) || (decide (y7 < y6))))) (hull_unloading_behind u (hull_done.set x6 x7 (w64 (y4 + 1)))) fun y8 =>
      gb (!((((lookM (hull_done.set x6 x7 (w64 (y4 + 1))) m2).isSome) || (decide (y7 < y6))))) (hull_steady u.ship y8) fun y9 =>
      if ((((lookM (hull_done.set x6 x7 (w64 (y4 + 1))) m2).isSome) || (decide (y7 < y6))) || (!y9)) then
        hull_unloading_search_j8 x7 a2 m2 l7
      else
        if decide ((hull_done.set x6 x7 (w64 (y4 + 1))) = end_) then
          (((hull_unloading_search_j1 u end_ (putM posE m2 (hull_done.set x6 x7 (w64 (y4 + 1))) x7)).map Sum.inr).map Sum.inr)
        else
          Option.bind (qapp l7 a2 ([(hull_done.set x6 x7 (w64 (y4 + 1)))])) fun l6 =>
          hull_unloading_search_j8 x7 0 (putM posE m2 (hull_done.set x6 x7 (w64 (y4 + 1))) x7) l6
    else
      some (.inr (.inl (a2, m2, l7)))

def hull_unloading_search_b6 (u : hull_unloading) (end_ : hull_done) : (Int × (List (hull_done × Int)) × (List hull_done)) → Option ((Int × (List (hull_done × Int)) × (List hull_done)) ⊕ ((List api_Drop) × Int))
  | (a3, m3, l8) =>
    if decide (0 < ((List.drop (Int.toNat a3) l8).length : Int)) then
      Option.bind (ix (List.drop (Int.toNat a3) l8) 0) fun x6 =>
      Option.bind (qsl l8 a3 1) fun a =>
      Lp (hull_unloading_search_b7 u end_ x6) fuel (a, 0, m3, l8)
    else
      ((hull_unloading_search_j1 u end_ m3).map Sum.inr)

def hull_unloading_search (u : hull_unloading) (end_ : hull_done) : Option ((List api_Drop) × Int) :=
  Lp (hull_unloading_search_b6 u end_) fuel (0, (putM posE [] (⟨0, 0, 0, 0, 0, 0, 0, 0⟩ : hull_done) (-1)), [(⟨0, 0, 0, 0, 0, 0, 0, 0⟩ : hull_done)])

def hull_Order_j2 (s : api_Ship) (from_ : (List Int)) (to : (List Int)) (step : Int) (states : Int) (all : Int) (end_ : hull_done) : Option ((List api_Drop) × Int) :=
  if ((decide (2000 < states)) || (decide (60 < all))) then
    some ([], 2)
  else
    Option.bind (hull_steady s from_) fun y1 =>
    gb (!(!y1)) (hull_steady s to) fun y2 =>
    if ((!y1) || (!y2)) then
      some ([], 4)
    else
      Option.bind (hull_unloading_search (⟨s, from_, to, step⟩ : hull_unloading) end_) fun y3 =>
      some (y3.1, y3.2)

def hull_Order_b3 (s : api_Ship) (from_ : (List Int)) (to : (List Int)) (step : Int) : (Int × Int × Int × hull_done) → Option ((Int × Int × Int × hull_done) ⊕ ((List api_Drop) × Int))
  | (states1, all1, x, end_1) =>
    if decide (x < (from_.length : Int)) then
      Option.bind (hull_unloading_steps (⟨s, from_, to, step⟩ : hull_unloading) x) fun y4 =>
      Option.bind (ix (hull_done.toL end_1) x) fun y5 =>
      Option.bind (ix (hull_done.toL (hull_done.set end_1 x y4)) x) fun y6 =>
      Option.bind (ix (hull_done.toL (hull_done.set end_1 x y4)) x) fun y7 =>
      some (.inl (min (w64 (states1 * (w64 (y6 + 1)))) 2001, w64 (all1 + y7), w64 (x + 1), (hull_done.set end_1 x y4)))
    else
      ((hull_Order_j2 s from_ to step states1 all1 end_1).map Sum.inr)

def hull_Order_j1 (s : api_Ship) (from_ : (List Int)) (to : (List Int)) (step : Int) : Option ((List api_Drop) × Int) :=
  if !(hull_within step 1 65536) then
    some ([], 1)
  else
    Lp (hull_Order_b3 s from_ to step) fuel (1, 0, 0, (⟨0, 0, 0, 0, 0, 0, 0, 0⟩ : hull_done))

def hull_Order_b4 (s : api_Ship) (from_ : (List Int)) (to : (List Int)) (step : Int) : Int → Option (Int ⊕ ((List api_Drop) × Int))
  | x3 =>
    if decide (x3 < (from_.length : Int)) then
      Option.bind (ix to x3) fun x1 =>
      Option.bind (ix from_ x3) fun x2 =>
      if decide (x2 < x1) then
        some (.inr ([], 1))
      else
        some (.inl (w64 (x3 + 1)))
    else
      ((hull_Order_j1 s from_ to step).map Sum.inr)

def hull_Order (s : api_Ship) (from_ : (List Int)) (to : (List Int)) (step : Int) : Option ((List api_Drop) × Int) :=
  Option.bind (hull_loaded s ([from_, to])) fun y =>
  if !decide (y = 0) then
    some ([], y)
  else
    Lp (hull_Order_b4 s from_ to step) fuel 0

def hull_Behind_j1 (s : api_Ship) (l : api_Load) (out : (List api_Span)) (l1 : (List api_Span)) : Option (api_Load × Int) :=
  Option.bind (hull_sums out) fun y1 =>
  if decide (l.All.Hi < y1.Lo) then
    some ((⟨[], (⟨0, 0⟩ : api_Span)⟩ : api_Load), 1)
  else
    Option.bind (hull_CheckLoad s (⟨l1, (⟨(hull_greater_int 0 (w64 (l.All.Lo - y1.Hi))), w64 (l.All.Hi - y1.Lo)⟩ : api_Span)⟩ : api_Load)) fun y2 =>
    if !decide (y2 = 0) then
      some ((⟨[], (⟨0, 0⟩ : api_Span)⟩ : api_Load), y2)
    else
      some ((⟨l1, (⟨(hull_greater_int 0 (w64 (l.All.Lo - y1.Hi))), w64 (l.All.Hi - y1.Lo)⟩ : api_Span)⟩ : api_Load), 0)

def hull_Behind_b2 (s : api_Ship) (l : api_Load) (out : (List api_Span)) : (Int × (List api_Span)) → Option ((Int × (List api_Span)) ⊕ (api_Load × Int))
  | (x3, l3) =>
    if decide (x3 < (out.length : Int)) then
      Option.bind (ix out x3) fun x =>
      Option.bind (ix l.Holds x3) fun x1 =>
      gb (!(((decide (x.Lo < 0)) || (decide (x.Hi < x.Lo))))) (ix s.Holds x3) fun x2 =>
      if ((((decide (x.Lo < 0)) || (decide (x.Hi < x.Lo))) || (decide (x2.Room < x.Hi))) || (decide (x1.Hi < x.Lo))) then
        some (.inr ((⟨[], (⟨0, 0⟩ : api_Span)⟩ : api_Load), 1))
      else
        Option.bind (app l3 ([(⟨(hull_greater_int 0 (w64 (x1.Lo - x.Hi))), w64 (x1.Hi - x.Lo)⟩ : api_Span)])) fun l2 =>
        some (.inl (w64 (x3 + 1), l2))
    else
      ((hull_Behind_j1 s l out l3).map Sum.inr)

def hull_Behind (s : api_Ship) (l : api_Load) (out : (List api_Span)) : Option (api_Load × Int) :=
  Option.bind (hull_CheckLoad s l) fun y =>
  if !decide (y = 0) then
    some ((⟨[], (⟨0, 0⟩ : api_Span)⟩ : api_Load), y)
  else
    if !decide ((out.length : Int) = (l.Holds.length : Int)) then
      some ((⟨[], (⟨0, 0⟩ : api_Span)⟩ : api_Load), 1)
    else
      Lp (hull_Behind_b2 s l out) fuel (0, [])

def ref03_SameLoads_j1 : Option Bool :=
  some true

def ref03_SameLoads_b2 (a : api_Load) (b : api_Load) : Int → Option (Int ⊕ Bool)
  | i =>
    if decide (i < (a.Holds.length : Int)) then
      Option.bind (ix a.Holds i) fun x =>
      Option.bind (ix b.Holds i) fun x1 =>
      if !decide (x = x1) then
        some (.inr false)
      else
        some (.inl (w64 (i + 1)))
    else
      ((ref03_SameLoads_j1).map Sum.inr)

def ref03_SameLoads (a : api_Load) (b : api_Load) : Option Bool :=
  if ((!decide (a.All = b.All)) || (!decide ((a.Holds.length : Int) = (b.Holds.length : Int)))) then
    some false
  else
    Lp (ref03_SameLoads_b2 a b) fuel 0

def ref03_SameInts_j1 : Option Bool :=
  some true

def ref03_SameInts_b2 (a : (List Int)) (b : (List Int)) : Int → Option (Int ⊕ Bool)
  | i =>
    if decide (i < (a.length : Int)) then
      Option.bind (ix a i) fun x =>
      Option.bind (ix b i) fun x1 =>
      if !decide (x = x1) then
        some (.inr false)
      else
        some (.inl (w64 (i + 1)))
    else
      ((ref03_SameInts_j1).map Sum.inr)

def ref03_SameInts (a : (List Int)) (b : (List Int)) : Option Bool :=
  if !decide ((a.length : Int) = (b.length : Int)) then
    some false
  else
    Lp (ref03_SameInts_b2 a b) fuel 0

def law03_sanity : Option Bool :=
  Option.bind (hull_Moment (law03_Ship) ([100, 200])) fun y =>
  Option.bind (hull_Gravity (law03_Ship) ([100, 200])) fun y1 =>
  Option.bind (hull_Stiff (law03_Ship) ([100, 200])) fun y2 =>
  Option.bind (hull_Afloat (law03_Ship) ([100, 200])) fun y3 =>
  Option.bind (hull_Most (law03_Ship) (law03_of 0 400 100 200 300 350) ([1, 2])) fun y4 =>
  Option.bind (hull_Narrow (law03_Ship) (law03_of 0 400 100 200 100 150)) fun y5 =>
  Option.bind (hull_Steady (law03_Ship) (law03_of 0 400 0 400 0 400)) fun y6 =>
  Option.bind (hull_Order (law03_Ship) ([200, 200]) ([0, 0]) 100) fun y7 =>
  Option.bind (hull_Behind (law03_Ship) (law03_of 100 200 50 50 150 250) ([(⟨20, 30⟩ : api_Span), (⟨0, 10⟩ : api_Span)])) fun y8 =>
  if (((((((((!decide (y.2 = 0)) || (!decide (y1.2 = 0))) || (!decide (y2.2 = 0))) || (!decide (y3.2 = 0))) || (!decide (y4.2 = 0))) || (!decide (y5.2 = 0))) || (!decide (y6.2.2 = 0))) || (!decide (y7.2 = 0))) || (!decide (y8.2 = 0))) then
    some false
  else
    Option.bind (ref03_SameLoads y5.1 (law03_of 0 50 100 150 100 150)) fun y9 =>
    gb (((y9 && (!y6.2.1)))) (ref03_SameInts y6.1 ([0, 317])) fun y10 =>
    gb (((((y9 && (!y6.2.1)) && y10) && (decide ((y7.1.length : Int) = 4))))) (ref03_SameLoads y8.1 (law03_of 70 180 40 50 110 230)) fun y11 =>
    some ((((((decide (y.1 = (-5000))) && (decide (y1.1 = (⟨760, 7⟩ : api_Frac)))) && (decide (y2.1 = (⟨615, 14⟩ : api_Frac)))) && (decide (y3.1 = (⟨(⟨0, 0⟩ : api_Span), (⟨500, 500⟩ : api_Span)⟩ : api_Draughts)))) && (decide (y4.1.Value = 550))) && ((((y9 && (!y6.2.1)) && y10) && (decide ((y7.1.length : Int) = 4))) && y11))

def law03_Inside_j2 (l : api_Load) (all1 : Int) (l2 : (List Int)) : Option ((List Int) × Bool) :=
  some (l2, ((decide (l.All.Lo ≤ all1)) && (decide (all1 ≤ l.All.Hi))))

def law03_Inside_b3 (l : api_Load) : (Int × Int × (List Int)) → Option ((Int × Int × (List Int)) ⊕ ((List Int) × Bool))
  | (all2, x4, l3) =>
    if decide (x4 < (l.Holds.length : Int)) then
      Option.bind (ix l.Holds x4) fun x =>
      Option.bind (ix l3 x4) fun x1 =>
      Option.bind (ix l3 x4) fun x2 =>
      Option.bind (ix l3 x4) fun x3 =>
      some (.inl (w64 ((w64 (all2 + (max x.Lo (min x.Hi (w64 ((w64 (x1 + (max 0 (w64 (l.All.Lo - all2))))) - (max 0 (w64 (all2 - l.All.Hi))))))))) - x2), w64 (x4 + 1), (put l3 x4 (max x.Lo (min x.Hi (w64 ((w64 (x1 + (max 0 (w64 (l.All.Lo - all2))))) - (max 0 (w64 (all2 - l.All.Hi))))))))))
    else
      ((law03_Inside_j2 l all2 l3).map Sum.inr)

def law03_Inside_j1 (l : api_Load) (all : Int) (l1 : (List Int)) : Option ((List Int) × Bool) :=
  Lp (law03_Inside_b3 l) fuel (all, 0, l1)

def law03_Inside_j5 (all3 : Int) (x7 : Int) (l5 : (List Int)) (n : Int) : Option ((Int × Int × (List Int)) ⊕ ((List Int) × Bool)) :=
  Option.bind (app l5 ([n])) fun l4 =>
  some (.inl (w64 (all3 + n), w64 (x7 + 1), l4))

def law03_Inside_b4 (l : api_Load) (by_ : (List Int)) : (Int × Int × (List Int)) → Option ((Int × Int × (List Int)) ⊕ ((List Int) × Bool))
  | (all3, x7, l5) =>
    if decide (x7 < (l.Holds.length : Int)) then
      Option.bind (ix l.Holds x7) fun x5 =>
      if decide (x7 < (by_.length : Int)) then
        Option.bind (ix by_ x7) fun x6 =>
        Option.bind (rem (w64 x6) (w64 ((w64 (x5.Hi - x5.Lo)) + 1))) fun q =>
        law03_Inside_j5 all3 x7 l5 (w64 (x5.Lo + q))
      else
        law03_Inside_j5 all3 x7 l5 x5.Lo
    else
      ((law03_Inside_j1 l all3 l5).map Sum.inr)

def law03_Inside (l : api_Load) (by_ : (List Int)) : Option ((List Int) × Bool) :=
  Lp (law03_Inside_b4 l by_) fuel (0, 0, [])

def hull_fits_j1 (l : api_Load) (x : (List Int)) : Option Bool :=
  Option.bind (hull_sum x) fun y =>
  some (hull_within y l.All.Lo l.All.Hi)

def hull_fits_b2 (l : api_Load) (x : (List Int)) : Int → Option (Int ⊕ Bool)
  | x4 =>
    if decide (x4 < (x.length : Int)) then
      Option.bind (ix x x4) fun x1 =>
      Option.bind (ix l.Holds x4) fun x2 =>
      Option.bind (ix l.Holds x4) fun x3 =>
      if !(hull_within x1 x2.Lo x3.Hi) then
        some (.inr false)
      else
        some (.inl (w64 (x4 + 1)))
    else
      ((hull_fits_j1 l x).map Sum.inr)

def hull_fits (l : api_Load) (x : (List Int)) : Option Bool :=
  if !decide ((x.length : Int) = (l.Holds.length : Int)) then
    some false
  else
    Lp (hull_fits_b2 l x) fuel 0

def hull_Fits (s : api_Ship) (l : api_Load) (x : (List Int)) : Option Bool :=
  Option.bind (hull_CheckLoad s l) fun y =>
  gb ((decide (y = 0))) (hull_fits l x) fun y1 =>
  some ((decide (y = 0)) && y1)

def law03_HullTaken_j1 (s : api_Ship) (y1 : api_Load × Int) (l1 : (List Int)) : Option Bool :=
  Option.bind (law03_sanity) fun y4 =>
  gb ((y4)) (hull_Fits s y1.1 l1) fun y5 =>
  some (y4 && y5)

def law03_HullTaken_j3 (x8 : Int) (l2 : (List Int)) (n : Int) : Option ((Int × (List Int)) ⊕ Bool) :=
  Option.bind (ix l2 x8) fun x1 =>
  if decide (x1 < n) then
    Option.bind (law03_sanity) fun y6 =>
    some (.inr y6)
  else
    Option.bind (ix l2 x8) fun x2 =>
    Option.bind (ix l2 x8) fun x3 =>
    some (.inl (w64 (x8 + 1), (put l2 x8 (w64 (x2 - n)))))

def law03_HullTaken_b2 (s : api_Ship) (out : (List api_Span)) (some_ : (List Int)) (y1 : api_Load × Int) (y3 : (List Int) × Bool) : (Int × (List Int)) → Option ((Int × (List Int)) ⊕ Bool)
  | (x8, l2) =>
    if decide (x8 < (y3.1.length : Int)) then
      Option.bind (ix out x8) fun x =>
      if decide (x8 < (some_.length : Int)) then
        Option.bind (ix out x8) fun x4 =>
        Option.bind (ix some_ x8) fun x5 =>
        Option.bind (ix out x8) fun x6 =>
        Option.bind (ix out x8) fun x7 =>
        Option.bind (rem (w64 x5) (w64 ((w64 (x6.Hi - x7.Lo)) + 1))) fun q =>
        law03_HullTaken_j3 x8 l2 (w64 (x4.Lo + q))
      else
        law03_HullTaken_j3 x8 l2 x.Lo
    else
      ((law03_HullTaken_j1 s y1 l2).map Sum.inr)

def law03_HullTaken (s : api_Ship) (l : api_Load) (by_ : (List Int)) (out : (List api_Span)) (some_ : (List Int)) : Option Bool :=
  if ((!(law03_short s l)) || (decide (20 < (out.length : Int)))) then
    Option.bind (law03_sanity) fun y =>
    some y
  else
    Option.bind (hull_Behind s l out) fun y1 =>
    if !decide (y1.2 = 0) then
      Option.bind (law03_sanity) fun y2 =>
      some y2
    else
      Option.bind (law03_Inside l by_) fun y3 =>
      if !y3.2 then
        some false
      else
        Lp (law03_HullTaken_b2 s out some_ y1 y3) fuel (0, y3.1)

def ref03_in (n : Int) (lo : Int) (hi : Int) : Bool :=
  ((decide (lo ≤ n)) && (decide (n ≤ hi)))

def ref03_placed (lever : Int) (height : Int) : Bool :=
  ((ref03_in lever (-20000) 20000) && (ref03_in height 0 5000))

def ref03_rooms_j1 (n : Int) : Option Int :=
  some n

def ref03_rooms_b2 (s : api_Ship) : (Int × Int) → Option ((Int × Int) ⊕ Int)
  | (n1, i) =>
    if decide (i < (s.Holds.length : Int)) then
      Option.bind (ix s.Holds i) fun x =>
      some (.inl (w64 (n1 + x.Room), w64 (i + 1)))
    else
      ((ref03_rooms_j1 n1).map Sum.inr)

def ref03_rooms (s : api_Ship) : Option Int :=
  Lp (ref03_rooms_b2 s) fuel (0, 0)

def ref01_Check_j1 : Option Int :=
  some 0

def ref01_Check_b2 (c : api_Curve) : Int → Option (Int ⊕ Int)
  | i =>
    if decide (i < (c.Knots.length : Int)) then
      Option.bind (ix c.Knots i) fun x =>
      gb (!(((((decide (x.X < 0)) || (decide (2000 < x.X))) || (decide (x.Y < (-65536)))) || (decide (65536 < x.Y)))) && (decide (0 < i))) (ix c.Knots (w64 (i - 1))) fun x1 =>
      if (((((decide (x.X < 0)) || (decide (2000 < x.X))) || (decide (x.Y < (-65536)))) || (decide (65536 < x.Y))) || ((decide (0 < i)) && (decide (x.X ≤ x1.X)))) then
        some (.inr 1)
      else
        some (.inl (w64 (i + 1)))
    else
      ((ref01_Check_j1).map Sum.inr)

def ref01_Check (c : api_Curve) : Option Int :=
  if decide (40 < (c.Knots.length : Int)) then
    some 2
  else
    if (((decide ((c.Knots.length : Int) = 0)) || (decide (c.Err < 0))) || (decide (4000 < c.Err))) then
      some 1
    else
      Lp (ref01_Check_b2 c) fuel 0

def ref03_known_j1 (s : api_Ship) (c : api_Curve) : Option Bool :=
  Option.bind (ix c.Knots 0) fun x =>
  gb ((decide ((w64 (x.X * 40)) ≤ s.Light))) (ix c.Knots (w64 ((c.Knots.length : Int) - 1))) fun x1 =>
  gb ((decide ((w64 (x.X * 40)) ≤ s.Light))) (ref03_rooms s) fun y =>
  some ((decide ((w64 (x.X * 40)) ≤ s.Light)) && (decide ((w64 (s.Light + y)) ≤ (w64 (x1.X * 40)))))

def ref03_known_b2 (s : api_Ship) (c : api_Curve) : Int → Option (Int ⊕ Bool)
  | i =>
    if decide (i < (c.Knots.length : Int)) then
      Option.bind (ix c.Knots i) fun x2 =>
      if decide (x2.Y < 0) then
        some (.inr false)
      else
        some (.inl (w64 (i + 1)))
    else
      ((ref03_known_j1 s c).map Sum.inr)

def ref03_known (s : api_Ship) (c : api_Curve) : Option Bool :=
  Lp (ref03_known_b2 s c) fuel 0

def ref03_Check_j2 (s : api_Ship) : Option Int :=
  Option.bind (ref03_known s s.Mean) fun y3 =>
  Option.bind (ref03_known s s.Mtac) fun y4 =>
  if ((!y3) || (!y4)) then
    some 1
  else
    some 0

def ref03_Check_b3 (s : api_Ship) : Int → Option (Int ⊕ Int)
  | i =>
    if decide (i < (s.Mean.Knots.length : Int)) then
      Option.bind (ix s.Mean.Knots i) fun x =>
      Option.bind (ix s.Mean.Knots (w64 (i - 1))) fun x1 =>
      if decide (x.Y ≤ x1.Y) then
        some (.inr 1)
      else
        some (.inl (w64 (i + 1)))
    else
      ((ref03_Check_j2 s).map Sum.inr)

def ref03_Check_j1 (s : api_Ship) : Option Int :=
  Option.bind (ref03_rooms s) fun y =>
  if decide (65536 < (w64 (s.Light + y))) then
    some 1
  else
    Option.bind (ref01_Check s.Mean) fun y1 =>
    if !decide (y1 = 0) then
      some y1
    else
      Option.bind (ref01_Check s.Mtac) fun y2 =>
      if !decide (y2 = 0) then
        some y2
      else
        Lp (ref03_Check_b3 s) fuel 1

def ref03_Check_j5 (i1 : Int) : Option (Int ⊕ Int) :=
  some (.inl (w64 (i1 + 1)))

def ref03_Check_b6 (s : api_Ship) (i1 : Int) (x2 : api_Hold) : Int → Option (Int ⊕ (Int ⊕ Int))
  | k =>
    if decide (k < i1) then
      Option.bind (ix s.Holds k) fun x3 =>
      if decide (x3.ID = x2.ID) then
        some (.inr (.inr 6))
      else
        some (.inl (w64 (k + 1)))
    else
      ((ref03_Check_j5 i1).map Sum.inr)

def ref03_Check_b4 (s : api_Ship) : Int → Option (Int ⊕ Int)
  | i1 =>
    if decide (i1 < (s.Holds.length : Int)) then
      Option.bind (ix s.Holds i1) fun x2 =>
      if (((!(ref03_in x2.ID 1 1099511627776)) || (!(ref03_in x2.Room 0 65536))) || (!(ref03_placed x2.Lever x2.Height))) then
        some (.inr 1)
      else
        Lp (ref03_Check_b6 s i1 x2) fuel 0
    else
      ((ref03_Check_j1 s).map Sum.inr)

def ref03_Check (s : api_Ship) : Option Int :=
  if (((((!(ref03_in s.ID 1 1099511627776)) || (!(ref03_in s.Light 1 65536))) || (!(ref03_placed s.Lever s.Height))) || (!(ref03_in s.Turn 1 1048576))) || (!(ref03_in s.Least 0 5000))) then
    some 1
  else
    if decide (8 < (s.Holds.length : Int)) then
      some 2
    else
      Lp (ref03_Check_b4 s) fuel 0

def ref03_span (s : api_Span) (lo : Int) (hi : Int) : Bool :=
  (((decide (lo ≤ s.Lo)) && (decide (s.Lo ≤ s.Hi))) && (decide (s.Hi ≤ hi)))

def ref03_sums_j1 (Lo : Int) (Hi : Int) : Option api_Span :=
  some (⟨Lo, Hi⟩ : api_Span)

def ref03_sums_b2 (l : (List api_Span)) : (Int × Int × Int) → Option ((Int × Int × Int) ⊕ api_Span)
  | (i, Lo1, Hi1) =>
    if decide (i < (l.length : Int)) then
      Option.bind (ix l i) fun x =>
      Option.bind (ix l i) fun x1 =>
      some (.inl (w64 (i + 1), w64 (Lo1 + x.Lo), w64 (Hi1 + x1.Hi)))
    else
      ((ref03_sums_j1 Lo1 Hi1).map Sum.inr)

def ref03_sums (l : (List api_Span)) : Option api_Span :=
  Lp (ref03_sums_b2 l) fuel (0, 0, 0)

def ref03_load_j1 (l : api_Load) : Option Int :=
  if !(ref03_span l.All 0 65536) then
    some 1
  else
    if decide (4000 ≤ (w64 (l.All.Hi - l.All.Lo))) then
      some 2
    else
      Option.bind (ref03_sums l.Holds) fun y =>
      if ((decide (l.All.Hi < y.Lo)) || (decide (y.Hi < l.All.Lo))) then
        some 9
      else
        some 0

def ref03_load_b2 (s : api_Ship) (l : api_Load) : Int → Option (Int ⊕ Int)
  | i =>
    if decide (i < (l.Holds.length : Int)) then
      Option.bind (ix l.Holds i) fun x =>
      Option.bind (ix s.Holds i) fun x1 =>
      if !(ref03_span x 0 x1.Room) then
        some (.inr 1)
      else
        some (.inl (w64 (i + 1)))
    else
      ((ref03_load_j1 l).map Sum.inr)

def ref03_load (s : api_Ship) (l : api_Load) : Option Int :=
  if !decide ((l.Holds.length : Int) = (s.Holds.length : Int)) then
    some 1
  else
    Lp (ref03_load_b2 s l) fuel 0

def ref03_CheckLoad (s : api_Ship) (l : api_Load) : Option Int :=
  Option.bind (ref03_Check s) fun y =>
  if !decide (y = 0) then
    some y
  else
    Option.bind (ref03_load s l) fun y1 =>
    some y1

def ref03_totals (l : api_Load) : Option api_Span :=
  Option.bind (ref03_sums l.Holds) fun y =>
  some (⟨max y.Lo l.All.Lo, min y.Hi l.All.Hi⟩ : api_Span)

def ref03_Narrow_j1 (y2 : api_Span) (l1 : (List api_Span)) : Option (api_Load × Int) :=
  some ((⟨l1, y2⟩ : api_Load), 0)

def ref03_Narrow_b2 (l : api_Load) (y1 : api_Span) (y2 : api_Span) : (Int × (List api_Span)) → Option ((Int × (List api_Span)) ⊕ (api_Load × Int))
  | (i, l3) =>
    if decide (i < (l.Holds.length : Int)) then
      Option.bind (ix l.Holds i) fun x =>
      Option.bind (app l3 ([(⟨max x.Lo (w64 (y2.Lo - (w64 (y1.Hi - x.Hi)))), min x.Hi (w64 (y2.Hi - (w64 (y1.Lo - x.Lo))))⟩ : api_Span)])) fun l2 =>
      some (.inl (w64 (i + 1), l2))
    else
      ((ref03_Narrow_j1 y2 l3).map Sum.inr)

def ref03_Narrow (s : api_Ship) (l : api_Load) : Option (api_Load × Int) :=
  Option.bind (ref03_CheckLoad s l) fun y =>
  if !decide (y = 0) then
    some ((⟨[], (⟨0, 0⟩ : api_Span)⟩ : api_Load), y)
  else
    Option.bind (ref03_sums l.Holds) fun y1 =>
    Option.bind (ref03_totals l) fun y2 =>
    Lp (ref03_Narrow_b2 l y1 y2) fuel (0, [])

def ref03_total_j1 (n : Int) : Option Int :=
  some n

def ref03_total_b2 (x : (List Int)) : (Int × Int) → Option ((Int × Int) ⊕ Int)
  | (n1, i) =>
    if decide (i < (x.length : Int)) then
      Option.bind (ix x i) fun x1 =>
      some (.inl (w64 (n1 + x1), w64 (i + 1)))
    else
      ((ref03_total_j1 n1).map Sum.inr)

def ref03_total (x : (List Int)) : Option Int :=
  Lp (ref03_total_b2 x) fuel (0, 0)

def ref03_fits_j1 (l : api_Load) (x : (List Int)) : Option Bool :=
  Option.bind (ref03_total x) fun y =>
  some (ref03_in y l.All.Lo l.All.Hi)

def ref03_fits_b2 (l : api_Load) (x : (List Int)) : Int → Option (Int ⊕ Bool)
  | i =>
    if decide (i < (x.length : Int)) then
      Option.bind (ix x i) fun x1 =>
      Option.bind (ix l.Holds i) fun x2 =>
      Option.bind (ix l.Holds i) fun x3 =>
      if !(ref03_in x1 x2.Lo x3.Hi) then
        some (.inr false)
      else
        some (.inl (w64 (i + 1)))
    else
      ((ref03_fits_j1 l x).map Sum.inr)

def ref03_fits (l : api_Load) (x : (List Int)) : Option Bool :=
  if !decide ((x.length : Int) = (l.Holds.length : Int)) then
    some false
  else
    Lp (ref03_fits_b2 l x) fuel 0

def ref03_Fits (s : api_Ship) (l : api_Load) (x : (List Int)) : Option Bool :=
  Option.bind (ref03_CheckLoad s l) fun y =>
  gb ((decide (y = 0))) (ref03_fits l x) fun y1 =>
  some ((decide (y = 0)) && y1)

def law03_HullChecks (s : api_Ship) (l : api_Load) (x : (List Int)) : Option Bool :=
  if ((!(law03_short s l)) || (decide (20 < (x.length : Int)))) then
    Option.bind (law03_sanity) fun y =>
    some y
  else
    Option.bind (hull_Narrow s l) fun y1 =>
    Option.bind (ref03_Narrow s l) fun y2 =>
    Option.bind (law03_sanity) fun y3 =>
    gb ((y3)) (hull_Check s) fun y4 =>
    gb ((y3)) (ref03_Check s) fun y5 =>
    gb (((y3 && (decide (y4 = y5))))) (hull_CheckLoad s l) fun y6 =>
    gb (((y3 && (decide (y4 = y5))))) (ref03_CheckLoad s l) fun y7 =>
    gb ((((y3 && (decide (y4 = y5))) && (decide (y6 = y7))))) (hull_Fits s l x) fun y8 =>
    gb ((((y3 && (decide (y4 = y5))) && (decide (y6 = y7))))) (ref03_Fits s l x) fun y9 =>
    gb (((((y3 && (decide (y4 = y5))) && (decide (y6 = y7))) && (y8 == y9)))) (ref03_SameLoads y1.1 y2.1) fun y10 =>
    some (((((y3 && (decide (y4 = y5))) && (decide (y6 = y7))) && (y8 == y9)) && y10) && (decide (y1.2 = y2.2)))

end Go.Mx
