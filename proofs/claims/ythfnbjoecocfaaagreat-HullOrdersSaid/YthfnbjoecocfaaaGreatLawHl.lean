/- Part of the proof of HullOrders: plain laws about the functions of M, no program in sight. Conditions: none. -/
import Derived.Test.YthfnbjoecocfaaaGreatLawHk
