/- What the functions of the cursor and of decks compute, as definitions. -/
import Derived.Test.YtcnfeibfjmnlfaaAbPure
namespace Go.Cur
open Go.Ab Go.RowKit
abbrev I64 (x : Int) : Prop := -9223372036854775808 ≤ x ∧ x ≤ 9223372036854775807
abbrev Deck := List Int × Int × Unit
abbrev Cursor := Int × Int × Bool × Unit
abbrev Margins := Int × Int × Unit
def DeckOk (d : Deck) : Prop := (d.1.length : Int) ≤ 140737488351232 ∧ 0 ≤ d.2.1 ∧ d.2.1 ≤ d.1.length ∧ ∀ x ∈ d.1, I64 x
def dnext (d : Deck) (n : Int) : Int := if d.2.1 < d.1.length then (d.1.getD d.2.1.toNat 0) % n else 0
def dadv (d : Deck) : Deck := (d.1, (if d.2.1 < d.1.length then d.2.1 + 1 else d.2.1), ())
def ListOk (l : List Int) : Prop := (l.length : Int) ≤ 140737488351232 ∧ ∀ x ∈ l, I64 x
def validP (c : Cursor) (rows cols : Int) : Bool := decide (0 ≤ c.1 ∧ c.1 < rows ∧ 0 ≤ c.2.1 ∧ c.2.1 < cols)
def rightP (m : Margins) (rows : Int) : Bool := decide (0 ≤ m.1 ∧ m.1 ≤ m.2.1 ∧ m.2.1 < rows)
/-- The cursor that a list of numbers makes. -/
def madeP (l : List Int) : Cursor × Margins × Int × Int :=
  let d : Deck := (l, 0, ())
  let rows := 1 + dnext d 9
  let d := dadv d
  let cols := 1 + dnext d 30
  let d := dadv d
  let top := dnext d rows
  let d := dadv d
  let row := dnext d rows
  let d := dadv d
  let col := dnext d cols
  let d := dadv d
  let wrap := dnext d 2
  let d := dadv d
  let bot := top + dnext d (rows - 1 - top + 1)
  ((row, col, wrap == 0, ()), (top, bot, ()), rows, cols)
/-- A move. -/
def movP (c : Cursor) (kind n : Int) (m : Margins) (rows cols : Int) : Cursor :=
  if validP c rows cols = true ∧ rightP m rows = true ∧ 1 ≤ kind ∧ kind ≤ 8 then
    if kind = 1 then (c.1 - min (max n 1) (c.1 - (if m.1 ≤ c.1 then m.1 else 0)), c.2.1, false, ())
    else if kind = 2 then (c.1 + min (max n 1) ((if c.1 ≤ m.2.1 then m.2.1 else rows - 1) - c.1), c.2.1, false, ())
    else if kind = 3 then (c.1, c.2.1 + min (max n 1) (cols - 1 - c.2.1), false, ())
    else if kind = 4 then (c.1, c.2.1 - min (max n 1) c.2.1, false, ())
    else if kind = 5 then (c.1, 0, false, ())
    else if kind = 6 then (c.1, max 0 (min n (cols - 1)), false, ())
    else if kind = 7 then (max 0 (min n (rows - 1)), c.2.1, false, ())
    else (c.1, (if (cols - 1 - c.2.1 / 8 * 8) / 8 < max n 1 then cols - 1 else (c.2.1 / 8 + max n 1) * 8), false, ())
  else c
end Go.Cur
