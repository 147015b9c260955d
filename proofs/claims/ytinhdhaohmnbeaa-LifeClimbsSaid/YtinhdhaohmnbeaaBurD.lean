/- What the limits of restarts compute, as definitions. -/
import Derived.Test.YtinhdhaohmnbeaaAbPure
namespace Go.Bur
open Go.Ab Go.RowKit
abbrev U64 (x : Int) : Prop := 0 ≤ x ∧ x ≤ 18446744073709551615
def Us (l : List Int) : Prop := (l.length : Int) ≤ 1099511627776 ∧ ∀ x ∈ l, U64 x
def subP (a b : Int) : Int := if a < b then 0 else a - b
/-- Is a time out of the window? -/
def outP (now window t : Int) : Bool := decide (window ≤ subP now t)
def trimP (l : List Int) (now window : Int) : List Int := l.filter fun t => !outP now window t
/-- The place of the first time that is out of the window, -1 if there is none. -/
def firstGo (now window : Int) : List Int → Int → Int
  | [], _ => -1
  | t :: l, i => if outP now window t = true then i else firstGo now window l (i + 1)
def firstP (l : List Int) (now window : Int) : Int := firstGo now window l 0
def allowP (l : List Int) (most now window : Int) : List Int × Bool :=
  if most ≤ ((trimP l now window).length : Int) then (trimP l now window, false) else (trimP l now window ++ [now], true)
def playGo (most window : Int) : List Int → List Int → Int → List Bool
  | [], _, _ => []
  | t :: l, times, now => (allowP times most (max now t) window).2 :: playGo most window l (allowP times most (max now t) window).1 (max now t)
def playP (most window : Int) (l : List Int) : List Bool := playGo most window l [] 0
def smallP (l : List Int) (n : Int) : List Int := l.map fun t => t % n
end Go.Bur
