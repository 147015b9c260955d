/- What the functions of the ladder compute, as definitions: saturating sums, remainders, the next signal, the steps. -/
import Derived.Test.YtinhdhaohmnbeaaAbPure
set_option linter.unusedVariables false
set_option linter.unusedSimpArgs false
set_option linter.unnecessarySimpa false
namespace Go.Lad
open Go.Ab Go.RowKit
abbrev U64 (x : Int) : Prop := 0 ≤ x ∧ x ≤ 18446744073709551615
abbrev I64 (x : Int) : Prop := -9223372036854775808 ≤ x ∧ x ≤ 9223372036854775807
abbrev Rung := Int × Int × Unit
abbrev Shot := Int × Int × Unit
def satAdd (x y : Int) : Int := min (x + y) 18446744073709551615
def RungsOk (l : List Rung) : Prop := (l.length : Int) ≤ 1000 ∧ ∀ r ∈ l, U64 r.2.1
def nextP (l : List Rung) (k a : Int) : Int × Int × Bool :=
  if k < 0 ∨ (l.length : Int) < k then (0, 0, false)
  else if k = l.length then (9, 0, false)
  else ((l.getD k.toNat (0, 0, ())).1, satAdd a (l.getD k.toNat (0, 0, ())).2.1, true)
def stepsP : List Rung → Int → List Shot
  | [], a => [(a, 9, ())]
  | r :: l, a => (a, r.1, ()) :: stepsP l (satAdd a r.2.1)
def sameP (x y : List Shot) : Bool := decide (x = y)
end Go.Lad
