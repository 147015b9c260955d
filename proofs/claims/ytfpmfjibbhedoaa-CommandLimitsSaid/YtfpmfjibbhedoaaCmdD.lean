/- What the functions of commands compute, as definitions. -/
import Derived.Test.YtfpmfjibbhedoaaAbPure
namespace Go.Cmd
open Go.Ab Go.RowKit
abbrev I64 (x : Int) : Prop := -9223372036854775808 ≤ x ∧ x ≤ 9223372036854775807
abbrev Command := Int × Int × Int × ByteArray × List Int × Unit
def Proper (c : Command) : Prop :=
  (c.1 = 1 ∧ 1 ≤ c.2.1 ∧ c.2.1 ≤ 30 ∧ 1 ≤ c.2.2.1 ∧ c.2.2.1 ≤ 100 ∧ c.2.2.2.1.size = 0 ∧ c.2.2.2.2.1.length = 0) ∨
  ((c.1 = 2 ∨ c.1 = 4 ∨ c.1 = 5 ∨ c.1 = 6) ∧ c.2.1 = 0 ∧ c.2.2.1 = 0 ∧ 1 ≤ c.2.2.2.1.size ∧ c.2.2.2.1.size ≤ 32 ∧ c.2.2.2.2.1.length = 0) ∨
  ((c.1 = 3 ∨ c.1 = 7) ∧ c.2.1 = 0 ∧ c.2.2.1 = 0 ∧ c.2.2.2.1.size = 0 ∧ c.2.2.2.2.1.length < 4096) ∨
  ((c.1 = 8 ∨ c.1 = 9) ∧ c.2.1 = 0 ∧ c.2.2.1 = 0 ∧ c.2.2.2.1.size = 0 ∧ c.2.2.2.2.1.length = 0)
instance (c : Command) : Decidable (Proper c) := by unfold Proper; infer_instance
def properP (c : Command) : Bool := decide (Proper c)
def cleanP (c : Command) : Command :=
  if c.1 = 1 then (c.1, c.2.1, c.2.2.1, ByteArray.empty, [], ())
  else if c.1 = 2 ∨ c.1 = 4 ∨ c.1 = 5 ∨ c.1 = 6 then (c.1, 0, 0, c.2.2.2.1, [], ())
  else if c.1 = 3 ∨ c.1 = 7 then (c.1, 0, 0, ByteArray.empty, c.2.2.2.2.1, ())
  else (c.1, 0, 0, ByteArray.empty, [], ())
def sameP (a b : Command) : Bool :=
  a.1 == b.1 && (a.2.1 == b.2.1 && (a.2.2.1 == b.2.2.1 && (a.2.2.2.1.toList == b.2.2.2.1.toList && (strOfBytes a.2.2.2.2.1).toList == (strOfBytes b.2.2.2.2.1).toList)))
def w8 (x : Int) : Int := Go.IntKind.wrap .u8 x
def encP (c : Command) : List Int × Int :=
  if properP c = true then
    (if c.1 = 1 then [w8 c.1] ++ [w8 (Int.fdiv c.2.1 (2 ^ min (8 : Int).toNat 64)), w8 c.2.1, w8 (Int.fdiv c.2.2.1 (2 ^ min (8 : Int).toNat 64)), w8 c.2.2.1] else ([w8 c.1] ++ bytesOfStr c.2.2.2.1) ++ c.2.2.2.2.1, 0)
  else ([], 280)
end Go.Cmd
