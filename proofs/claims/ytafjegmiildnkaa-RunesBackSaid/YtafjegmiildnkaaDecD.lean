/- What the reference's decoder of characters computes, as definitions. -/
import Derived.Test.YtafjegmiildnkaaRunD
namespace Go.Dec
open Go.Ab Go.RowKit Go.Run
def Bytes (l : List Int) : Prop := (l.length : Int) ≤ 1099511627776 ∧ ∀ x ∈ l, 0 ≤ x ∧ x ≤ 255
def flushP (r : List Int) : List Int := if r.length = 0 ∨ validP r = false then [] else [65533]
def digit (b : List Int) (d : Int) (i : Nat) : Int := if i < b.length then b.getD i 0 % 64 else d
def numR (b : List Int) (d m : Int) : Nat → Int
  | 0 => b.getD 0 0 % m
  | i + 1 => numR b d m i * 64 + digit b d (i + 1)
def numP (b : List Int) (n d : Int) : Int := if n = 1 then b.getD 0 0 else numR b d (2 ^ (7 - n).toNat) (n - 1).toNat
end Go.Dec
