/- What the functions of frames compute, as definitions. -/
import Derived.Test.YtfpmfjibbhedoaaAbPure
namespace Go.Frm
open Go.Ab Go.RowKit
abbrev I64 (x : Int) : Prop := -9223372036854775808 ≤ x ∧ x ≤ 9223372036854775807
def BytesOk (l : List Int) : Prop := (l.length : Int) ≤ 1099511627776 ∧ ∀ x ∈ l, 0 ≤ x ∧ x ≤ 255
def numP (l : List Int) : Int := l.getD 0 0 * 16777216 + l.getD 1 0 * 65536 + l.getD 2 0 * 256 + l.getD 3 0
def encF (b : List Int) : List Int × Int :=
  if (b.length : Int) ≤ 4096 then ([0, 0, (b.length : Int) / 256 % 256, (b.length : Int) % 256] ++ b, 0) else ([], 1)
/-- What is read from a place on: the payloads, the place where it ends, the error. -/
def splitF (b : List Int) : Nat → Nat → List (List Int) → List (List Int) × Int × Int
  | 0, pos, out => (out, pos, 0)
  | n + 1, pos, out =>
    if b.length < pos + 4 then (out, pos, 0)
    else if 4096 < numP (b.drop pos) then (out, pos, 1)
    else if b.length < pos + 4 + (numP (b.drop pos)).toNat then (out, pos, 0)
    else splitF b n (pos + 4 + (numP (b.drop pos)).toNat) (out ++ [(b.drop (pos + 4)).take (numP (b.drop pos)).toNat])
def splitP (b : List Int) : List (List Int) × Int × Int := splitF b (b.length + 1) 0 []
def sameF (x y : List (List Int)) : Bool := decide (x.map strOfBytes = y.map strOfBytes)
end Go.Frm
