/- What the encoder of characters computes, as definitions. -/
import Derived.Test.YtafjegmiildnkaaRunD
namespace Go.Enc
open Go.Ab Go.RowKit Go.Run
def isP (r : Int) : Bool := decide (0 ≤ r ∧ r ≤ 1114111 ∧ (r < 55296 ∨ 57343 < r))
def or64 (x y : Int) : Int := Go.IntKind.wrap .i64 ((BitVec.ofInt 64 x ||| BitVec.ofInt 64 y).toNat : Int)
def and64 (x y : Int) : Int := Go.IntKind.wrap .i64 ((BitVec.ofInt 64 x &&& BitVec.ofInt 64 y).toNat : Int)
def sh (x s : Int) : Int := Int.fdiv x (2 ^ min s.toNat 64)
def tailP (r s : Int) : Int := Go.IntKind.wrap .u8 (or64 128 (and64 (sh r s) 63))
def enc1 (r : Int) : List Int :=
  if r < 128 then [Go.IntKind.wrap .u8 r]
  else if r < 2048 then [Go.IntKind.wrap .u8 (or64 192 (sh r 6)), tailP r 0]
  else if r < 65536 then [Go.IntKind.wrap .u8 (or64 224 (sh r 12)), tailP r 6, tailP r 0]
  else [Go.IntKind.wrap .u8 (or64 240 (sh r 18)), tailP r 12, tailP r 6, tailP r 0]
def encP (r : Int) : List Int := enc1 (if isP r = true then r else 65533)
end Go.Enc
