/- What the decoder of characters computes, as definitions. -/
import Derived.Test.YtafjegmiildnkaaAbPure
namespace Go.Run
open Go.Ab Go.RowKit
abbrev I64 (x : Int) : Prop := -9223372036854775808 ≤ x ∧ x ≤ 9223372036854775807
abbrev Deck := List Int × Int × Unit
def DeckOk (d : Deck) : Prop := (d.1.length : Int) ≤ 140737488351232 ∧ 0 ≤ d.2.1 ∧ d.2.1 ≤ d.1.length ∧ ∀ x ∈ d.1, I64 x
def dnext (d : Deck) (n : Int) : Int := if d.2.1 < d.1.length then (d.1.getD d.2.1.toNat 0) % n else 0
def dadv (d : Deck) : Deck := (d.1, (if d.2.1 < d.1.length then d.2.1 + 1 else d.2.1), ())
def ListOk (l : List Int) : Prop := (l.length : Int) ≤ 140737488351232 ∧ ∀ x ∈ l, I64 x
def Len (l : List Int) : Prop := (l.length : Int) ≤ 1099511627776
def table : List Int := [65, 127, 128, 143, 144, 159, 160, 191, 192, 193, 194, 223, 224, 226, 237, 239, 240, 241, 244, 245, 255]
def oddGo : Nat → Deck → List Int
  | 0, _ => []
  | n + 1, d => if d.2.1 < d.1.length then table.getD (dnext d 21).toNat 0 :: oddGo n (dadv d) else []
def oddP (l : List Int) : List Int := oddGo 60 (l, (0, ()))
def sizeP (b : Int) : Int := if b < 128 then 1 else if 194 ≤ b ∧ b ≤ 223 then 2 else if 224 ≤ b ∧ b ≤ 239 then 3 else if 240 ≤ b ∧ b ≤ 244 then 4 else 0
def secondP (f b : Int) : Bool := decide ((if f = 224 then 160 else if f = 240 then 144 else 128) ≤ b ∧ b ≤ (if f = 237 then 159 else if f = 244 then 143 else 191))
def okAt (l : List Int) (i : Nat) : Bool := if i = 0 then true else if i = 1 then secondP (l.getD 0 0) (l.getD i 0) else decide (128 ≤ l.getD i 0 ∧ l.getD i 0 ≤ 191)
def partP (l : List Int) : Bool × Bool :=
  if l.length = 0 ∨ sizeP (l.getD 0 0) < l.length then (false, false)
  else if (List.range l.length).all (okAt l) = true then (decide ((l.length : Int) ≠ sizeP (l.getD 0 0)), decide ((l.length : Int) = sizeP (l.getD 0 0))) else (false, false)
def validP (r : List Int) : Bool := decide (r.length = 0) || (partP r).1
def or64 (x y : Int) : Int := Go.IntKind.wrap .i64 ((BitVec.ofInt 64 x ||| BitVec.ofInt 64 y).toNat : Int)
def and64 (x y : Int) : Int := Go.IntKind.wrap .i64 ((BitVec.ofInt 64 x &&& BitVec.ofInt 64 y).toNat : Int)
def and8 (x y : Int) : Int := Go.IntKind.wrap .u8 ((BitVec.ofInt 8 x &&& BitVec.ofInt 8 y).toNat : Int)
def charGo : Int → List Int → Int
  | r, [] => r
  | r, b :: t => charGo (or64 (Go.IntKind.wrap .i64 (r * 2 ^ min (6 : Int).toNat 64)) (Go.IntKind.wrap .i64 (and8 b 63))) t
def charP (l : List Int) : Int :=
  charGo (if (1 : Int) < l.length then and64 (Go.IntKind.wrap .i64 (l.getD 0 0)) (Int.fdiv 127 (2 ^ min ((l.length : Int)).toNat 64)) else Go.IntKind.wrap .i64 (l.getD 0 0)) (l.drop 1)
def feed0 (b : Int) : List Int × List Int := if (partP [b]).1 = true then ([b], []) else if (partP [b]).2 = true then ([], [charP [b]]) else ([], [65533])
def feed (r : List Int) (b : Int) : List Int × List Int :=
  if (partP (r ++ [b])).1 = true then (r ++ [b], []) else if (partP (r ++ [b])).2 = true then ([], [charP (r ++ [b])])
  else if 0 < r.length then ((feed0 b).1, 65533 :: (feed0 b).2) else ([], [65533])
def decGo : List Int → List Int → List Int × List Int
  | r, [] => (r, [])
  | r, b :: bs => ((decGo (feed r b).1 bs).1, (feed r b).2 ++ (decGo (feed r b).1 bs).2)
def decP (r b : List Int) : List Int × List Int := decGo (if validP r = true then r else []) b
end Go.Run
