/- What the functions of decks and of streams of frames compute, as definitions. -/
import Derived.Test.YtfpmfjibbhedoaaFrmD
namespace Go.Str
open Go.Ab Go.RowKit Go.Frm
abbrev Deck := List Int × Int × Unit
def DeckOk (d : Deck) : Prop := (d.1.length : Int) ≤ 140737488351232 ∧ 0 ≤ d.2.1 ∧ d.2.1 ≤ d.1.length ∧ ∀ x ∈ d.1, I64 x
def dnext (d : Deck) (n : Int) : Int := if d.2.1 < d.1.length then (d.1.getD d.2.1.toNat 0) % n else 0
def dadv (d : Deck) : Deck := (d.1, (if d.2.1 < d.1.length then d.2.1 + 1 else d.2.1), ())
def ListOk (l : List Int) : Prop := (l.length : Int) ≤ 140737488351232 ∧ ∀ x ∈ l, I64 x
def outs : List ByteArray := [⟨#[111, 107]⟩, ⟨#[111]⟩, ⟨#[107]⟩, ⟨#[114, 101, 97, 100, 121, 10]⟩, ⟨#[117, 112]⟩, ⟨#[10, 103, 111, 111]⟩, ⟨#[49, 50, 120]⟩, ⟨#[97, 98, 97, 98, 99]⟩, ⟨#[99]⟩, ⟨#[10]⟩, ⟨#[122, 122]⟩, ⟨#[27, 91, 49, 109, 104, 105, 13, 10]⟩]
def outP (d : Deck) : List Int := bytesOfStr (outs.getD (dnext d 12).toNat ByteArray.empty)
def framesOf (ps : List (List Int)) : List Int := (ps.map fun p => (encF p).1).flatten
def payloads : Nat → Deck → List (List Int)
  | 0, _ => []
  | k + 1, d => outP d :: payloads k (dadv d)
def wantP (l : List Int) : List (List Int) := payloads (dnext (l, (0, ())) 6).toNat (dadv (l, (0, ())))
end Go.Str
