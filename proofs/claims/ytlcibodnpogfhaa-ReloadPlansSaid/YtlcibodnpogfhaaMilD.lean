/- Made inputs, as definitions: decks of numbers, jobs. -/
import Derived.Test.YtlcibodnpogfhaaAbPure
namespace Go.Mil
open Go.Ab Go.RowKit
abbrev I64 (x : Int) : Prop := -9223372036854775808 ≤ x ∧ x ≤ 9223372036854775807
abbrev U64 (x : Int) : Prop := 0 ≤ x ∧ x ≤ 18446744073709551615
abbrev Rung := Int × Int × Unit
abbrev Deck := List Int × Int × Unit
def DeckOk (d : Deck) : Prop := (d.1.length : Int) ≤ 140737488351232 ∧ 0 ≤ d.2.1 ∧ d.2.1 ≤ d.1.length ∧ ∀ x ∈ d.1, I64 x
def dnext (d : Deck) (n : Int) : Int := if d.2.1 < d.1.length then (d.1.getD d.2.1.toNat 0) % n else 0
def dadv (d : Deck) : Deck := (d.1, (if d.2.1 < d.1.length then d.2.1 + 1 else d.2.1), ())
def drange (d : Deck) (lo hi : Int) : Int := lo + dnext d (hi - lo + 1)
abbrev Var := ByteArray × ByteArray × Unit
abbrev Job := ByteArray × ByteArray × List Var × List ByteArray × Bool × ByteArray × Int × Int × Int × Int × Int × Int × List Rung × Int × Int × Unit
def runs : List ByteArray := [⟨#[120]⟩, ⟨#[114, 117, 110, 32, 105, 116]⟩, ⟨#[97, 32, 34, 98, 34, 10]⟩, ⟨#[]⟩]
def pats : List ByteArray := [⟨#[111, 107]⟩, ⟨#[]⟩, ⟨#[114, 46, 42, 121, 36]⟩, ⟨#[94, 117, 112, 124, 103, 111, 43]⟩, ⟨#[91, 48, 45, 57, 93, 43, 120, 63]⟩, ⟨#[40, 97, 98, 41, 42, 99]⟩, ⟨#[94, 36]⟩]
def vars : List Var := [(⟨#[80]⟩, ⟨#[49]⟩, ()), (⟨#[81]⟩, ⟨#[0, 32, 113]⟩, ())]
def sigs : List Int := [15, 2, 1]
def names : List ByteArray := [⟨#[97]⟩, ⟨#[98]⟩, ⟨#[99]⟩, ⟨#[100]⟩]
def ladGo : Nat → Deck → List Rung × Deck
  | 0, d => ([], d)
  | k + 1, d => (((sigs.getD (dnext d 3).toNat 0, dnext (dadv d) 9, ()) :: (ladGo k (dadv (dadv d))).1), (ladGo k (dadv (dadv d))).2)
/-- The deck behind the first numbers. -/
def adv : Nat → Deck → Deck
  | 0, d => d
  | k + 1, d => adv k (dadv d)
def envP (d : Deck) : List Var × Deck := if dnext d 4 = 0 then (vars.take (drange (dadv d) 1 2).toNat, dadv (dadv d)) else ([], dadv d)
def needsGo : List ByteArray → Deck → List ByteArray × Deck
  | [], d => ([], d)
  | n :: l, d => (if dnext d 3 = 0 then n :: (needsGo l (dadv d)).1 else (needsGo l (dadv d)).1, (needsGo l (dadv d)).2)
def readyP (d : Deck) : (Bool × ByteArray) × Deck := if dnext d 2 = 0 then ((true, pats.getD (dnext (dadv d) 7).toNat ByteArray.empty), dadv (dadv d)) else ((false, ByteArray.empty), dadv d)
def jobP (d : Deck) (name : ByteArray) (others : List ByteArray) : Job × Deck :=
  let d1 := adv 7 d
  let e := envP d1
  let n := needsGo others e.2
  let r := readyP n.2
  let l := ladGo (drange r.2 1 3).toNat (dadv r.2)
  ((name, runs.getD (dnext d 4).toNat ByteArray.empty, e.1, n.1, r.1.1, r.1.2, drange (adv 1 d) 1 3, dnext (adv 2 d) 6, dnext (adv 2 d) 6 + dnext (adv 6 d) 20, dnext (adv 3 d) 20, drange (adv 4 d) 1 4, drange (adv 5 d) 1 30, l.1, 0, 0, ()), l.2)
def jobsGo (t : Int) : Nat → Nat → Deck → List Job → List Job × Deck
  | 0, _, d, out => (out, d)
  | k + 1, i, d, out => jobsGo t k (i + 1) (jobP d (names.getD i ByteArray.empty) (names.take i)).2 (if t = 0 then out ++ [(jobP d (names.getD i ByteArray.empty) (names.take i)).1] else (jobP d (names.getD i ByteArray.empty) (names.take i)).1 :: out)
def jobsP (d : Deck) : List Job × Deck := jobsGo (dnext d 2) (drange (dadv d) 1 4).toNat 0 (dadv (dadv d)) []
end Go.Mil
