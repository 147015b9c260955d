/- Lists of jobs of which some may have faults, as definitions. -/
import Derived.Test.YtlcibodnpogfhaaRelD
namespace Go.Rlq
open Go.Ab Go.RowKit Go.Mil Go.Rel
def names5 : List ByteArray := [⟨#[97]⟩, ⟨#[98]⟩, ⟨#[99]⟩, ⟨#[100]⟩, ⟨#[120]⟩]
def nameP (d : Deck) : ByteArray := names5.getD (dnext d 5).toNat ByteArray.empty
def bads : List ByteArray := [⟨#[40]⟩, ⟨#[42]⟩, ⟨#[91, 97]⟩, ⟨#[97, 94, 98]⟩, ⟨#[91, 94, 120, 45, 120, 93]⟩, ⟨#[92, 113]⟩, ⟨#[36, 97]⟩]
def sigs3 : List Int := [0, 9, 7]
def editP (q : Int) (d : Deck) : Job → Job × Deck
  | (n, r, e, s, h, p, t, b, c, st, bu, w, l, li, co, u) =>
    if q = 0 then ((nameP d, r, e, s, h, p, t, b, c, st, bu, w, l, li, co, u), dadv d)
    else if q = 1 then ((n, r, e, [nameP d] ++ s, h, p, t, b, c, st, bu, w, l, li, co, u), dadv d)
    else if q = 2 then ((n, r, e, s, true, bads.getD (dnext d 7).toNat ByteArray.empty, t, b, c, st, bu, w, l, li, co, u), dadv d)
    else if q = 3 then ((n, r, e, s, h, p, t, b, dnext d 4, st, bu, w, l, li, co, u), dadv d)
    else if q = 4 then ((n, r, e, s, h, p, t, b, c, st, dnext d 30 - 3, w, l, li, co, u), dadv d)
    else if q = 5 then ((n, r, e, s, h, p, t, b, c, st, bu, dnext d 2, l, li, co, u), dadv d)
    else if q = 6 then ((n, r, e, s, h, p, t, b, c, st, bu, w, [(sigs3.getD (dnext d 3).toNat 0, 0, ())] ++ l, li, co, u), dadv d)
    else ((n, r, e, s, h, p, dnext d 5, b, c, st, bu, w, l, li, co, u), dadv d)
def lineP (li co : Int) : Job → Job
  | (n, r, e, s, h, p, t, b, c, st, bu, w, l, _, _, u) => (n, r, e, s, h, p, t, b, c, st, bu, w, l, li, co, u)
def looseGo : Nat → Deck → List Job → List Job × Deck
  | 0, d, out => (out, d)
  | k + 1, d, out =>
    let i := (dnext d out.length).toNat
    let e := editP (dnext (dadv d) 8) (dadv (dadv d)) (out.getD i J0)
    looseGo k (dadv (dadv e.2)) (out.set i (lineP (dnext e.2 5) (dnext (dadv e.2) 5) e.1))
def looseP (d : Deck) : List Job × Deck := looseGo (dnext (jobsP d).2 3).toNat (dadv (jobsP d).2) (jobsP d).1
end Go.Rlq
