/- What a job's life is, as definitions. -/
import Derived.Test.YtinhdhaohmnbeaaBurD
import Derived.Test.YtinhdhaohmnbeaaLadD
namespace Go.Lif
open Go.Ab Go.RowKit
open Go.Lad (Rung Shot satAdd nextP stepsP RungsOk)
open Go.Bur (allowP trimP Us)
abbrev I64 (x : Int) : Prop := -9223372036854775808 ≤ x ∧ x ≤ 9223372036854775807
abbrev U64 (x : Int) : Prop := 0 ≤ x ∧ x ≤ 18446744073709551615
abbrev Deck := List Int × Int × Unit
def DeckOk (d : Deck) : Prop := (d.1.length : Int) ≤ 140737488351232 ∧ 0 ≤ d.2.1 ∧ d.2.1 ≤ d.1.length ∧ ∀ x ∈ d.1, I64 x
def dnext (d : Deck) (n : Int) : Int := if d.2.1 < d.1.length then (d.1.getD d.2.1.toNat 0) % n else 0
def dadv (d : Deck) : Deck := (d.1, (if d.2.1 < d.1.length then d.2.1 + 1 else d.2.1), ())
def drange (d : Deck) (lo hi : Int) : Int := lo + dnext d (hi - lo + 1)
def lenP (a : Int) : Int := if a < 1 then 0 else if a < 2 then 1 else if a < 4 then 2 else if a < 8 then 3 else if a < 16 then 4 else if a < 32 then 5 else if a < 64 then 6 else 7
def dblP (a n : Int) : Int := a * 2 ^ n.toNat
def delayP (b l n j : Int) : Int := satAdd (min l (dblP b n)) j
abbrev Var := ByteArray × ByteArray × Unit
abbrev Job := ByteArray × ByteArray × List Var × List ByteArray × Bool × ByteArray × Int × Int × Int × Int × Int × Int × List Rung × Int × Int × Unit
abbrev Life := Int × Int × Int × Int × List Int × Int × Bool × Int × Bool × Bool × Unit
/-! ### made jobs -/
def runs : List ByteArray := [⟨#[120]⟩, ⟨#[114, 117, 110, 32, 105, 116]⟩, ⟨#[97, 32, 34, 98, 34, 10]⟩, ⟨#[]⟩]
def pats : List ByteArray := [⟨#[111, 107]⟩, ⟨#[]⟩, ⟨#[114, 46, 42, 121, 36]⟩, ⟨#[94, 117, 112, 124, 103, 111, 43]⟩, ⟨#[91, 48, 45, 57, 93, 43, 120, 63]⟩, ⟨#[40, 97, 98, 41, 42, 99]⟩, ⟨#[94, 36]⟩]
def vars : List Var := [(⟨#[80]⟩, ⟨#[49]⟩, ()), (⟨#[81]⟩, ⟨#[0, 32, 113]⟩, ())]
def sigs : List Int := [15, 2, 1]
def ladGo : Nat → Deck → List Rung × Deck
  | 0, d => ([], d)
  | k + 1, d => (((sigs.getD (dnext d 3).toNat 0, dnext (dadv d) 9, ()) :: (ladGo k (dadv (dadv d))).1), (ladGo k (dadv (dadv d))).2)
/-- The deck behind the first numbers. -/
def adv : Nat → Deck → Deck
  | 0, d => d
  | k + 1, d => adv k (dadv d)
def envP (d : Deck) : List Var × Deck := if dnext d 4 = 0 then (vars.take (drange (dadv d) 1 2).toNat, dadv (dadv d)) else ([], dadv d)
def readyP (d : Deck) : (Bool × ByteArray) × Deck := if dnext d 2 = 0 then ((true, pats.getD (dnext (dadv d) 7).toNat ByteArray.empty), dadv (dadv d)) else ((false, ByteArray.empty), dadv d)
def jobP (d : Deck) (name : ByteArray) : Job × Deck :=
  let d1 := adv 7 d
  let e := envP d1
  let r := readyP e.2
  let l := ladGo (drange r.2 1 3).toNat (dadv r.2)
  ((name, runs.getD (dnext d 4).toNat ByteArray.empty, e.1, [], r.1.1, r.1.2, drange (adv 1 d) 1 3, dnext (adv 2 d) 6, dnext (adv 2 d) 6 + dnext (adv 6 d) 20, dnext (adv 3 d) 20, drange (adv 4 d) 1 4, drange (adv 5 d) 1 30, l.1, 0, 0, ()), l.2)
/-! ### lives -/
def restP : Life → Int → Life
  | (_, inc, runs, since, times, _, _, _, _, _, u), p => (p, inc, runs, since, times, 0, false, 0, false, false, u)
def stoppedP : Life → Life
  | (ph, inc, runs, since, times, due, armed, rung, halt, again, u) => if again = true then restP (ph, inc, 0, since, times, due, armed, rung, halt, again, u) 1 else restP (ph, inc, runs, since, times, due, armed, rung, halt, again, u) 9
def overP (j : Job) : Life → Int → Int → Life × Bool
  | (ph, inc, runs, since, times, due, armed, rung, halt, again, u), now, jit =>
    let a := allowP times j.2.2.2.2.2.2.2.2.2.2.1 now j.2.2.2.2.2.2.2.2.2.2.2.1
    if a.2 = true then ((5, inc, Go.IntKind.wrap .i64 (runs + 1), since, a.1, satAdd now (delayP j.2.2.2.2.2.2.2.1 j.2.2.2.2.2.2.2.2.1 runs jit), armed, rung, halt, again, u), true)
    else (restP (ph, inc, runs, since, a.1, due, armed, rung, halt, again, u) 8, false)
def climbP (j : Job) : Life → Int → Life × Int
  | (ph, inc, runs, since, times, _, _, rung, halt, again, u), at_ =>
    let n := nextP j.2.2.2.2.2.2.2.2.2.2.2.2.1 rung at_
    ((ph, inc, runs, since, times, n.2.1, n.2.2, Go.IntKind.wrap .i64 (rung + 1), halt, again, u), n.1)
def stoppingP (j : Job) : Life → Int → Life × Int
  | (_, inc, runs, since, times, due, armed, _, halt, again, u), now => climbP j (6, inc, runs, since, times, due, armed, 0, halt, again, u) now
def newP : Life := (1, 0, 0, 0, [], 0, false, 0, false, false, ())
def liveP (l : Life) : Bool := decide (l.1 = 2 ∨ l.1 = 3 ∨ l.1 = 4 ∨ l.1 = 6)
def spawnP : Life → Life × Bool
  | (ph, inc, runs, since, times, due, armed, rung, halt, again, u) => if ph = 1 then ((2, Go.IntKind.wrap .i64 (inc + 1), runs, since, times, due, armed, rung, halt, again, u), true) else ((ph, inc, runs, since, times, due, armed, rung, halt, again, u), false)
def spawnedP (j : Job) : Life → Bool → Bool → Int → Int → Life × Int × Bool
  | (ph, inc, runs, since, times, due, armed, rung, halt, again, u), ok, ready, now, jit =>
    if ph ≠ 2 then ((ph, inc, runs, since, times, due, armed, rung, halt, again, u), 0, false)
    else if ok = false ∧ halt = true then (stoppedP (ph, inc, runs, since, times, due, armed, rung, halt, again, u), 0, false)
    else if ok = false ∧ j.2.2.2.2.2.2.1 = 1 then (restP (ph, inc, runs, since, times, due, armed, rung, halt, again, u) 8, 0, false)
    else if ok = false then ((overP j (ph, inc, runs, since, times, due, armed, rung, halt, again, u) now jit).1, 0, (overP j (ph, inc, runs, since, times, due, armed, rung, halt, again, u) now jit).2)
    else if halt = true then ((stoppingP j (ph, inc, runs, now, times, due, armed, rung, halt, again, u) now).1, (stoppingP j (ph, inc, runs, now, times, due, armed, rung, halt, again, u) now).2, false)
    else ((if ready = true then 4 else 3, inc, runs, now, times, due, armed, rung, halt, again, u), 0, false)
def exitP (j : Job) : Life → Int → Int → Int → Life × Bool
  | (ph, inc, runs, since, times, due, armed, rung, halt, again, u), code, now, jit =>
    if ph = 3 ∨ ph = 4 then
      let r := if j.2.2.2.2.2.2.2.2.2.1 ≤ Go.Bur.subP now since then 0 else runs
      if j.2.2.2.2.2.2.1 = 3 ∨ (j.2.2.2.2.2.2.1 = 2 ∧ code ≠ 0) then overP j (ph, inc, r, since, times, due, armed, rung, halt, again, u) now jit
      else if code = 0 then (restP (ph, inc, r, since, times, due, armed, rung, halt, again, u) 7, false)
      else (restP (ph, inc, r, since, times, due, armed, rung, halt, again, u) 8, false)
    else if ph = 6 then (stoppedP (ph, inc, runs, since, times, due, armed, rung, halt, again, u), false)
    else ((ph, inc, runs, since, times, due, armed, rung, halt, again, u), false)
def fireP (j : Job) : Life → Life × Int
  | (ph, inc, runs, since, times, due, armed, rung, halt, again, u) =>
    if ph = 5 then (restP (ph, inc, runs, since, times, due, armed, rung, halt, again, u) 1, 0)
    else if ph = 6 ∧ armed = true then climbP j (ph, inc, runs, since, times, due, armed, rung, halt, again, u) due
    else ((ph, inc, runs, since, times, due, armed, rung, halt, again, u), 0)
def startP : Life → Life
  | (ph, inc, runs, since, times, due, armed, rung, halt, again, u) =>
    if ph = 7 ∨ ph = 8 ∨ ph = 9 then restP (ph, inc, 0, since, [], due, armed, rung, halt, again, u) 1 else (ph, inc, runs, since, times, due, armed, rung, halt, again, u)
def haltP (j : Job) : Life → Int → Bool → Life × Int
  | (ph, inc, runs, since, times, due, armed, rung, halt, again, u), now, ag =>
    if ph = 2 then ((ph, inc, runs, since, times, due, armed, rung, true, ag, u), 0)
    else if ph = 3 ∨ ph = 4 then stoppingP j (ph, inc, runs, since, times, due, armed, rung, halt, ag, u) now
    else if ph = 6 then ((ph, inc, runs, since, times, due, armed, rung, halt, ag, u), 0)
    else ((ph, inc, runs, since, times, due, armed, rung, halt, again, u), 0)
def stopP (j : Job) : Life → Int → Life × Int
  | (ph, inc, runs, since, times, due, armed, rung, halt, again, u), now =>
    if ph = 1 ∨ ph = 5 then (restP (ph, inc, runs, since, times, due, armed, rung, halt, again, u) 9, 0) else haltP j (ph, inc, runs, since, times, due, armed, rung, halt, again, u) now false
def restartP (j : Job) : Life → Int → Life × Int
  | (ph, inc, runs, since, times, due, armed, rung, halt, again, u), now =>
    if ph = 7 ∨ ph = 8 ∨ ph = 9 then (startP (ph, inc, runs, since, times, due, armed, rung, halt, again, u), 0)
    else if ph = 5 then (restP (ph, inc, runs, since, times, due, armed, rung, halt, again, u) 1, 0)
    else haltP j (ph, inc, runs, since, times, due, armed, rung, halt, again, u) now true
/-- What a contract asks of a job, and of a life. -/
def JobOk (j : Job) : Prop := RungsOk j.2.2.2.2.2.2.2.2.2.2.2.2.1 ∧ (0 ≤ j.2.2.2.2.2.2.2.1 ∧ j.2.2.2.2.2.2.2.1 ≤ 100) ∧ U64 j.2.2.2.2.2.2.2.2.1 ∧ U64 j.2.2.2.2.2.2.2.2.2.1 ∧ U64 j.2.2.2.2.2.2.2.2.2.2.2.1
def LifeOk (l : Life) : Prop := (0 ≤ l.2.2.1 ∧ l.2.2.1 ≤ 8) ∧ U64 l.2.2.2.1 ∧ Us l.2.2.2.2.1 ∧ U64 l.2.2.2.2.2.1 ∧ I64 l.2.2.2.2.2.2.2.1
end Go.Lif
