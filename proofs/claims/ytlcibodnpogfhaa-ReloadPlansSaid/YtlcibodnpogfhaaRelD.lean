/- What becomes of jobs when a list of them is replaced, as definitions. -/
import Derived.Test.YtlcibodnpogfhaaMilD
namespace Go.Rel
open Go.Ab Go.RowKit
open Go.Mil (Job Var Rung)
abbrev Change := ByteArray × Int × Unit
def Few (l : List Job) : Prop := (l.length : Int) ≤ 1000000
def alikeP (a b : Job) : Bool := decide (a.1 = b.1 ∧ a.2.1 = b.2.1 ∧ a.2.2.1 = b.2.2.1 ∧ a.2.2.2.1 = b.2.2.2.1 ∧ a.2.2.2.2.1 = b.2.2.2.2.1 ∧ a.2.2.2.2.2.1 = b.2.2.2.2.2.1 ∧ a.2.2.2.2.2.2.1 = b.2.2.2.2.2.2.1 ∧ a.2.2.2.2.2.2.2.1 = b.2.2.2.2.2.2.2.1 ∧ a.2.2.2.2.2.2.2.2.1 = b.2.2.2.2.2.2.2.2.1 ∧ a.2.2.2.2.2.2.2.2.2.1 = b.2.2.2.2.2.2.2.2.2.1 ∧ a.2.2.2.2.2.2.2.2.2.2.1 = b.2.2.2.2.2.2.2.2.2.2.1 ∧ a.2.2.2.2.2.2.2.2.2.2.2.1 = b.2.2.2.2.2.2.2.2.2.2.2.1 ∧ a.2.2.2.2.2.2.2.2.2.2.2.2.1 = b.2.2.2.2.2.2.2.2.2.2.2.2.1)
def placeGo (name : ByteArray) : List Job → Int → Int
  | [], _ => -1
  | j :: l, i => if j.1 = name then i else placeGo name l (i + 1)
def placeP (l : List Job) (name : ByteArray) : Int := placeGo name l 0
def J0 : Job := (ByteArray.empty, ByteArray.empty, [], [], false, ByteArray.empty, 0, 0, 0, 0, 0, 0, [], 0, 0, ())
def kindP (next : List Job) (j : Job) : Int := if placeP next j.1 < 0 then 3 else if alikeP j (next.getD (placeP next j.1).toNat J0) = true then 1 else 2
def planP (old next : List Job) : List Change := old.map (fun j => (j.1, kindP next j, ())) ++ (next.filter (fun j => decide (placeP old j.1 < 0))).map (fun j => (j.1, 4, ()))
/-- What a contract asks of a job: that its rows are not too long. -/
def JobOk (j : Job) : Prop := (j.2.2.1.length : Int) ≤ 140737488355328 ∧ (j.2.2.2.1.length : Int) ≤ 140737488355328 ∧ (j.2.2.2.2.2.2.2.2.2.2.2.2.1.length : Int) ≤ 140737488355328
def JobsOk (l : List Job) : Prop := Few l ∧ ∀ j ∈ l, JobOk j
end Go.Rel
