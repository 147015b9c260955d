/- Models of functions, printed by a program of this session out of Lean's own print of the translation, and the contracts' texts: Bac. -/

import Derived.Test.YtafjegmiildnkaaAbPure
import Derived.Test.YtafjegmiildnkaaBacD
import Derived.Test.YtafjegmiildnkaaRunM
import Derived.Test.YtafjegmiildnkaaEncM
import Derived.Test.YtafjegmiildnkaaDecM
namespace Go.Bac
open Go.Ab Go.RowKit Go.Run Go.Enc Go.Dec
set_option linter.unusedVariables false
set_option linter.unusedSimpArgs false
set_option maxRecDepth 100000
/- jobmux/jobmuxmill.Few -/
noncomputable def m_few (l : List Int) : Option Res :=
  some ⟨.val (false, [(none, ⟨.bool, decide ((l.length : Int) ≤ (200 : Int))⟩)]), []⟩
noncomputable def r_few (l : List Int) : Res := ⟨.val (false, [(none, ⟨.bool, decide ((l.length : Int) ≤ 200)⟩)]), []⟩
def c_few (l : List Int) : Prop := True
noncomputable def fewS : Go.Ab.Spec := fun xs => match xs with
  | [.val (false, [(none, ⟨.slice (.int .i64), l⟩)])] => .yes (True) (.isTrue trivial) ⟨.val (false, [(none, ⟨.bool, decide ((l.length : Int) ≤ 200)⟩)]), []⟩
  | _ => .no
/- jobmux/jobmuxlaw04.RunesBack -/
def sh_runesBack_0 : Shape := ⟨[.any, .any, .any, .val false [.own 0], .val false [.own 1], .any, .any, .any, .any, .any, .any, .any, .any, .any, .any, .val false [.hole (.slice (.int .i64))], .val false [.hole (.int .i64)], .val false [.hole (.int .i64)], .any, .any, .any, .any, .any, .any, .any, .any, .any, .any, .any, .any, .any, .any, .any, .any, .any, .any, .any, .any, .any, .any, .any, .any, .any, .any, .any, .any, .any, .any, .any, .any, .any, .any, .any, .any, .any, .any, .any, .any, .any], [(0, .rows 5 (.int .u8) false), (1, .rows 3 (.int .i64) false)]⟩
noncomputable def m_runesBack (k0 : Nat) (l : List Int) : Option Res :=
  bindv (decide ((l.length : Int) ≤ 200)) fun (r1 : Bool) =>
  if (!r1) = true then some ⟨.val (false, [(none, ⟨.bool, true⟩)]), []⟩
  else loopN (fun (d0 : (List Int) × Int × Int × (List Int) × (List Int) × Unit) again0 =>
   if (decide (d0.2.2.1 < d0.2.1)) = true then (if 0 ≤ d0.2.2.1 ∧ d0.2.2.1 < d0.1.length then need (Go.Run.I64 (d0.1.getD d0.2.2.1.toNat (0 : Int)) ∧ 0 < (1114112 : Int) ∧ Go.Run.I64 (1114112 : Int)) (bindv ((d0.1.getD d0.2.2.1.toNat (0 : Int)) % (1114112 : Int)) fun (r2 : Int) =>
     if (decide (r2 ≥ (55296 : Int))) = true then (if (decide (r2 ≤ (57343 : Int))) = true then need (Go.Run.I64 (65533 : Int)) (bindv (encP (65533 : Int)) fun (r3 : List Int) =>
       if (d0.2.2.2.1.length + r3.length) * 1 ≤ 140737488355328 ∧ d0.2.2.2.1.length + r3.length ≤ 9223372036854775807 then (if (d0.2.2.2.2.1.length + ([65533] : List Int).length) * 8 ≤ 140737488355328 ∧ d0.2.2.2.2.1.length + ([65533] : List Int).length ≤ 9223372036854775807 then again0 (d0.1, d0.2.1, Go.IntKind.wrap .i64 (d0.2.2.1 + (1 : Int)), d0.2.2.2.1 ++ r3, d0.2.2.2.2.1 ++ ([65533] : List Int), ())
        else none)
       else none)
      else need (Go.Run.I64 r2) (if (d0.2.2.2.1.length + (encP r2).length) * 1 ≤ 140737488355328 ∧ d0.2.2.2.1.length + (encP r2).length ≤ 9223372036854775807 then (if (d0.2.2.2.2.1.length + ([r2] : List Int).length) * 8 ≤ 140737488355328 ∧ d0.2.2.2.2.1.length + ([r2] : List Int).length ≤ 9223372036854775807 then again0 (d0.1, d0.2.1, Go.IntKind.wrap .i64 (d0.2.2.1 + (1 : Int)), d0.2.2.2.1 ++ (encP r2), d0.2.2.2.2.1 ++ ([r2] : List Int), ())
       else none)
      else none))
     else need (Go.Run.I64 r2) (if (d0.2.2.2.1.length + (encP r2).length) * 1 ≤ 140737488355328 ∧ d0.2.2.2.1.length + (encP r2).length ≤ 9223372036854775807 then (if (d0.2.2.2.2.1.length + ([r2] : List Int).length) * 8 ≤ 140737488355328 ∧ d0.2.2.2.2.1.length + ([r2] : List Int).length ≤ 9223372036854775807 then again0 (d0.1, d0.2.1, Go.IntKind.wrap .i64 (d0.2.2.1 + (1 : Int)), d0.2.2.2.1 ++ (encP r2), d0.2.2.2.2.1 ++ ([r2] : List Int), ())
      else none)
     else none))
    else none)
   else need (Go.Run.Len ((([] : List Int), ())).1 ∧ Go.Run.Len d0.2.2.2.1) (bindv (((decP ((([] : List Int), ())).1 d0.2.2.2.1).1, ())) fun (r4 : (List Int) × Unit) =>
   bindv ((decP ((([] : List Int), ())).1 d0.2.2.2.1).2) fun (r5 : List Int) =>
   if ((r4.1.length : Int) == (0 : Int)) = true then need (Go.Run.Len r5) (bindv (decide (r5 = d0.2.2.2.2.1)) fun (r6 : Bool) =>
    if r6 = true then need (Go.Run.Len (r4).1) (some ⟨.val (false, [(none, ⟨.bool, ((flushP (r4).1).length : Int) == (0 : Int)⟩)]), []⟩)
    else some ⟨.val (false, [(none, ⟨.bool, false⟩)]), []⟩)
   else some ⟨.val (false, [(none, ⟨.bool, false⟩)]), []⟩)) k0 (l, (l.length : Int), (0 : Int), ([] : List Int), ([] : List Int), ())
end Go.Bac
