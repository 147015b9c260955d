/- Models of functions, printed by a program of this session out of Lean's own print of the translation, and the contracts' texts: Lad. -/

import Derived.Test.YtfpmfjibbhedoaaAbPure
import Derived.Test.YtfpmfjibbhedoaaLadD
namespace Go.Lad
open Go.Ab Go.RowKit
set_option linter.unusedVariables false
set_option linter.unusedSimpArgs false
set_option maxRecDepth 100000
/- jobmux/ticks.Add -/
noncomputable def m_add (x : Int) (y : Int) : Option Res :=
  if 0 ≤ x ∧ 0 ≤ y ∧ 0 ≤ (0 : Int) ∧ (0 : Int) ≤ 1 then (if (((x + y + (0 : Int)) / 18446744073709551616) != (0 : Int)) = true then some ⟨.val (false, [(none, ⟨.int .u64, (18446744073709551615 : Int)⟩)]), []⟩
   else some ⟨.val (false, [(none, ⟨.int .u64, (x + y + (0 : Int)) % 18446744073709551616⟩)]), []⟩)
  else none
noncomputable def r_add (x : Int) (y : Int) : Res := ⟨.val (false, [(none, ⟨.int .u64, satAdd x y⟩)]), []⟩
def c_add (x : Int) (y : Int) : Prop := U64 x ∧ U64 y
noncomputable def addS : Go.Ab.Spec := fun xs => match xs with
  | [.val (false, [(none, ⟨.int .u64, x⟩)]), .val (false, [(none, ⟨.int .u64, y⟩)])] => .yes (U64 x ∧ U64 y) (Classical.propDecidable _) ⟨.val (false, [(none, ⟨.int .u64, satAdd x y⟩)]), []⟩
  | _ => .no
/- jobmux/jobmuxref01.Add -/
noncomputable def m_rAdd (x : Int) (y : Int) : Option Res :=
  if 0 ≤ x ∧ 0 ≤ y ∧ 0 ≤ (0 : Int) ∧ (0 : Int) ≤ 1 then (if (((x + y + (0 : Int)) / 18446744073709551616) == (1 : Int)) = true then some ⟨.val (false, [(none, ⟨.int .u64, (18446744073709551615 : Int)⟩)]), []⟩
   else some ⟨.val (false, [(none, ⟨.int .u64, (x + y + (0 : Int)) % 18446744073709551616⟩)]), []⟩)
  else none
noncomputable def r_rAdd (x : Int) (y : Int) : Res := ⟨.val (false, [(none, ⟨.int .u64, satAdd x y⟩)]), []⟩
def c_rAdd (x : Int) (y : Int) : Prop := U64 x ∧ U64 y
noncomputable def rAddS : Go.Ab.Spec := fun xs => match xs with
  | [.val (false, [(none, ⟨.int .u64, x⟩)]), .val (false, [(none, ⟨.int .u64, y⟩)])] => .yes (U64 x ∧ U64 y) (Classical.propDecidable _) ⟨.val (false, [(none, ⟨.int .u64, satAdd x y⟩)]), []⟩
  | _ => .no
/- jobmux/jobmuxmill.Mod -/
noncomputable def m_mod (x : Int) (y : Int) : Option Res :=
  if y ≠ 0 then (if (decide ((Int.tmod x y) < (0 : Int))) = true then some ⟨.val (false, [(none, ⟨.int .i64, Go.IntKind.wrap .i64 ((Int.tmod x y) + y)⟩)]), []⟩
   else some ⟨.val (false, [(none, ⟨.int .i64, Int.tmod x y⟩)]), []⟩)
  else none
noncomputable def r_mod (x : Int) (y : Int) : Res := ⟨.val (false, [(none, ⟨.int .i64, x % y⟩)]), []⟩
def c_mod (x : Int) (y : Int) : Prop := I64 x ∧ 0 < y ∧ I64 y
noncomputable def modS : Go.Ab.Spec := fun xs => match xs with
  | [.val (false, [(none, ⟨.int .i64, x⟩)]), .val (false, [(none, ⟨.int .i64, y⟩)])] => .yes (I64 x ∧ 0 < y ∧ I64 y) (Classical.propDecidable _) ⟨.val (false, [(none, ⟨.int .i64, x % y⟩)]), []⟩
  | _ => .no
/- jobmux/ladder.Next -/
noncomputable def m_next (l : List (Int × (Int × Unit))) (k : Int) (a : Int) : Option Res :=
  if (decide (k < (0 : Int))) = false then (if (decide (k > (l.length : Int))) = true then some ⟨.tup [(false, [(none, ⟨.int .i64, (0 : Int)⟩)]), (false, [(none, ⟨.int .u64, (0 : Int)⟩)]), (false, [(none, ⟨.bool, false⟩)])], []⟩
   else if (k == (l.length : Int)) = true then some ⟨.tup [(false, [(none, ⟨.int .i64, (9 : Int)⟩)]), (false, [(none, ⟨.int .u64, (0 : Int)⟩)]), (false, [(none, ⟨.bool, false⟩)])], []⟩
   else if 0 ≤ k ∧ k < l.length then (if 0 ≤ k ∧ k < l.length then need (U64 a ∧ U64 (((l.getD k.toNat ((0 : Int), ((0 : Int), ()))).2).1)) (bindv (satAdd a (((l.getD k.toNat ((0 : Int), ((0 : Int), ()))).2).1)) fun (r1 : Int) =>
     some ⟨.tup [(false, [(none, ⟨.int .i64, (l.getD k.toNat ((0 : Int), ((0 : Int), ()))).1⟩)]), (false, [(none, ⟨.int .u64, r1⟩)]), (false, [(none, ⟨.bool, true⟩)])], []⟩)
    else none)
   else none)
  else some ⟨.tup [(false, [(none, ⟨.int .i64, (0 : Int)⟩)]), (false, [(none, ⟨.int .u64, (0 : Int)⟩)]), (false, [(none, ⟨.bool, false⟩)])], []⟩
noncomputable def r_next (l : List (Int × (Int × Unit))) (k : Int) (a : Int) : Res := ⟨.tup [(false, [(none, ⟨.int .i64, (nextP l k a).1⟩)]), (false, [(none, ⟨.int .u64, (nextP l k a).2.1⟩)]), (false, [(none, ⟨.bool, (nextP l k a).2.2⟩)])], []⟩
def c_next (l : List (Int × (Int × Unit))) (k : Int) (a : Int) : Prop := RungsOk l ∧ I64 k ∧ U64 a
noncomputable def nextS : Go.Ab.Spec := fun xs => match xs with
  | [.val (false, [(none, ⟨.slice (.pair (.int .i64) (.pair (.int .u64) (.unit))), l⟩)]), .val (false, [(none, ⟨.int .i64, k⟩)]), .val (false, [(none, ⟨.int .u64, a⟩)])] => .yes (RungsOk l ∧ I64 k ∧ U64 a) (Classical.propDecidable _) ⟨.tup [(false, [(none, ⟨.int .i64, (nextP l k a).1⟩)]), (false, [(none, ⟨.int .u64, (nextP l k a).2.1⟩)]), (false, [(none, ⟨.bool, (nextP l k a).2.2⟩)])], []⟩
  | _ => .no
/- jobmux/ladder.Steps -/
def sh_steps_0 : Shape := ⟨[.val false [.hole (.slice (.pair (.int .i64) (.pair (.int .u64) (.unit))))], .val false [.hole (.int .u64)], .any, .any, .any, .val false [.own 1], .any, .any, .any, .any, .any, .any, .val false [.hole (.int .i64)], .val false [.hole (.int .i64)], .any, .any, .any, .any, .any, .any, .any, .any, .any, .any, .any, .any, .any, .any, .any, .any, .any, .any, .any], [(1, .rows 44 (.pair (.int .u64) (.pair (.int .i64) (.unit))) false)]⟩
noncomputable def m_steps (k0 : Nat) (l : List (Int × (Int × Unit))) (a : Int) : Option Res :=
  loopN (fun (d0 : (List (Int × (Int × Unit))) × Int × Int × Int × (List (Int × (Int × Unit))) × Unit) again0 =>
   if (decide (d0.2.2.2.1 < d0.2.2.1)) = true then need (RungsOk d0.1 ∧ I64 d0.2.2.2.1 ∧ U64 d0.2.1) (bindv ((nextP d0.1 d0.2.2.2.1 d0.2.1).1) fun (r1 : Int) =>
    bindv ((nextP d0.1 d0.2.2.2.1 d0.2.1).2.1) fun (r2 : Int) =>
    bindv ((nextP d0.1 d0.2.2.2.1 d0.2.1).2.2) fun (r3 : Bool) =>
    if (d0.2.2.2.2.1.length + ([(d0.2.1, (r1, ()))] : List (Int × (Int × Unit))).length) * 16 ≤ 140737488355328 ∧ d0.2.2.2.2.1.length + ([(d0.2.1, (r1, ()))] : List (Int × (Int × Unit))).length ≤ 9223372036854775807 then again0 (d0.1, r2, d0.2.2.1, Go.IntKind.wrap .i64 (d0.2.2.2.1 + (1 : Int)), d0.2.2.2.2.1 ++ ([(d0.2.1, (r1, ()))] : List (Int × (Int × Unit))), ())
    else none)
   else some ⟨.val (false, [(some 44, ⟨.slice (.pair (.int .u64) (.pair (.int .i64) (.unit))), d0.2.2.2.2.1⟩)]), []⟩) k0 (l, a, Go.IntKind.wrap .i64 ((l.length : Int) + (1 : Int)), (0 : Int), ([] : List (Int × (Int × Unit))), ())
noncomputable def r_steps (l : List (Int × (Int × Unit))) (a : Int) : Res := ⟨.val (false, [(some 44, ⟨.slice (.pair (.int .u64) (.pair (.int .i64) (.unit))), stepsP l a⟩)]), []⟩
def c_steps (l : List (Int × (Int × Unit))) (a : Int) : Prop := RungsOk l ∧ U64 a
noncomputable def stepsS : Go.Ab.Spec := fun xs => match xs with
  | [.val (false, [(none, ⟨.slice (.pair (.int .i64) (.pair (.int .u64) (.unit))), l⟩)]), .val (false, [(none, ⟨.int .u64, a⟩)])] => .yes (RungsOk l ∧ U64 a) (Classical.propDecidable _) ⟨.val (false, [(some 44, ⟨.slice (.pair (.int .u64) (.pair (.int .i64) (.unit))), stepsP l a⟩)]), []⟩
  | _ => .no
/- jobmux/jobmuxref21.Next -/
noncomputable def m_rnext (l : List (Int × (Int × Unit))) (k : Int) (a : Int) : Option Res :=
  if (decide (k < (0 : Int))) = false then (if (decide (k > (l.length : Int))) = true then some ⟨.tup [(false, [(none, ⟨.int .i64, (0 : Int)⟩)]), (false, [(none, ⟨.int .u64, (0 : Int)⟩)]), (false, [(none, ⟨.bool, false⟩)])], []⟩
   else if (k == (l.length : Int)) = true then some ⟨.tup [(false, [(none, ⟨.int .i64, (9 : Int)⟩)]), (false, [(none, ⟨.int .u64, (0 : Int)⟩)]), (false, [(none, ⟨.bool, false⟩)])], []⟩
   else if 0 ≤ k ∧ k < l.length then (if 0 ≤ k ∧ k < l.length then need (U64 a ∧ U64 (((l.getD k.toNat ((0 : Int), ((0 : Int), ()))).2).1)) (bindv (satAdd a (((l.getD k.toNat ((0 : Int), ((0 : Int), ()))).2).1)) fun (r1 : Int) =>
     some ⟨.tup [(false, [(none, ⟨.int .i64, (l.getD k.toNat ((0 : Int), ((0 : Int), ()))).1⟩)]), (false, [(none, ⟨.int .u64, r1⟩)]), (false, [(none, ⟨.bool, true⟩)])], []⟩)
    else none)
   else none)
  else some ⟨.tup [(false, [(none, ⟨.int .i64, (0 : Int)⟩)]), (false, [(none, ⟨.int .u64, (0 : Int)⟩)]), (false, [(none, ⟨.bool, false⟩)])], []⟩
noncomputable def r_rnext (l : List (Int × (Int × Unit))) (k : Int) (a : Int) : Res := ⟨.tup [(false, [(none, ⟨.int .i64, (nextP l k a).1⟩)]), (false, [(none, ⟨.int .u64, (nextP l k a).2.1⟩)]), (false, [(none, ⟨.bool, (nextP l k a).2.2⟩)])], []⟩
def c_rnext (l : List (Int × (Int × Unit))) (k : Int) (a : Int) : Prop := RungsOk l ∧ I64 k ∧ U64 a
noncomputable def rnextS : Go.Ab.Spec := fun xs => match xs with
  | [.val (false, [(none, ⟨.slice (.pair (.int .i64) (.pair (.int .u64) (.unit))), l⟩)]), .val (false, [(none, ⟨.int .i64, k⟩)]), .val (false, [(none, ⟨.int .u64, a⟩)])] => .yes (RungsOk l ∧ I64 k ∧ U64 a) (Classical.propDecidable _) ⟨.tup [(false, [(none, ⟨.int .i64, (nextP l k a).1⟩)]), (false, [(none, ⟨.int .u64, (nextP l k a).2.1⟩)]), (false, [(none, ⟨.bool, (nextP l k a).2.2⟩)])], []⟩
  | _ => .no
/- jobmux/jobmuxref21.Steps -/
def sh_rsteps_0 : Shape := ⟨[.val false [.hole (.slice (.pair (.int .i64) (.pair (.int .u64) (.unit))))], .val false [.hole (.int .u64)], .any, .any, .any, .val false [.own 1], .val false [.hole (.int .i64)], .any, .any, .any, .any, .any, .any, .any, .any, .any, .any, .any, .any, .any, .any, .any, .any, .any, .any, .any, .any, .any, .any, .any, .any, .any], [(1, .rows 44 (.pair (.int .u64) (.pair (.int .i64) (.unit))) false)]⟩
noncomputable def m_rsteps (k0 : Nat) (l : List (Int × (Int × Unit))) (a : Int) : Option Res :=
  loopN (fun (d0 : (List (Int × (Int × Unit))) × Int × Int × (List (Int × (Int × Unit))) × Unit) again0 =>
   if (decide (d0.2.2.1 ≤ (d0.1.length : Int))) = true then need (RungsOk d0.1 ∧ I64 d0.2.2.1 ∧ U64 d0.2.1) (bindv ((nextP d0.1 d0.2.2.1 d0.2.1).1) fun (r1 : Int) =>
    bindv ((nextP d0.1 d0.2.2.1 d0.2.1).2.1) fun (r2 : Int) =>
    bindv ((nextP d0.1 d0.2.2.1 d0.2.1).2.2) fun (r3 : Bool) =>
    if (d0.2.2.2.1.length + ([(d0.2.1, (r1, ()))] : List (Int × (Int × Unit))).length) * 16 ≤ 140737488355328 ∧ d0.2.2.2.1.length + ([(d0.2.1, (r1, ()))] : List (Int × (Int × Unit))).length ≤ 9223372036854775807 then again0 (d0.1, r2, Go.IntKind.wrap .i64 (d0.2.2.1 + (1 : Int)), d0.2.2.2.1 ++ ([(d0.2.1, (r1, ()))] : List (Int × (Int × Unit))), ())
    else none)
   else some ⟨.val (false, [(some 44, ⟨.slice (.pair (.int .u64) (.pair (.int .i64) (.unit))), d0.2.2.2.1⟩)]), []⟩) k0 (l, a, (0 : Int), ([] : List (Int × (Int × Unit))), ())
noncomputable def r_rsteps (l : List (Int × (Int × Unit))) (a : Int) : Res := ⟨.val (false, [(some 44, ⟨.slice (.pair (.int .u64) (.pair (.int .i64) (.unit))), stepsP l a⟩)]), []⟩
def c_rsteps (l : List (Int × (Int × Unit))) (a : Int) : Prop := RungsOk l ∧ U64 a
noncomputable def rstepsS : Go.Ab.Spec := fun xs => match xs with
  | [.val (false, [(none, ⟨.slice (.pair (.int .i64) (.pair (.int .u64) (.unit))), l⟩)]), .val (false, [(none, ⟨.int .u64, a⟩)])] => .yes (RungsOk l ∧ U64 a) (Classical.propDecidable _) ⟨.val (false, [(some 44, ⟨.slice (.pair (.int .u64) (.pair (.int .i64) (.unit))), stepsP l a⟩)]), []⟩
  | _ => .no
/- jobmux/jobmuxref21.Same -/
def sh_same_0 : Shape := ⟨[.val false [.hole (.slice (.pair (.int .u64) (.pair (.int .i64) (.unit))))], .val false [.hole (.slice (.pair (.int .u64) (.pair (.int .i64) (.unit))))], .any, .any, .any, .val false [.hole (.int .i64)], .any, .any, .any, .any, .any, .any, .any, .any, .any, .any, .any, .any, .any, .any, .any, .any, .any, .any, .any, .any], []⟩
noncomputable def m_same (k0 : Nat) (x : List (Int × (Int × Unit))) (y : List (Int × (Int × Unit))) : Option Res :=
  if ((x.length : Int) != (y.length : Int)) = true then some ⟨.val (false, [(none, ⟨.bool, false⟩)]), []⟩
  else loopN (fun (d0 : (List (Int × (Int × Unit))) × (List (Int × (Int × Unit))) × Int × Unit) again0 =>
   if (decide (d0.2.2.1 < (d0.1.length : Int))) = true then (if 0 ≤ d0.2.2.1 ∧ d0.2.2.1 < d0.1.length then (if 0 ≤ d0.2.2.1 ∧ d0.2.2.1 < d0.2.1.length then (if (!((((d0.1.getD d0.2.2.1.toNat ((0 : Int), ((0 : Int), ()))).1) == ((d0.2.1.getD d0.2.2.1.toNat ((0 : Int), ((0 : Int), ()))).1)) && (((((d0.1.getD d0.2.2.1.toNat ((0 : Int), ((0 : Int), ()))).2).1) == (((d0.2.1.getD d0.2.2.1.toNat ((0 : Int), ((0 : Int), ()))).2).1)) && true))) = true then some ⟨.val (false, [(none, ⟨.bool, false⟩)]), []⟩
      else again0 (d0.1, d0.2.1, Go.IntKind.wrap .i64 (d0.2.2.1 + (1 : Int)), ()))
     else none)
    else none)
   else some ⟨.val (false, [(none, ⟨.bool, true⟩)]), []⟩) k0 (x, y, (0 : Int), ())
noncomputable def r_same (x : List (Int × (Int × Unit))) (y : List (Int × (Int × Unit))) : Res := ⟨.val (false, [(none, ⟨.bool, sameP x y⟩)]), []⟩
def c_same (x : List (Int × (Int × Unit))) (y : List (Int × (Int × Unit))) : Prop := (x.length : Int) ≤ 1000
noncomputable def sameS : Go.Ab.Spec := fun xs => match xs with
  | [.val (false, [(none, ⟨.slice (.pair (.int .u64) (.pair (.int .i64) (.unit))), x⟩)]), .val (false, [(none, ⟨.slice (.pair (.int .u64) (.pair (.int .i64) (.unit))), y⟩)])] => .yes ((x.length : Int) ≤ 1000) (Classical.propDecidable _) ⟨.val (false, [(none, ⟨.bool, sameP x y⟩)]), []⟩
  | _ => .no
/- jobmux/jobmuxlaw21.sane -/
noncomputable def m_sane  : Option Res :=
  need (RungsOk ([(15, (5, ())), (2, (2, ()))] : List (Int × (Int × Unit))) ∧ U64 (10 : Int)) (bindv (stepsP ([(15, (5, ())), (2, (2, ()))] : List (Int × (Int × Unit))) (10 : Int)) fun (r1 : List (Int × (Int × Unit))) =>
  if ((r1.length : Int) == (3 : Int)) = true then (if 0 ≤ (1 : Int) ∧ (1 : Int) < r1.length then (if (1 : Int) < r1.length then (if ((((r1.getD (1 : Int).toNat ((0 : Int), ((0 : Int), ()))).1) == (15 : Int)) && (((((r1.getD (1 : Int).toNat ((0 : Int), ((0 : Int), ()))).2).1) == (2 : Int)) && true)) = true then (if 0 ≤ (2 : Int) ∧ (2 : Int) < r1.length then (if (2 : Int) < r1.length then some ⟨.val (false, [(none, ⟨.bool, ((((r1.getD (2 : Int).toNat ((0 : Int), ((0 : Int), ()))).1) == (17 : Int)) && (((((r1.getD (2 : Int).toNat ((0 : Int), ((0 : Int), ()))).2).1) == (9 : Int)) && true))⟩)]), []⟩
       else none)
      else none)
     else some ⟨.val (false, [(none, ⟨.bool, false⟩)]), []⟩)
    else none)
   else none)
  else some ⟨.val (false, [(none, ⟨.bool, false⟩)]), []⟩)
noncomputable def r_sane  : Res := ⟨.val (false, [(none, ⟨.bool, true⟩)]), []⟩
def c_sane  : Prop := True
noncomputable def saneS : Go.Ab.Spec := fun xs => match xs with
  | [] => .yes (True) (.isTrue trivial) ⟨.val (false, [(none, ⟨.bool, true⟩)]), []⟩
  | _ => .no
/- jobmux/jobmuxlaw21.LadderSteps -/
def sh_ladderSteps_0 : Shape := ⟨[.val false [.hole (.slice (.pair (.int .i64) (.pair (.int .u64) (.unit))))], .any, .val false [.hole (.int .u64)], .any, .any, .any, .any, .any, .any, .any, .any, .any, .any, .any, .any, .any, .any, .any, .any, .any, .any, .any, .any, .any, .any, .any, .any, .val false [.own 112], .val false [.hole (.int .i64)], .val false [.hole (.int .i64)], .any, .any, .any, .any, .any, .any, .any, .any, .any, .any, .any, .any, .any, .any, .any, .any, .any, .any, .any, .any, .any, .any, .any, .any, .any, .any, .any, .any, .any, .any, .any, .any, .any, .any, .any, .any, .any, .any, .any, .any, .any, .any, .any, .any, .any, .any, .any, .any, .any, .any, .any], [(112, .rows 3 (.int .i64) false)]⟩
noncomputable def m_ladderSteps (k0 : Nat) (l : List (Int × (Int × Unit))) (sent : Int) (a : Int) : Option Res :=
  if (decide ((l.length : Int) > (20 : Int))) = true then some ⟨.val (false, [(none, ⟨.bool, true⟩)]), []⟩
  else need (I64 sent ∧ 0 < (Go.IntKind.wrap .i64 ((l.length : Int) + (3 : Int))) ∧ I64 (Go.IntKind.wrap .i64 ((l.length : Int) + (3 : Int)))) (bindv (sent % (Go.IntKind.wrap .i64 ((l.length : Int) + (3 : Int)))) fun (r1 : Int) =>
  loopN (fun (d0 : (List (Int × (Int × Unit))) × Int × Int × Int × (List Int) × Unit) again0 =>
   if (decide (d0.2.2.2.1 < d0.2.2.1)) = true then (if 0 ≤ d0.2.2.2.1 ∧ d0.2.2.2.1 < d0.2.2.2.2.1.length then (if d0.2.2.2.1 < d0.2.2.2.2.1.length then need (RungsOk d0.1 ∧ I64 (d0.2.2.2.2.1.getD d0.2.2.2.1.toNat (0 : Int)) ∧ U64 d0.2.1) (bindv ((nextP d0.1 (d0.2.2.2.2.1.getD d0.2.2.2.1.toNat (0 : Int)) d0.2.1).1) fun (r2 : Int) =>
      bindv ((nextP d0.1 (d0.2.2.2.2.1.getD d0.2.2.2.1.toNat (0 : Int)) d0.2.1).2.1) fun (r3 : Int) =>
      bindv ((nextP d0.1 (d0.2.2.2.2.1.getD d0.2.2.2.1.toNat (0 : Int)) d0.2.1).2.2) fun (r4 : Bool) =>
      need (RungsOk d0.1 ∧ I64 (d0.2.2.2.2.1.getD d0.2.2.2.1.toNat (0 : Int)) ∧ U64 d0.2.1) (bindv ((nextP d0.1 (d0.2.2.2.2.1.getD d0.2.2.2.1.toNat (0 : Int)) d0.2.1).1) fun (r5 : Int) =>
      bindv ((nextP d0.1 (d0.2.2.2.2.1.getD d0.2.2.2.1.toNat (0 : Int)) d0.2.1).2.1) fun (r6 : Int) =>
      bindv ((nextP d0.1 (d0.2.2.2.2.1.getD d0.2.2.2.1.toNat (0 : Int)) d0.2.1).2.2) fun (r7 : Bool) =>
      if (r2 != r5) = false then (if (r3 != r6) = false then (if (r4 != r7) = true then some ⟨.val (false, [(none, ⟨.bool, false⟩)]), []⟩
        else again0 (d0.1, d0.2.1, d0.2.2.1, Go.IntKind.wrap .i64 (d0.2.2.2.1 + (1 : Int)), d0.2.2.2.2.1, ()))
       else some ⟨.val (false, [(none, ⟨.bool, false⟩)]), []⟩)
      else some ⟨.val (false, [(none, ⟨.bool, false⟩)]), []⟩))
     else none)
    else none)
   else need (RungsOk d0.1 ∧ U64 d0.2.1) (bindv (stepsP d0.1 d0.2.1) fun (r8 : List (Int × (Int × Unit))) =>
   need (RungsOk d0.1 ∧ U64 d0.2.1) (bindv (stepsP d0.1 d0.2.1) fun (r9 : List (Int × (Int × Unit))) =>
   need ((r8.length : Int) ≤ 1000) (if (sameP r8 r9) = true then need (RungsOk d0.1 ∧ U64 (Int.tmod d0.2.1 (1000 : Int))) (bindv (stepsP d0.1 (Int.tmod d0.2.1 (1000 : Int))) fun (r10 : List (Int × (Int × Unit))) =>
    need (RungsOk d0.1 ∧ U64 (Int.tmod d0.2.1 (1000 : Int))) (bindv (stepsP d0.1 (Int.tmod d0.2.1 (1000 : Int))) fun (r11 : List (Int × (Int × Unit))) =>
    need ((r10.length : Int) ≤ 1000) (some ⟨.val (false, [(none, ⟨.bool, sameP r10 r11⟩)]), []⟩)))
   else some ⟨.val (false, [(none, ⟨.bool, false⟩)]), []⟩)))) k0 (l, a, (([sent, Go.IntKind.wrap .i64 (r1 - (1 : Int))] : List Int).length : Int), (0 : Int), ([sent, Go.IntKind.wrap .i64 (r1 - (1 : Int))] : List Int), ()))
/- jobmux/jobmuxlaw21.LadderClimbs -/
def sh_ladderClimbs_0 : Shape := ⟨[.any, .val false [.hole (.int .u64)], .any, .any, .any, .val false [.own 0], .val false [.hole (.int .u64)], .any, .any, .any, .any, .any, .any, .any, .any, .any, .any, .any, .any, .any, .any, .any, .any, .val false [.hole (.slice (.pair (.int .i64) (.pair (.int .u64) (.unit))))], .val false [.hole (.int .i64)], .val false [.hole (.int .i64)], .any, .any, .any, .any, .any, .any, .any, .any, .any, .any, .any, .any, .any, .any, .any, .any, .any, .any, .any, .any, .any, .any, .any, .any, .any, .any, .any, .any, .any, .any, .any, .any, .any, .any, .any, .any, .any, .any, .any, .any, .any, .any, .any, .any, .any, .any, .any, .any, .any, .any, .any, .any, .any, .any, .any, .any, .any, .any, .any, .any, .any, .any, .any, .any, .any, .any, .any, .any, .any, .any, .any, .any, .any, .any, .any, .any, .any, .any, .any, .any, .any, .any, .any, .any, .any, .any, .any, .any, .any, .any, .any, .any, .any, .any, .any, .any, .any, .any, .any, .any, .any, .any], [(0, .rows 42 (.pair (.int .i64) (.pair (.int .u64) (.unit))) false)]⟩
def sh_ladderClimbs_1 : Shape := ⟨[.any, .any, .any, .any, .any, .val false [.own 0], .any, .any, .any, .val false [.own 33], .any, .any, .any, .any, .any, .any, .any, .any, .any, .any, .any, .any, .any, .any, .any, .any, .any, .any, .any, .any, .any, .any, .any, .any, .any, .any, .any, .any, .any, .any, .any, .any, .any, .any, .any, .any, .any, .any, .any, .any, .any, .any, .any, .any, .any, .any, .any, .any, .any, .any, .any, .any, .any, .any, .any, .any, .any, .any, .any, .any, .any, .val false [.own 33], .val false [.hole (.int .i64)], .val false [.hole (.int .i64)], .any, .any, .any, .any, .any, .any, .any, .any, .any, .any, .any, .any, .any, .any, .any, .any, .any, .any, .any, .any, .any, .any, .any, .any, .any, .any, .any, .any, .any, .any, .any, .any, .any, .any, .any, .any, .any, .any, .any, .any, .any, .any, .any, .any, .any, .any, .any, .any, .any, .any, .any, .any, .any, .any], [(0, .rows 42 (.pair (.int .i64) (.pair (.int .u64) (.unit))) true), (33, .rows 44 (.pair (.int .u64) (.pair (.int .i64) (.unit))) false)]⟩
noncomputable def m_ladderClimbs (k0 : Nat) (k1 : Nat) (l : List (Int × (Int × Unit))) (a : Int) : Option Res :=
  if (decide ((l.length : Int) > (20 : Int))) = true then some ⟨.val (false, [(none, ⟨.bool, true⟩)]), []⟩
  else loopN (fun (d0 : Int × Int × (List (Int × (Int × Unit))) × Int × Int × (List (Int × (Int × Unit))) × Unit) again0 =>
   if (decide (d0.2.2.2.2.1 < d0.2.2.2.1)) = true then (if 0 ≤ d0.2.2.2.2.1 ∧ d0.2.2.2.2.1 < d0.2.2.1.length then (if (d0.2.2.2.2.2.1.length + ([((d0.2.2.1.getD d0.2.2.2.2.1.toNat ((0 : Int), ((0 : Int), ()))).1, (Int.tmod (((d0.2.2.1.getD d0.2.2.2.2.1.toNat ((0 : Int), ((0 : Int), ()))).2).1) (1099511627776 : Int), ()))] : List (Int × (Int × Unit))).length) * 16 ≤ 140737488355328 ∧ d0.2.2.2.2.2.1.length + ([((d0.2.2.1.getD d0.2.2.2.2.1.toNat ((0 : Int), ((0 : Int), ()))).1, (Int.tmod (((d0.2.2.1.getD d0.2.2.2.2.1.toNat ((0 : Int), ((0 : Int), ()))).2).1) (1099511627776 : Int), ()))] : List (Int × (Int × Unit))).length ≤ 9223372036854775807 then again0 (d0.1, Go.IntKind.wrap .u64 (d0.2.1 + (Int.tmod (((d0.2.2.1.getD d0.2.2.2.2.1.toNat ((0 : Int), ((0 : Int), ()))).2).1) (1099511627776 : Int))), d0.2.2.1, d0.2.2.2.1, Go.IntKind.wrap .i64 (d0.2.2.2.2.1 + (1 : Int)), d0.2.2.2.2.2.1 ++ ([((d0.2.2.1.getD d0.2.2.2.2.1.toNat ((0 : Int), ((0 : Int), ()))).1, (Int.tmod (((d0.2.2.1.getD d0.2.2.2.2.1.toNat ((0 : Int), ((0 : Int), ()))).2).1) (1099511627776 : Int), ()))] : List (Int × (Int × Unit))), ())
     else none)
    else none)
   else need (RungsOk d0.2.2.2.2.2.1 ∧ U64 d0.1) (bindv (stepsP d0.2.2.2.2.2.1 d0.1) fun (r1 : List (Int × (Int × Unit))) =>
   if ((r1.length : Int) != (Go.IntKind.wrap .i64 ((d0.2.2.2.2.2.1.length : Int) + (1 : Int)))) = false then (if 0 ≤ (d0.2.2.2.2.2.1.length : Int) ∧ (d0.2.2.2.2.2.1.length : Int) < r1.length then (if (d0.2.2.2.2.2.1.length : Int) < r1.length then (if (!((((r1.getD (d0.2.2.2.2.2.1.length : Int).toNat ((0 : Int), ((0 : Int), ()))).1) == d0.2.1) && (((((r1.getD (d0.2.2.2.2.2.1.length : Int).toNat ((0 : Int), ((0 : Int), ()))).2).1) == (9 : Int)) && true))) = false then (if 0 ≤ (0 : Int) ∧ (0 : Int) < r1.length then (if (0 : Int) < r1.length then (if (((r1.getD (0 : Int).toNat ((0 : Int), ((0 : Int), ()))).1) != d0.1) = true then some ⟨.val (false, [(none, ⟨.bool, false⟩)]), []⟩
         else loopN (fun (d1 : Int × Int × (List (Int × (Int × Unit))) × (List (Int × (Int × Unit))) × Unit) again1 =>
          if (decide (d1.2.1 < d1.1)) = true then (if 0 ≤ d1.2.1 ∧ d1.2.1 < d1.2.2.2.1.length then (if d1.2.1 < d1.2.2.2.1.length then need (RungsOk d1.2.2.1 ∧ I64 d1.2.1 ∧ U64 ((d1.2.2.2.1.getD d1.2.1.toNat ((0 : Int), ((0 : Int), ()))).1)) (bindv ((nextP d1.2.2.1 d1.2.1 ((d1.2.2.2.1.getD d1.2.1.toNat ((0 : Int), ((0 : Int), ()))).1)).1) fun (r2 : Int) =>
             bindv ((nextP d1.2.2.1 d1.2.1 ((d1.2.2.2.1.getD d1.2.1.toNat ((0 : Int), ((0 : Int), ()))).1)).2.1) fun (r3 : Int) =>
             bindv ((nextP d1.2.2.1 d1.2.1 ((d1.2.2.2.1.getD d1.2.1.toNat ((0 : Int), ((0 : Int), ()))).1)).2.2) fun (r4 : Bool) =>
             if (r2 != (((d1.2.2.2.1.getD d1.2.1.toNat ((0 : Int), ((0 : Int), ()))).2).1)) = false then (if (r4 != (decide (d1.2.1 < (d1.2.2.1.length : Int)))) = false then (if r4 = true then (if 0 ≤ Go.IntKind.wrap .i64 (d1.2.1 + (1 : Int)) ∧ Go.IntKind.wrap .i64 (d1.2.1 + (1 : Int)) < d1.2.2.2.1.length then (if Go.IntKind.wrap .i64 (d1.2.1 + (1 : Int)) < d1.2.2.2.1.length then (if (r3 != ((d1.2.2.2.1.getD (Go.IntKind.wrap .i64 (d1.2.1 + (1 : Int))).toNat ((0 : Int), ((0 : Int), ()))).1)) = false then (if (decide (d1.2.1 > (0 : Int))) = true then (if 0 ≤ Go.IntKind.wrap .i64 (d1.2.1 - (1 : Int)) ∧ Go.IntKind.wrap .i64 (d1.2.1 - (1 : Int)) < d1.2.2.2.1.length then (if Go.IntKind.wrap .i64 (d1.2.1 - (1 : Int)) < d1.2.2.2.1.length then (if (decide (((d1.2.2.2.1.getD d1.2.1.toNat ((0 : Int), ((0 : Int), ()))).1) < ((d1.2.2.2.1.getD (Go.IntKind.wrap .i64 (d1.2.1 - (1 : Int))).toNat ((0 : Int), ((0 : Int), ()))).1))) = true then some ⟨.val (false, [(none, ⟨.bool, false⟩)]), []⟩
                      else again1 (d1.1, Go.IntKind.wrap .i64 (d1.2.1 + (1 : Int)), d1.2.2.1, d1.2.2.2.1, ()))
                     else none)
                    else none)
                   else again1 (d1.1, Go.IntKind.wrap .i64 (d1.2.1 + (1 : Int)), d1.2.2.1, d1.2.2.2.1, ()))
                  else some ⟨.val (false, [(none, ⟨.bool, false⟩)]), []⟩)
                 else none)
                else none)
               else if (decide (d1.2.1 > (0 : Int))) = true then (if 0 ≤ Go.IntKind.wrap .i64 (d1.2.1 - (1 : Int)) ∧ Go.IntKind.wrap .i64 (d1.2.1 - (1 : Int)) < d1.2.2.2.1.length then (if Go.IntKind.wrap .i64 (d1.2.1 - (1 : Int)) < d1.2.2.2.1.length then (if (decide (((d1.2.2.2.1.getD d1.2.1.toNat ((0 : Int), ((0 : Int), ()))).1) < ((d1.2.2.2.1.getD (Go.IntKind.wrap .i64 (d1.2.1 - (1 : Int))).toNat ((0 : Int), ((0 : Int), ()))).1))) = true then some ⟨.val (false, [(none, ⟨.bool, false⟩)]), []⟩
                  else again1 (d1.1, Go.IntKind.wrap .i64 (d1.2.1 + (1 : Int)), d1.2.2.1, d1.2.2.2.1, ()))
                 else none)
                else none)
               else again1 (d1.1, Go.IntKind.wrap .i64 (d1.2.1 + (1 : Int)), d1.2.2.1, d1.2.2.2.1, ()))
              else some ⟨.val (false, [(none, ⟨.bool, false⟩)]), []⟩)
             else some ⟨.val (false, [(none, ⟨.bool, false⟩)]), []⟩)
            else none)
           else none)
          else some ⟨.val (false, [(none, ⟨.bool, true⟩)]), []⟩) k1 ((r1.length : Int), (0 : Int), d0.2.2.2.2.2.1, r1, ()))
        else none)
       else none)
      else some ⟨.val (false, [(none, ⟨.bool, false⟩)]), []⟩)
     else none)
    else none)
   else some ⟨.val (false, [(none, ⟨.bool, false⟩)]), []⟩)) k0 (Int.tmod a (1099511627776 : Int), Int.tmod a (1099511627776 : Int), l, (l.length : Int), (0 : Int), ([] : List (Int × (Int × Unit))), ())
/- jobmux/jobmuxlaw21.LadderShifts -/
def sh_ladderShifts_0 : Shape := ⟨[.any, .val false [.hole (.int .u64)], .val false [.hole (.int .u64)], .val false [.hole (.int .i64)], .any, .any, .any, .any, .any, .val false [.own 0], .any, .any, .any, .any, .any, .any, .any, .any, .any, .any, .any, .any, .val false [.hole (.slice (.pair (.int .i64) (.pair (.int .u64) (.unit))))], .val false [.hole (.int .i64)], .val false [.hole (.int .i64)], .any, .any, .any, .any, .any, .any, .any, .any, .any, .any, .any, .any, .any, .any, .any, .any, .any, .any, .any, .any, .any, .any, .any, .any, .any, .any, .any, .any, .any, .any, .any, .any, .any, .any, .any, .any, .any, .any, .any, .any, .any, .any, .any, .any, .any, .any, .any, .any, .any, .any, .any, .any, .any, .any, .any, .any, .any, .any, .any, .any, .any, .any, .any, .any, .any, .any, .any, .any, .any, .any, .any, .any, .any, .any, .any, .any, .any, .any, .any, .any, .any, .any, .any, .any, .any, .any, .any, .any, .any, .any, .any, .any, .any, .any, .any, .any, .any, .any, .any, .any, .any, .any, .any, .any, .any], [(0, .rows 42 (.pair (.int .i64) (.pair (.int .u64) (.unit))) false)]⟩
def sh_ladderShifts_1 : Shape := ⟨[.any, .any, .val false [.hole (.int .u64)], .any, .any, .any, .any, .any, .any, .any, .any, .any, .val false [.own 33], .val false [.own 113], .val false [.own 257], .any, .any, .any, .any, .any, .any, .any, .any, .any, .any, .any, .any, .any, .any, .any, .any, .any, .any, .any, .any, .any, .any, .any, .any, .any, .any, .any, .any, .any, .any, .any, .any, .any, .any, .any, .any, .any, .any, .any, .any, .any, .any, .any, .any, .any, .any, .any, .any, .any, .any, .any, .any, .any, .any, .any, .any, .any, .any, .any, .any, .any, .any, .any, .any, .any, .any, .any, .any, .any, .val false [.hole (.int .i64)], .val false [.hole (.int .i64)], .any, .any, .any, .any, .any, .any, .any, .any, .any, .any, .any, .any, .any, .any, .any, .any, .any, .any, .any, .any, .any, .any, .any, .any, .any, .any, .any, .any, .any, .any, .any, .any, .any, .any, .any, .any, .any, .any, .any, .any, .any, .any, .any, .any], [(33, .rows 44 (.pair (.int .u64) (.pair (.int .i64) (.unit))) false), (113, .rows 44 (.pair (.int .u64) (.pair (.int .i64) (.unit))) false), (257, .rows 44 (.pair (.int .u64) (.pair (.int .i64) (.unit))) false)]⟩
noncomputable def m_ladderShifts (k0 : Nat) (k1 : Nat) (l : List (Int × (Int × Unit))) (a : Int) (later : Int) (cut : Int) : Option Res :=
  if (decide ((l.length : Int) > (12 : Int))) = true then some ⟨.val (false, [(none, ⟨.bool, true⟩)]), []⟩
  else loopN (fun (d0 : Int × Int × Int × (List (Int × (Int × Unit))) × Int × Int × (List (Int × (Int × Unit))) × Unit) again0 =>
   if (decide (d0.2.2.2.2.2.1 < d0.2.2.2.2.1)) = true then (if 0 ≤ d0.2.2.2.2.2.1 ∧ d0.2.2.2.2.2.1 < d0.2.2.2.1.length then (if (d0.2.2.2.2.2.2.1.length + ([((d0.2.2.2.1.getD d0.2.2.2.2.2.1.toNat ((0 : Int), ((0 : Int), ()))).1, (Int.tmod (((d0.2.2.2.1.getD d0.2.2.2.2.2.1.toNat ((0 : Int), ((0 : Int), ()))).2).1) (1099511627776 : Int), ()))] : List (Int × (Int × Unit))).length) * 16 ≤ 140737488355328 ∧ d0.2.2.2.2.2.2.1.length + ([((d0.2.2.2.1.getD d0.2.2.2.2.2.1.toNat ((0 : Int), ((0 : Int), ()))).1, (Int.tmod (((d0.2.2.2.1.getD d0.2.2.2.2.2.1.toNat ((0 : Int), ((0 : Int), ()))).2).1) (1099511627776 : Int), ()))] : List (Int × (Int × Unit))).length ≤ 9223372036854775807 then again0 (d0.1, d0.2.1, d0.2.2.1, d0.2.2.2.1, d0.2.2.2.2.1, Go.IntKind.wrap .i64 (d0.2.2.2.2.2.1 + (1 : Int)), d0.2.2.2.2.2.2.1 ++ ([((d0.2.2.2.1.getD d0.2.2.2.2.2.1.toNat ((0 : Int), ((0 : Int), ()))).1, (Int.tmod (((d0.2.2.2.1.getD d0.2.2.2.2.2.1.toNat ((0 : Int), ((0 : Int), ()))).2).1) (1099511627776 : Int), ()))] : List (Int × (Int × Unit))), ())
     else none)
    else none)
   else need (RungsOk d0.2.2.2.2.2.2.1 ∧ U64 (Int.tmod d0.1 (1099511627776 : Int))) (bindv (stepsP d0.2.2.2.2.2.2.1 (Int.tmod d0.1 (1099511627776 : Int))) fun (r1 : List (Int × (Int × Unit))) =>
   need (RungsOk d0.2.2.2.2.2.2.1 ∧ U64 (Go.IntKind.wrap .u64 ((Int.tmod d0.1 (1099511627776 : Int)) + (Int.tmod d0.2.1 (1099511627776 : Int))))) (bindv (stepsP d0.2.2.2.2.2.2.1 (Go.IntKind.wrap .u64 ((Int.tmod d0.1 (1099511627776 : Int)) + (Int.tmod d0.2.1 (1099511627776 : Int))))) fun (r2 : List (Int × (Int × Unit))) =>
   need (I64 d0.2.2.1 ∧ 0 < (Go.IntKind.wrap .i64 ((d0.2.2.2.2.2.2.1.length : Int) + (1 : Int))) ∧ I64 (Go.IntKind.wrap .i64 ((d0.2.2.2.2.2.2.1.length : Int) + (1 : Int)))) (bindv (d0.2.2.1 % (Go.IntKind.wrap .i64 ((d0.2.2.2.2.2.2.1.length : Int) + (1 : Int)))) fun (r3 : Int) =>
   if 0 ≤ (0 : Int) ∧ (0 : Int) ≤ r3 ∧ r3 ≤ d0.2.2.2.2.2.2.1.length then need (RungsOk ((d0.2.2.2.2.2.2.1.take r3.toNat).drop (0 : Int).toNat) ∧ U64 (Int.tmod d0.1 (1099511627776 : Int))) (bindv (stepsP ((d0.2.2.2.2.2.2.1.take r3.toNat).drop (0 : Int).toNat) (Int.tmod d0.1 (1099511627776 : Int))) fun (r4 : List (Int × (Int × Unit))) =>
    if ((r1.length : Int) != (Go.IntKind.wrap .i64 ((d0.2.2.2.2.2.2.1.length : Int) + (1 : Int)))) = false then (if ((r2.length : Int) != (r1.length : Int)) = false then need (I64 d0.2.2.1 ∧ 0 < (Go.IntKind.wrap .i64 ((d0.2.2.2.2.2.2.1.length : Int) + (1 : Int))) ∧ I64 (Go.IntKind.wrap .i64 ((d0.2.2.2.2.2.2.1.length : Int) + (1 : Int)))) (bindv (d0.2.2.1 % (Go.IntKind.wrap .i64 ((d0.2.2.2.2.2.2.1.length : Int) + (1 : Int)))) fun (r5 : Int) =>
      if ((r4.length : Int) != (Go.IntKind.wrap .i64 (r5 + (1 : Int)))) = true then some ⟨.val (false, [(none, ⟨.bool, false⟩)]), []⟩
      else loopN (fun (d1 : Int × Int × Int × (List (Int × (Int × Unit))) × (List (Int × (Int × Unit))) × (List (Int × (Int × Unit))) × Unit) again1 =>
       if (decide (d1.2.2.1 < d1.2.1)) = true then (if 0 ≤ d1.2.2.1 ∧ d1.2.2.1 < d1.2.2.2.2.1.length then (if d1.2.2.1 < d1.2.2.2.2.1.length then (if 0 ≤ d1.2.2.1 ∧ d1.2.2.1 < d1.2.2.2.1.length then (if d1.2.2.1 < d1.2.2.2.1.length then (if 0 ≤ d1.2.2.1 ∧ d1.2.2.1 < d1.2.2.2.1.length then (if d1.2.2.1 < d1.2.2.2.1.length then (if (!((((d1.2.2.2.2.1.getD d1.2.2.1.toNat ((0 : Int), ((0 : Int), ()))).1) == (Go.IntKind.wrap .u64 (((d1.2.2.2.1.getD d1.2.2.1.toNat ((0 : Int), ((0 : Int), ()))).1) + d1.1))) && (((((d1.2.2.2.2.1.getD d1.2.2.1.toNat ((0 : Int), ((0 : Int), ()))).2).1) == (((d1.2.2.2.1.getD d1.2.2.1.toNat ((0 : Int), ((0 : Int), ()))).2).1)) && true))) = true then some ⟨.val (false, [(none, ⟨.bool, false⟩)]), []⟩
              else again1 (d1.1, d1.2.1, Go.IntKind.wrap .i64 (d1.2.2.1 + (1 : Int)), d1.2.2.2.1, d1.2.2.2.2.1, d1.2.2.2.2.2.1, ()))
             else none)
            else none)
           else none)
          else none)
         else none)
        else none)
       else if 0 ≤ (0 : Int) ∧ (0 : Int) ≤ Go.IntKind.wrap .i64 ((d1.2.2.2.2.2.1.length : Int) - (1 : Int)) ∧ Go.IntKind.wrap .i64 ((d1.2.2.2.2.2.1.length : Int) - (1 : Int)) ≤ d1.2.2.2.1.length then (if 0 ≤ (0 : Int) ∧ (0 : Int) ≤ Go.IntKind.wrap .i64 ((d1.2.2.2.2.2.1.length : Int) - (1 : Int)) ∧ Go.IntKind.wrap .i64 ((d1.2.2.2.2.2.1.length : Int) - (1 : Int)) ≤ d1.2.2.2.2.2.1.length then need ((((d1.2.2.2.1.take (Go.IntKind.wrap .i64 ((d1.2.2.2.2.2.1.length : Int) - (1 : Int))).toNat).drop (0 : Int).toNat).length : Int) ≤ 1000) (bindv (sameP ((d1.2.2.2.1.take (Go.IntKind.wrap .i64 ((d1.2.2.2.2.2.1.length : Int) - (1 : Int))).toNat).drop (0 : Int).toNat) ((d1.2.2.2.2.2.1.take (Go.IntKind.wrap .i64 ((d1.2.2.2.2.2.1.length : Int) - (1 : Int))).toNat).drop (0 : Int).toNat)) fun (r6 : Bool) =>
         if r6 = true then (if 0 ≤ Go.IntKind.wrap .i64 ((d1.2.2.2.2.2.1.length : Int) - (1 : Int)) ∧ Go.IntKind.wrap .i64 ((d1.2.2.2.2.2.1.length : Int) - (1 : Int)) < d1.2.2.2.2.2.1.length then (if Go.IntKind.wrap .i64 ((d1.2.2.2.2.2.1.length : Int) - (1 : Int)) < d1.2.2.2.2.2.1.length then (if 0 ≤ Go.IntKind.wrap .i64 ((d1.2.2.2.2.2.1.length : Int) - (1 : Int)) ∧ Go.IntKind.wrap .i64 ((d1.2.2.2.2.2.1.length : Int) - (1 : Int)) < d1.2.2.2.1.length then (if Go.IntKind.wrap .i64 ((d1.2.2.2.2.2.1.length : Int) - (1 : Int)) < d1.2.2.2.1.length then some ⟨.val (false, [(none, ⟨.bool, ((d1.2.2.2.2.2.1.getD (Go.IntKind.wrap .i64 ((d1.2.2.2.2.2.1.length : Int) - (1 : Int))).toNat ((0 : Int), ((0 : Int), ()))).1) == ((d1.2.2.2.1.getD (Go.IntKind.wrap .i64 ((d1.2.2.2.2.2.1.length : Int) - (1 : Int))).toNat ((0 : Int), ((0 : Int), ()))).1)⟩)]), []⟩
             else none)
            else none)
           else none)
          else none)
         else some ⟨.val (false, [(none, ⟨.bool, false⟩)]), []⟩)
        else none)
       else none) k1 (Int.tmod d0.2.1 (1099511627776 : Int), (r1.length : Int), (0 : Int), r1, r2, r4, ()))
     else some ⟨.val (false, [(none, ⟨.bool, false⟩)]), []⟩)
    else some ⟨.val (false, [(none, ⟨.bool, false⟩)]), []⟩)
   else none)))) k0 (a, later, cut, l, (l.length : Int), (0 : Int), ([] : List (Int × (Int × Unit))), ())
end Go.Lad
