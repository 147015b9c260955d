/- Models of functions, printed by a program of this session out of Lean's own print of the translation, and the contracts' texts: Lad. -/

import Derived.Test.YtinhdhaohmnbeaaAbPure
import Derived.Test.YtinhdhaohmnbeaaLadD
namespace Go.Lad
open Go.Ab Go.RowKit
set_option linter.unusedVariables false
set_option linter.unusedSimpArgs false
set_option maxRecDepth 100000
/- jobmux/ticks.Add -/
noncomputable def m_add (x : Int) (y : Int) : Option Res :=
  if 0 ≤ x ∧ 0 ≤ y ∧ 0 ≤ (0 : Int) ∧ (0 : Int) ≤ 1 then (if (((x + y + (0 : Int)) / 18446744073709551616) != (0 : Int)) = true then some ⟨.val (false, [(none, ⟨.int .u64, (18446744073709551615 : Int)⟩)]), []⟩
   else some ⟨.val (false, [(none, ⟨.int .u64, (x + y + (0 : Int)) % 18446744073709551616⟩)]), []⟩)
  else none
noncomputable def r_add (x : Int) (y : Int) : Res := ⟨.val (false, [(none, ⟨.int .u64, satAdd x y⟩)]), []⟩
def c_add (x : Int) (y : Int) : Prop := U64 x ∧ U64 y
noncomputable def addS : Go.Ab.Spec := fun xs => match xs with
  | [.val (false, [(none, ⟨.int .u64, x⟩)]), .val (false, [(none, ⟨.int .u64, y⟩)])] => .yes (U64 x ∧ U64 y) (Classical.propDecidable _) ⟨.val (false, [(none, ⟨.int .u64, satAdd x y⟩)]), []⟩
  | _ => .no
/- jobmux/jobmuxref01.Add -/
noncomputable def m_rAdd (x : Int) (y : Int) : Option Res :=
  if 0 ≤ x ∧ 0 ≤ y ∧ 0 ≤ (0 : Int) ∧ (0 : Int) ≤ 1 then (if (((x + y + (0 : Int)) / 18446744073709551616) == (1 : Int)) = true then some ⟨.val (false, [(none, ⟨.int .u64, (18446744073709551615 : Int)⟩)]), []⟩
   else some ⟨.val (false, [(none, ⟨.int .u64, (x + y + (0 : Int)) % 18446744073709551616⟩)]), []⟩)
  else none
noncomputable def r_rAdd (x : Int) (y : Int) : Res := ⟨.val (false, [(none, ⟨.int .u64, satAdd x y⟩)]), []⟩
def c_rAdd (x : Int) (y : Int) : Prop := U64 x ∧ U64 y
noncomputable def rAddS : Go.Ab.Spec := fun xs => match xs with
  | [.val (false, [(none, ⟨.int .u64, x⟩)]), .val (false, [(none, ⟨.int .u64, y⟩)])] => .yes (U64 x ∧ U64 y) (Classical.propDecidable _) ⟨.val (false, [(none, ⟨.int .u64, satAdd x y⟩)]), []⟩
  | _ => .no
/- jobmux/jobmuxmill.Mod -/
noncomputable def m_mod (x : Int) (y : Int) : Option Res :=
  if y ≠ 0 then (if (decide ((Int.tmod x y) < (0 : Int))) = true then some ⟨.val (false, [(none, ⟨.int .i64, Go.IntKind.wrap .i64 ((Int.tmod x y) + y)⟩)]), []⟩
   else some ⟨.val (false, [(none, ⟨.int .i64, Int.tmod x y⟩)]), []⟩)
  else none
noncomputable def r_mod (x : Int) (y : Int) : Res := ⟨.val (false, [(none, ⟨.int .i64, x % y⟩)]), []⟩
def c_mod (x : Int) (y : Int) : Prop := I64 x ∧ 0 < y ∧ I64 y
noncomputable def modS : Go.Ab.Spec := fun xs => match xs with
  | [.val (false, [(none, ⟨.int .i64, x⟩)]), .val (false, [(none, ⟨.int .i64, y⟩)])] => .yes (I64 x ∧ 0 < y ∧ I64 y) (Classical.propDecidable _) ⟨.val (false, [(none, ⟨.int .i64, x % y⟩)]), []⟩
  | _ => .no
/- jobmux/ladder.Next -/
noncomputable def m_next (l : List (Int × (Int × Unit))) (k : Int) (a : Int) : Option Res :=
  if (decide (k < (0 : Int))) = false then (if (decide (k > (l.length : Int))) = true then some ⟨.tup [(false, [(none, ⟨.int .i64, (0 : Int)⟩)]), (false, [(none, ⟨.int .u64, (0 : Int)⟩)]), (false, [(none, ⟨.bool, false⟩)])], []⟩
   else if (k == (l.length : Int)) = true then some ⟨.tup [(false, [(none, ⟨.int .i64, (9 : Int)⟩)]), (false, [(none, ⟨.int .u64, (0 : Int)⟩)]), (false, [(none, ⟨.bool, false⟩)])], []⟩
   else if 0 ≤ k ∧ k < l.length then (if 0 ≤ k ∧ k < l.length then need (U64 a ∧ U64 (((l.getD k.toNat ((0 : Int), ((0 : Int), ()))).2).1)) (bindv (satAdd a (((l.getD k.toNat ((0 : Int), ((0 : Int), ()))).2).1)) fun (r1 : Int) =>
     some ⟨.tup [(false, [(none, ⟨.int .i64, (l.getD k.toNat ((0 : Int), ((0 : Int), ()))).1⟩)]), (false, [(none, ⟨.int .u64, r1⟩)]), (false, [(none, ⟨.bool, true⟩)])], []⟩)
    else none)
   else none)
  else some ⟨.tup [(false, [(none, ⟨.int .i64, (0 : Int)⟩)]), (false, [(none, ⟨.int .u64, (0 : Int)⟩)]), (false, [(none, ⟨.bool, false⟩)])], []⟩
noncomputable def r_next (l : List (Int × (Int × Unit))) (k : Int) (a : Int) : Res := ⟨.tup [(false, [(none, ⟨.int .i64, (nextP l k a).1⟩)]), (false, [(none, ⟨.int .u64, (nextP l k a).2.1⟩)]), (false, [(none, ⟨.bool, (nextP l k a).2.2⟩)])], []⟩
def c_next (l : List (Int × (Int × Unit))) (k : Int) (a : Int) : Prop := RungsOk l ∧ I64 k ∧ U64 a
noncomputable def nextS : Go.Ab.Spec := fun xs => match xs with
  | [.val (false, [(none, ⟨.slice (.pair (.int .i64) (.pair (.int .u64) (.unit))), l⟩)]), .val (false, [(none, ⟨.int .i64, k⟩)]), .val (false, [(none, ⟨.int .u64, a⟩)])] => .yes (RungsOk l ∧ I64 k ∧ U64 a) (Classical.propDecidable _) ⟨.tup [(false, [(none, ⟨.int .i64, (nextP l k a).1⟩)]), (false, [(none, ⟨.int .u64, (nextP l k a).2.1⟩)]), (false, [(none, ⟨.bool, (nextP l k a).2.2⟩)])], []⟩
  | _ => .no
/- jobmux/jobmuxref21.Next -/
noncomputable def m_rnext (l : List (Int × (Int × Unit))) (k : Int) (a : Int) : Option Res :=
  if (decide (k < (0 : Int))) = false then (if (decide (k > (l.length : Int))) = true then some ⟨.tup [(false, [(none, ⟨.int .i64, (0 : Int)⟩)]), (false, [(none, ⟨.int .u64, (0 : Int)⟩)]), (false, [(none, ⟨.bool, false⟩)])], []⟩
   else if (k == (l.length : Int)) = true then some ⟨.tup [(false, [(none, ⟨.int .i64, (9 : Int)⟩)]), (false, [(none, ⟨.int .u64, (0 : Int)⟩)]), (false, [(none, ⟨.bool, false⟩)])], []⟩
   else if 0 ≤ k ∧ k < l.length then (if 0 ≤ k ∧ k < l.length then need (U64 a ∧ U64 (((l.getD k.toNat ((0 : Int), ((0 : Int), ()))).2).1)) (bindv (satAdd a (((l.getD k.toNat ((0 : Int), ((0 : Int), ()))).2).1)) fun (r1 : Int) =>
     some ⟨.tup [(false, [(none, ⟨.int .i64, (l.getD k.toNat ((0 : Int), ((0 : Int), ()))).1⟩)]), (false, [(none, ⟨.int .u64, r1⟩)]), (false, [(none, ⟨.bool, true⟩)])], []⟩)
    else none)
   else none)
  else some ⟨.tup [(false, [(none, ⟨.int .i64, (0 : Int)⟩)]), (false, [(none, ⟨.int .u64, (0 : Int)⟩)]), (false, [(none, ⟨.bool, false⟩)])], []⟩
noncomputable def r_rnext (l : List (Int × (Int × Unit))) (k : Int) (a : Int) : Res := ⟨.tup [(false, [(none, ⟨.int .i64, (nextP l k a).1⟩)]), (false, [(none, ⟨.int .u64, (nextP l k a).2.1⟩)]), (false, [(none, ⟨.bool, (nextP l k a).2.2⟩)])], []⟩
def c_rnext (l : List (Int × (Int × Unit))) (k : Int) (a : Int) : Prop := RungsOk l ∧ I64 k ∧ U64 a
noncomputable def rnextS : Go.Ab.Spec := fun xs => match xs with
  | [.val (false, [(none, ⟨.slice (.pair (.int .i64) (.pair (.int .u64) (.unit))), l⟩)]), .val (false, [(none, ⟨.int .i64, k⟩)]), .val (false, [(none, ⟨.int .u64, a⟩)])] => .yes (RungsOk l ∧ I64 k ∧ U64 a) (Classical.propDecidable _) ⟨.tup [(false, [(none, ⟨.int .i64, (nextP l k a).1⟩)]), (false, [(none, ⟨.int .u64, (nextP l k a).2.1⟩)]), (false, [(none, ⟨.bool, (nextP l k a).2.2⟩)])], []⟩
  | _ => .no
/- jobmux/jobmuxref21.Steps -/
def sh_rsteps_0 : Shape := ⟨[.val false [.hole (.slice (.pair (.int .i64) (.pair (.int .u64) (.unit))))], .val false [.hole (.int .u64)], .any, .any, .any, .val false [.own 1], .val false [.hole (.int .i64)], .any, .any, .any, .any, .any, .any, .any, .any, .any, .any, .any, .any, .any, .any, .any, .any, .any, .any, .any, .any, .any, .any, .any, .any, .any], [(1, .rows 52 (.pair (.int .u64) (.pair (.int .i64) (.unit))) false)]⟩
noncomputable def m_rsteps (k0 : Nat) (l : List (Int × (Int × Unit))) (a : Int) : Option Res :=
  loopN (fun (d0 : (List (Int × (Int × Unit))) × Int × Int × (List (Int × (Int × Unit))) × Unit) again0 =>
   if (decide (d0.2.2.1 ≤ (d0.1.length : Int))) = true then need (RungsOk d0.1 ∧ I64 d0.2.2.1 ∧ U64 d0.2.1) (bindv ((nextP d0.1 d0.2.2.1 d0.2.1).1) fun (r1 : Int) =>
    bindv ((nextP d0.1 d0.2.2.1 d0.2.1).2.1) fun (r2 : Int) =>
    bindv ((nextP d0.1 d0.2.2.1 d0.2.1).2.2) fun (r3 : Bool) =>
    if (d0.2.2.2.1.length + ([(d0.2.1, (r1, ()))] : List (Int × (Int × Unit))).length) * 16 ≤ 140737488355328 ∧ d0.2.2.2.1.length + ([(d0.2.1, (r1, ()))] : List (Int × (Int × Unit))).length ≤ 9223372036854775807 then again0 (d0.1, r2, Go.IntKind.wrap .i64 (d0.2.2.1 + (1 : Int)), d0.2.2.2.1 ++ ([(d0.2.1, (r1, ()))] : List (Int × (Int × Unit))), ())
    else none)
   else some ⟨.val (false, [(some 52, ⟨.slice (.pair (.int .u64) (.pair (.int .i64) (.unit))), d0.2.2.2.1⟩)]), []⟩) k0 (l, a, (0 : Int), ([] : List (Int × (Int × Unit))), ())
noncomputable def r_rsteps (l : List (Int × (Int × Unit))) (a : Int) : Res := ⟨.val (false, [(some 52, ⟨.slice (.pair (.int .u64) (.pair (.int .i64) (.unit))), stepsP l a⟩)]), []⟩
def c_rsteps (l : List (Int × (Int × Unit))) (a : Int) : Prop := RungsOk l ∧ U64 a
noncomputable def rstepsS : Go.Ab.Spec := fun xs => match xs with
  | [.val (false, [(none, ⟨.slice (.pair (.int .i64) (.pair (.int .u64) (.unit))), l⟩)]), .val (false, [(none, ⟨.int .u64, a⟩)])] => .yes (RungsOk l ∧ U64 a) (Classical.propDecidable _) ⟨.val (false, [(some 52, ⟨.slice (.pair (.int .u64) (.pair (.int .i64) (.unit))), stepsP l a⟩)]), []⟩
  | _ => .no
end Go.Lad
