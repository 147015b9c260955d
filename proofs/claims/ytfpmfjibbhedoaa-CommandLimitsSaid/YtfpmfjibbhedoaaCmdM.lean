/- Models of functions, printed by a program of this session out of Lean's own print of the translation, and the contracts' texts: Cmd. -/

import Derived.Test.YtfpmfjibbhedoaaAbPure
import Derived.Test.YtfpmfjibbhedoaaCmdD
namespace Go.Cmd
open Go.Ab Go.RowKit
set_option linter.unusedVariables false
set_option linter.unusedSimpArgs false
set_option maxRecDepth 100000
/- jobmux/jobmuxmill.Mod -/
noncomputable def m_mod (x : Int) (y : Int) : Option Res :=
  if y ≠ 0 then (if (decide ((Int.tmod x y) < (0 : Int))) = true then some ⟨.val (false, [(none, ⟨.int .i64, Go.IntKind.wrap .i64 ((Int.tmod x y) + y)⟩)]), []⟩
   else some ⟨.val (false, [(none, ⟨.int .i64, Int.tmod x y⟩)]), []⟩)
  else none
noncomputable def r_mod (x : Int) (y : Int) : Res := ⟨.val (false, [(none, ⟨.int .i64, x % y⟩)]), []⟩
def c_mod (x : Int) (y : Int) : Prop := I64 x ∧ 0 < y ∧ I64 y
noncomputable def modS : Go.Ab.Spec := fun xs => match xs with
  | [.val (false, [(none, ⟨.int .i64, x⟩)]), .val (false, [(none, ⟨.int .i64, y⟩)])] => .yes (I64 x ∧ 0 < y ∧ I64 y) (Classical.propDecidable _) ⟨.val (false, [(none, ⟨.int .i64, x % y⟩)]), []⟩
  | _ => .no
/- jobmux/command.proper -/
noncomputable def m_proper (c_0 : Int) (c_1 : Int) (c_2 : Int) (c_3 : ByteArray) (c_4 : List Int) : Option Res :=
  if (c_1 != (0 : Int)) = false then (if (c_0 == (1 : Int)) = true then (if (decide (c_1 ≥ (1 : Int))) = true then (if (decide (c_1 ≤ (30 : Int))) = true then (if (decide (c_2 ≥ (1 : Int))) = true then (if (decide (c_2 ≤ (100 : Int))) = true then (if (c_3.toList == (⟨#[]⟩ : ByteArray).toList) = true then some ⟨.val (false, [(none, ⟨.bool, (c_4.length : Int) == (0 : Int)⟩)]), []⟩
        else some ⟨.val (false, [(none, ⟨.bool, false⟩)]), []⟩)
       else some ⟨.val (false, [(none, ⟨.bool, false⟩)]), []⟩)
      else some ⟨.val (false, [(none, ⟨.bool, false⟩)]), []⟩)
     else some ⟨.val (false, [(none, ⟨.bool, false⟩)]), []⟩)
    else some ⟨.val (false, [(none, ⟨.bool, false⟩)]), []⟩)
   else if (c_0 == (2 : Int)) = true then (if (!(c_2 != (0 : Int))) = true then (if (decide ((c_3.size : Int) ≥ (1 : Int))) = true then (if (decide ((c_3.size : Int) ≤ (32 : Int))) = true then some ⟨.val (false, [(none, ⟨.bool, (c_4.length : Int) == (0 : Int)⟩)]), []⟩
      else some ⟨.val (false, [(none, ⟨.bool, false⟩)]), []⟩)
     else some ⟨.val (false, [(none, ⟨.bool, false⟩)]), []⟩)
    else some ⟨.val (false, [(none, ⟨.bool, false⟩)]), []⟩)
   else if (c_0 == (4 : Int)) = true then (if (!(c_2 != (0 : Int))) = true then (if (decide ((c_3.size : Int) ≥ (1 : Int))) = true then (if (decide ((c_3.size : Int) ≤ (32 : Int))) = true then some ⟨.val (false, [(none, ⟨.bool, (c_4.length : Int) == (0 : Int)⟩)]), []⟩
      else some ⟨.val (false, [(none, ⟨.bool, false⟩)]), []⟩)
     else some ⟨.val (false, [(none, ⟨.bool, false⟩)]), []⟩)
    else some ⟨.val (false, [(none, ⟨.bool, false⟩)]), []⟩)
   else if (c_0 == (5 : Int)) = true then (if (!(c_2 != (0 : Int))) = true then (if (decide ((c_3.size : Int) ≥ (1 : Int))) = true then (if (decide ((c_3.size : Int) ≤ (32 : Int))) = true then some ⟨.val (false, [(none, ⟨.bool, (c_4.length : Int) == (0 : Int)⟩)]), []⟩
      else some ⟨.val (false, [(none, ⟨.bool, false⟩)]), []⟩)
     else some ⟨.val (false, [(none, ⟨.bool, false⟩)]), []⟩)
    else some ⟨.val (false, [(none, ⟨.bool, false⟩)]), []⟩)
   else if (c_0 == (6 : Int)) = true then (if (!(c_2 != (0 : Int))) = true then (if (decide ((c_3.size : Int) ≥ (1 : Int))) = true then (if (decide ((c_3.size : Int) ≤ (32 : Int))) = true then some ⟨.val (false, [(none, ⟨.bool, (c_4.length : Int) == (0 : Int)⟩)]), []⟩
      else some ⟨.val (false, [(none, ⟨.bool, false⟩)]), []⟩)
     else some ⟨.val (false, [(none, ⟨.bool, false⟩)]), []⟩)
    else some ⟨.val (false, [(none, ⟨.bool, false⟩)]), []⟩)
   else if (c_0 == (3 : Int)) = true then (if (!(c_2 != (0 : Int))) = true then (if (c_3.toList == (⟨#[]⟩ : ByteArray).toList) = true then some ⟨.val (false, [(none, ⟨.bool, decide ((c_4.length : Int) < (4096 : Int))⟩)]), []⟩
     else some ⟨.val (false, [(none, ⟨.bool, false⟩)]), []⟩)
    else some ⟨.val (false, [(none, ⟨.bool, false⟩)]), []⟩)
   else if (c_0 == (7 : Int)) = true then (if (!(c_2 != (0 : Int))) = true then (if (c_3.toList == (⟨#[]⟩ : ByteArray).toList) = true then some ⟨.val (false, [(none, ⟨.bool, decide ((c_4.length : Int) < (4096 : Int))⟩)]), []⟩
     else some ⟨.val (false, [(none, ⟨.bool, false⟩)]), []⟩)
    else some ⟨.val (false, [(none, ⟨.bool, false⟩)]), []⟩)
   else if (c_0 == (8 : Int)) = true then (if (!(c_2 != (0 : Int))) = true then (if (c_3.toList == (⟨#[]⟩ : ByteArray).toList) = true then some ⟨.val (false, [(none, ⟨.bool, (c_4.length : Int) == (0 : Int)⟩)]), []⟩
     else some ⟨.val (false, [(none, ⟨.bool, false⟩)]), []⟩)
    else some ⟨.val (false, [(none, ⟨.bool, false⟩)]), []⟩)
   else if (c_0 == (9 : Int)) = true then (if (!(c_2 != (0 : Int))) = true then (if (c_3.toList == (⟨#[]⟩ : ByteArray).toList) = true then some ⟨.val (false, [(none, ⟨.bool, (c_4.length : Int) == (0 : Int)⟩)]), []⟩
     else some ⟨.val (false, [(none, ⟨.bool, false⟩)]), []⟩)
    else some ⟨.val (false, [(none, ⟨.bool, false⟩)]), []⟩)
   else some ⟨.val (false, [(none, ⟨.bool, false⟩)]), []⟩)
  else if (c_0 == (1 : Int)) = true then (if (decide (c_1 ≥ (1 : Int))) = true then (if (decide (c_1 ≤ (30 : Int))) = true then (if (decide (c_2 ≥ (1 : Int))) = true then (if (decide (c_2 ≤ (100 : Int))) = true then (if (c_3.toList == (⟨#[]⟩ : ByteArray).toList) = true then some ⟨.val (false, [(none, ⟨.bool, (c_4.length : Int) == (0 : Int)⟩)]), []⟩
       else some ⟨.val (false, [(none, ⟨.bool, false⟩)]), []⟩)
      else some ⟨.val (false, [(none, ⟨.bool, false⟩)]), []⟩)
     else some ⟨.val (false, [(none, ⟨.bool, false⟩)]), []⟩)
    else some ⟨.val (false, [(none, ⟨.bool, false⟩)]), []⟩)
   else some ⟨.val (false, [(none, ⟨.bool, false⟩)]), []⟩)
  else if (c_0 == (2 : Int)) = true then some ⟨.val (false, [(none, ⟨.bool, false⟩)]), []⟩
  else if (c_0 == (4 : Int)) = true then some ⟨.val (false, [(none, ⟨.bool, false⟩)]), []⟩
  else if (c_0 == (5 : Int)) = true then some ⟨.val (false, [(none, ⟨.bool, false⟩)]), []⟩
  else if (c_0 == (6 : Int)) = true then some ⟨.val (false, [(none, ⟨.bool, false⟩)]), []⟩
  else if (c_0 == (3 : Int)) = true then some ⟨.val (false, [(none, ⟨.bool, false⟩)]), []⟩
  else if (c_0 == (7 : Int)) = true then some ⟨.val (false, [(none, ⟨.bool, false⟩)]), []⟩
  else if (c_0 == (8 : Int)) = true then some ⟨.val (false, [(none, ⟨.bool, false⟩)]), []⟩
  else if (c_0 == (9 : Int)) = true then some ⟨.val (false, [(none, ⟨.bool, false⟩)]), []⟩
  else some ⟨.val (false, [(none, ⟨.bool, false⟩)]), []⟩
noncomputable def r_proper (c_0 : Int) (c_1 : Int) (c_2 : Int) (c_3 : ByteArray) (c_4 : List Int) : Res := ⟨.val (false, [(none, ⟨.bool, properP (c_0, (c_1, (c_2, (c_3, (c_4, ())))))⟩)]), []⟩
def c_proper (c_0 : Int) (c_1 : Int) (c_2 : Int) (c_3 : ByteArray) (c_4 : List Int) : Prop := True
noncomputable def properS : Go.Ab.Spec := fun xs => match xs with
  | [.val (true, [(none, ⟨.int .i64, c_0⟩), (none, ⟨.int .i64, c_1⟩), (none, ⟨.int .i64, c_2⟩), (none, ⟨.str, c_3⟩), (none, ⟨.slice (.int .u8), c_4⟩)])] => .yes (True) (.isTrue trivial) ⟨.val (false, [(none, ⟨.bool, properP (c_0, (c_1, (c_2, (c_3, (c_4, ())))))⟩)]), []⟩
  | _ => .no
/- jobmux/command.Encode -/
noncomputable def m_enc (c_0 : Int) (c_1 : Int) (c_2 : Int) (c_3 : ByteArray) (c_4 : List Int) : Option Res :=
  bindv (properP (c_0, (c_1, (c_2, (c_3, (c_4, ())))))) fun (r1 : Bool) =>
  if (!r1) = true then some ⟨.tup [(false, [(some 5, ⟨.slice (.int .u8), ([] : List Int)⟩)]), (false, [(none, ⟨.int .i64, (280 : Int)⟩)])], []⟩
  else if (c_0 == (1 : Int)) = true then (if (([Go.IntKind.wrap .u8 c_0] : List Int).length + ([Go.IntKind.wrap .u8 (Int.fdiv c_1 (2 ^ min (8 : Int).toNat 64)), Go.IntKind.wrap .u8 c_1, Go.IntKind.wrap .u8 (Int.fdiv c_2 (2 ^ min (8 : Int).toNat 64)), Go.IntKind.wrap .u8 c_2] : List Int).length) * 1 ≤ 140737488355328 ∧ ([Go.IntKind.wrap .u8 c_0] : List Int).length + ([Go.IntKind.wrap .u8 (Int.fdiv c_1 (2 ^ min (8 : Int).toNat 64)), Go.IntKind.wrap .u8 c_1, Go.IntKind.wrap .u8 (Int.fdiv c_2 (2 ^ min (8 : Int).toNat 64)), Go.IntKind.wrap .u8 c_2] : List Int).length ≤ 9223372036854775807 then some ⟨.tup [(false, [(some 5, ⟨.slice (.int .u8), ([Go.IntKind.wrap .u8 c_0] : List Int) ++ ([Go.IntKind.wrap .u8 (Int.fdiv c_1 (2 ^ min (8 : Int).toNat 64)), Go.IntKind.wrap .u8 c_1, Go.IntKind.wrap .u8 (Int.fdiv c_2 (2 ^ min (8 : Int).toNat 64)), Go.IntKind.wrap .u8 c_2] : List Int)⟩)]), (false, [(none, ⟨.int .i64, (0 : Int)⟩)])], []⟩
   else none)
  else if ([Go.IntKind.wrap .u8 c_0] : List Int).length + c_3.size ≤ 140737488355328 then (if ((([Go.IntKind.wrap .u8 c_0] : List Int) ++ bytesOfStr c_3).length + c_4.length) * 1 ≤ 140737488355328 ∧ (([Go.IntKind.wrap .u8 c_0] : List Int) ++ bytesOfStr c_3).length + c_4.length ≤ 9223372036854775807 then some ⟨.tup [(false, [(some 5, ⟨.slice (.int .u8), (([Go.IntKind.wrap .u8 c_0] : List Int) ++ bytesOfStr c_3) ++ c_4⟩)]), (false, [(none, ⟨.int .i64, (0 : Int)⟩)])], []⟩
   else none)
  else none
noncomputable def r_enc (c_0 : Int) (c_1 : Int) (c_2 : Int) (c_3 : ByteArray) (c_4 : List Int) : Res := ⟨.tup [(false, [(some 5, ⟨.slice (.int .u8), (encP (c_0, (c_1, (c_2, (c_3, (c_4, ())))))).1⟩)]), (false, [(none, ⟨.int .i64, (encP (c_0, (c_1, (c_2, (c_3, (c_4, ())))))).2⟩)])], []⟩
def c_enc (c_0 : Int) (c_1 : Int) (c_2 : Int) (c_3 : ByteArray) (c_4 : List Int) : Prop := True
noncomputable def encS : Go.Ab.Spec := fun xs => match xs with
  | [.val (true, [(none, ⟨.int .i64, c_0⟩), (none, ⟨.int .i64, c_1⟩), (none, ⟨.int .i64, c_2⟩), (none, ⟨.str, c_3⟩), (none, ⟨.slice (.int .u8), c_4⟩)])] => .yes (True) (.isTrue trivial) ⟨.tup [(false, [(some 5, ⟨.slice (.int .u8), (encP (c_0, (c_1, (c_2, (c_3, (c_4, ())))))).1⟩)]), (false, [(none, ⟨.int .i64, (encP (c_0, (c_1, (c_2, (c_3, (c_4, ())))))).2⟩)])], []⟩
  | _ => .no
/- jobmux/jobmuxref28.clean -/
noncomputable def m_clean (c_0 : Int) (c_1 : Int) (c_2 : Int) (c_3 : ByteArray) (c_4 : List Int) : Option Res :=
  if (c_0 == (1 : Int)) = true then some ⟨.val (true, [(none, ⟨.int .i64, c_0⟩), (none, ⟨.int .i64, c_1⟩), (none, ⟨.int .i64, c_2⟩), (none, ⟨.str, ByteArray.empty⟩), (none, ⟨.slice (.int .u8), ([] : List Int)⟩)]), []⟩
  else if (c_0 == (2 : Int)) = true then some ⟨.val (true, [(none, ⟨.int .i64, c_0⟩), (none, ⟨.int .i64, (0 : Int)⟩), (none, ⟨.int .i64, (0 : Int)⟩), (none, ⟨.str, c_3⟩), (none, ⟨.slice (.int .u8), ([] : List Int)⟩)]), []⟩
  else if (c_0 == (4 : Int)) = true then some ⟨.val (true, [(none, ⟨.int .i64, c_0⟩), (none, ⟨.int .i64, (0 : Int)⟩), (none, ⟨.int .i64, (0 : Int)⟩), (none, ⟨.str, c_3⟩), (none, ⟨.slice (.int .u8), ([] : List Int)⟩)]), []⟩
  else if (c_0 == (5 : Int)) = true then some ⟨.val (true, [(none, ⟨.int .i64, c_0⟩), (none, ⟨.int .i64, (0 : Int)⟩), (none, ⟨.int .i64, (0 : Int)⟩), (none, ⟨.str, c_3⟩), (none, ⟨.slice (.int .u8), ([] : List Int)⟩)]), []⟩
  else if (c_0 == (6 : Int)) = true then some ⟨.val (true, [(none, ⟨.int .i64, c_0⟩), (none, ⟨.int .i64, (0 : Int)⟩), (none, ⟨.int .i64, (0 : Int)⟩), (none, ⟨.str, c_3⟩), (none, ⟨.slice (.int .u8), ([] : List Int)⟩)]), []⟩
  else if (c_0 == (3 : Int)) = true then some ⟨.val (true, [(none, ⟨.int .i64, c_0⟩), (none, ⟨.int .i64, (0 : Int)⟩), (none, ⟨.int .i64, (0 : Int)⟩), (none, ⟨.str, ByteArray.empty⟩), (none, ⟨.slice (.int .u8), c_4⟩)]), []⟩
  else if (c_0 == (7 : Int)) = true then some ⟨.val (true, [(none, ⟨.int .i64, c_0⟩), (none, ⟨.int .i64, (0 : Int)⟩), (none, ⟨.int .i64, (0 : Int)⟩), (none, ⟨.str, ByteArray.empty⟩), (none, ⟨.slice (.int .u8), c_4⟩)]), []⟩
  else some ⟨.val (true, [(none, ⟨.int .i64, c_0⟩), (none, ⟨.int .i64, (0 : Int)⟩), (none, ⟨.int .i64, (0 : Int)⟩), (none, ⟨.str, ByteArray.empty⟩), (none, ⟨.slice (.int .u8), ([] : List Int)⟩)]), []⟩
noncomputable def r_clean (c_0 : Int) (c_1 : Int) (c_2 : Int) (c_3 : ByteArray) (c_4 : List Int) : Res := ⟨.val (true, [(none, ⟨.int .i64, (cleanP (c_0, (c_1, (c_2, (c_3, (c_4, ())))))).1⟩), (none, ⟨.int .i64, ((cleanP (c_0, (c_1, (c_2, (c_3, (c_4, ())))))).2).1⟩), (none, ⟨.int .i64, (((cleanP (c_0, (c_1, (c_2, (c_3, (c_4, ())))))).2).2).1⟩), (none, ⟨.str, ((((cleanP (c_0, (c_1, (c_2, (c_3, (c_4, ())))))).2).2).2).1⟩), (none, ⟨.slice (.int .u8), (((((cleanP (c_0, (c_1, (c_2, (c_3, (c_4, ())))))).2).2).2).2).1⟩)]), []⟩
def c_clean (c_0 : Int) (c_1 : Int) (c_2 : Int) (c_3 : ByteArray) (c_4 : List Int) : Prop := True
noncomputable def cleanS : Go.Ab.Spec := fun xs => match xs with
  | [.val (true, [(none, ⟨.int .i64, c_0⟩), (none, ⟨.int .i64, c_1⟩), (none, ⟨.int .i64, c_2⟩), (none, ⟨.str, c_3⟩), (none, ⟨.slice (.int .u8), c_4⟩)])] => .yes (True) (.isTrue trivial) ⟨.val (true, [(none, ⟨.int .i64, (cleanP (c_0, (c_1, (c_2, (c_3, (c_4, ())))))).1⟩), (none, ⟨.int .i64, ((cleanP (c_0, (c_1, (c_2, (c_3, (c_4, ())))))).2).1⟩), (none, ⟨.int .i64, (((cleanP (c_0, (c_1, (c_2, (c_3, (c_4, ())))))).2).2).1⟩), (none, ⟨.str, ((((cleanP (c_0, (c_1, (c_2, (c_3, (c_4, ())))))).2).2).2).1⟩), (none, ⟨.slice (.int .u8), (((((cleanP (c_0, (c_1, (c_2, (c_3, (c_4, ())))))).2).2).2).2).1⟩)]), []⟩
  | _ => .no
/- jobmux/jobmuxref28.Same -/
noncomputable def m_same (a_0 : Int) (a_1 : Int) (a_2 : Int) (a_3 : ByteArray) (a_4 : List Int) (b_0 : Int) (b_1 : Int) (b_2 : Int) (b_3 : ByteArray) (b_4 : List Int) : Option Res :=
  if (a_0 == b_0) = true then (if (a_1 == b_1) = true then (if (a_2 == b_2) = true then (if (a_3.toList == b_3.toList) = true then some ⟨.val (false, [(none, ⟨.bool, (strOfBytes a_4).toList == (strOfBytes b_4).toList⟩)]), []⟩
     else some ⟨.val (false, [(none, ⟨.bool, false⟩)]), []⟩)
    else some ⟨.val (false, [(none, ⟨.bool, false⟩)]), []⟩)
   else some ⟨.val (false, [(none, ⟨.bool, false⟩)]), []⟩)
  else some ⟨.val (false, [(none, ⟨.bool, false⟩)]), []⟩
noncomputable def r_same (a_0 : Int) (a_1 : Int) (a_2 : Int) (a_3 : ByteArray) (a_4 : List Int) (b_0 : Int) (b_1 : Int) (b_2 : Int) (b_3 : ByteArray) (b_4 : List Int) : Res := ⟨.val (false, [(none, ⟨.bool, sameP (a_0, (a_1, (a_2, (a_3, (a_4, ()))))) (b_0, (b_1, (b_2, (b_3, (b_4, ())))))⟩)]), []⟩
def c_same (a_0 : Int) (a_1 : Int) (a_2 : Int) (a_3 : ByteArray) (a_4 : List Int) (b_0 : Int) (b_1 : Int) (b_2 : Int) (b_3 : ByteArray) (b_4 : List Int) : Prop := True
noncomputable def sameS : Go.Ab.Spec := fun xs => match xs with
  | [.val (true, [(none, ⟨.int .i64, a_0⟩), (none, ⟨.int .i64, a_1⟩), (none, ⟨.int .i64, a_2⟩), (none, ⟨.str, a_3⟩), (none, ⟨.slice (.int .u8), a_4⟩)]), .val (true, [(none, ⟨.int .i64, b_0⟩), (none, ⟨.int .i64, b_1⟩), (none, ⟨.int .i64, b_2⟩), (none, ⟨.str, b_3⟩), (none, ⟨.slice (.int .u8), b_4⟩)])] => .yes (True) (.isTrue trivial) ⟨.val (false, [(none, ⟨.bool, sameP (a_0, (a_1, (a_2, (a_3, (a_4, ()))))) (b_0, (b_1, (b_2, (b_3, (b_4, ())))))⟩)]), []⟩
  | _ => .no
/- jobmux/jobmuxref28.proper -/
noncomputable def m_rproper (c_0 : Int) (c_1 : Int) (c_2 : Int) (c_3 : ByteArray) (c_4 : List Int) : Option Res :=
  if (decide (c_0 < (1 : Int))) = false then (if (decide (c_0 > (9 : Int))) = false then (bindv (cleanP (c_0, (c_1, (c_2, (c_3, (c_4, ())))))) fun (r1 : Int × (Int × (Int × (ByteArray × ((List Int) × Unit))))) =>
    bindv (sameP (c_0, (c_1, (c_2, (c_3, (c_4, ()))))) r1) fun (r2 : Bool) =>
    if (!r2) = true then some ⟨.val (false, [(none, ⟨.bool, false⟩)]), []⟩
    else if (c_0 == (1 : Int)) = true then (if (decide (c_1 ≥ (1 : Int))) = true then (if (decide (c_1 ≤ (30 : Int))) = true then (if (decide (c_2 ≥ (1 : Int))) = true then some ⟨.val (false, [(none, ⟨.bool, decide (c_2 ≤ (100 : Int))⟩)]), []⟩
       else some ⟨.val (false, [(none, ⟨.bool, false⟩)]), []⟩)
      else some ⟨.val (false, [(none, ⟨.bool, false⟩)]), []⟩)
     else some ⟨.val (false, [(none, ⟨.bool, false⟩)]), []⟩)
    else if (c_0 == (2 : Int)) = true then (if (decide ((c_3.size : Int) ≥ (1 : Int))) = true then some ⟨.val (false, [(none, ⟨.bool, decide ((c_3.size : Int) ≤ (32 : Int))⟩)]), []⟩
     else some ⟨.val (false, [(none, ⟨.bool, false⟩)]), []⟩)
    else if (c_0 == (4 : Int)) = true then (if (decide ((c_3.size : Int) ≥ (1 : Int))) = true then some ⟨.val (false, [(none, ⟨.bool, decide ((c_3.size : Int) ≤ (32 : Int))⟩)]), []⟩
     else some ⟨.val (false, [(none, ⟨.bool, false⟩)]), []⟩)
    else if (c_0 == (5 : Int)) = true then (if (decide ((c_3.size : Int) ≥ (1 : Int))) = true then some ⟨.val (false, [(none, ⟨.bool, decide ((c_3.size : Int) ≤ (32 : Int))⟩)]), []⟩
     else some ⟨.val (false, [(none, ⟨.bool, false⟩)]), []⟩)
    else if (c_0 == (6 : Int)) = true then (if (decide ((c_3.size : Int) ≥ (1 : Int))) = true then some ⟨.val (false, [(none, ⟨.bool, decide ((c_3.size : Int) ≤ (32 : Int))⟩)]), []⟩
     else some ⟨.val (false, [(none, ⟨.bool, false⟩)]), []⟩)
    else some ⟨.val (false, [(none, ⟨.bool, decide ((c_4.length : Int) ≤ (4095 : Int))⟩)]), []⟩)
   else some ⟨.val (false, [(none, ⟨.bool, false⟩)]), []⟩)
  else some ⟨.val (false, [(none, ⟨.bool, false⟩)]), []⟩
noncomputable def r_rproper (c_0 : Int) (c_1 : Int) (c_2 : Int) (c_3 : ByteArray) (c_4 : List Int) : Res := ⟨.val (false, [(none, ⟨.bool, properP (c_0, (c_1, (c_2, (c_3, (c_4, ())))))⟩)]), []⟩
def c_rproper (c_0 : Int) (c_1 : Int) (c_2 : Int) (c_3 : ByteArray) (c_4 : List Int) : Prop := True
noncomputable def rproperS : Go.Ab.Spec := fun xs => match xs with
  | [.val (true, [(none, ⟨.int .i64, c_0⟩), (none, ⟨.int .i64, c_1⟩), (none, ⟨.int .i64, c_2⟩), (none, ⟨.str, c_3⟩), (none, ⟨.slice (.int .u8), c_4⟩)])] => .yes (True) (.isTrue trivial) ⟨.val (false, [(none, ⟨.bool, properP (c_0, (c_1, (c_2, (c_3, (c_4, ())))))⟩)]), []⟩
  | _ => .no
/- jobmux/jobmuxref28.Encode -/
noncomputable def m_renc (c_0 : Int) (c_1 : Int) (c_2 : Int) (c_3 : ByteArray) (c_4 : List Int) : Option Res :=
  bindv (properP (c_0, (c_1, (c_2, (c_3, (c_4, ())))))) fun (r1 : Bool) =>
  if (!r1) = true then some ⟨.tup [(false, [(some 5, ⟨.slice (.int .u8), ([] : List Int)⟩)]), (false, [(none, ⟨.int .i64, (280 : Int)⟩)])], []⟩
  else if (c_0 == (1 : Int)) = true then (if (([Go.IntKind.wrap .u8 c_0] : List Int).length + ([Go.IntKind.wrap .u8 (Int.fdiv c_1 (2 ^ min (8 : Int).toNat 64)), Go.IntKind.wrap .u8 c_1, Go.IntKind.wrap .u8 (Int.fdiv c_2 (2 ^ min (8 : Int).toNat 64)), Go.IntKind.wrap .u8 c_2] : List Int).length) * 1 ≤ 140737488355328 ∧ ([Go.IntKind.wrap .u8 c_0] : List Int).length + ([Go.IntKind.wrap .u8 (Int.fdiv c_1 (2 ^ min (8 : Int).toNat 64)), Go.IntKind.wrap .u8 c_1, Go.IntKind.wrap .u8 (Int.fdiv c_2 (2 ^ min (8 : Int).toNat 64)), Go.IntKind.wrap .u8 c_2] : List Int).length ≤ 9223372036854775807 then (if (([Go.IntKind.wrap .u8 c_0] : List Int) ++ ([Go.IntKind.wrap .u8 (Int.fdiv c_1 (2 ^ min (8 : Int).toNat 64)), Go.IntKind.wrap .u8 c_1, Go.IntKind.wrap .u8 (Int.fdiv c_2 (2 ^ min (8 : Int).toNat 64)), Go.IntKind.wrap .u8 c_2] : List Int)).length + c_3.size ≤ 140737488355328 then (if (((([Go.IntKind.wrap .u8 c_0] : List Int) ++ ([Go.IntKind.wrap .u8 (Int.fdiv c_1 (2 ^ min (8 : Int).toNat 64)), Go.IntKind.wrap .u8 c_1, Go.IntKind.wrap .u8 (Int.fdiv c_2 (2 ^ min (8 : Int).toNat 64)), Go.IntKind.wrap .u8 c_2] : List Int)) ++ bytesOfStr c_3).length + c_4.length) * 1 ≤ 140737488355328 ∧ ((([Go.IntKind.wrap .u8 c_0] : List Int) ++ ([Go.IntKind.wrap .u8 (Int.fdiv c_1 (2 ^ min (8 : Int).toNat 64)), Go.IntKind.wrap .u8 c_1, Go.IntKind.wrap .u8 (Int.fdiv c_2 (2 ^ min (8 : Int).toNat 64)), Go.IntKind.wrap .u8 c_2] : List Int)) ++ bytesOfStr c_3).length + c_4.length ≤ 9223372036854775807 then some ⟨.tup [(false, [(some 5, ⟨.slice (.int .u8), ((([Go.IntKind.wrap .u8 c_0] : List Int) ++ ([Go.IntKind.wrap .u8 (Int.fdiv c_1 (2 ^ min (8 : Int).toNat 64)), Go.IntKind.wrap .u8 c_1, Go.IntKind.wrap .u8 (Int.fdiv c_2 (2 ^ min (8 : Int).toNat 64)), Go.IntKind.wrap .u8 c_2] : List Int)) ++ bytesOfStr c_3) ++ c_4⟩)]), (false, [(none, ⟨.int .i64, (0 : Int)⟩)])], []⟩
     else none)
    else none)
   else none)
  else if ([Go.IntKind.wrap .u8 c_0] : List Int).length + c_3.size ≤ 140737488355328 then (if ((([Go.IntKind.wrap .u8 c_0] : List Int) ++ bytesOfStr c_3).length + c_4.length) * 1 ≤ 140737488355328 ∧ (([Go.IntKind.wrap .u8 c_0] : List Int) ++ bytesOfStr c_3).length + c_4.length ≤ 9223372036854775807 then some ⟨.tup [(false, [(some 5, ⟨.slice (.int .u8), (([Go.IntKind.wrap .u8 c_0] : List Int) ++ bytesOfStr c_3) ++ c_4⟩)]), (false, [(none, ⟨.int .i64, (0 : Int)⟩)])], []⟩
   else none)
  else none
noncomputable def r_renc (c_0 : Int) (c_1 : Int) (c_2 : Int) (c_3 : ByteArray) (c_4 : List Int) : Res := ⟨.tup [(false, [(some 5, ⟨.slice (.int .u8), (encP (c_0, (c_1, (c_2, (c_3, (c_4, ())))))).1⟩)]), (false, [(none, ⟨.int .i64, (encP (c_0, (c_1, (c_2, (c_3, (c_4, ())))))).2⟩)])], []⟩
def c_renc (c_0 : Int) (c_1 : Int) (c_2 : Int) (c_3 : ByteArray) (c_4 : List Int) : Prop := True
noncomputable def rencS : Go.Ab.Spec := fun xs => match xs with
  | [.val (true, [(none, ⟨.int .i64, c_0⟩), (none, ⟨.int .i64, c_1⟩), (none, ⟨.int .i64, c_2⟩), (none, ⟨.str, c_3⟩), (none, ⟨.slice (.int .u8), c_4⟩)])] => .yes (True) (.isTrue trivial) ⟨.tup [(false, [(some 5, ⟨.slice (.int .u8), (encP (c_0, (c_1, (c_2, (c_3, (c_4, ())))))).1⟩)]), (false, [(none, ⟨.int .i64, (encP (c_0, (c_1, (c_2, (c_3, (c_4, ())))))).2⟩)])], []⟩
  | _ => .no
/- jobmux/jobmuxlaw28.sane -/
noncomputable def m_sane  : Option Res :=
  bindv ((encP (1, (24, (80, (ByteArray.empty, (([] : List Int), ())))))).1) fun (r1 : List Int) =>
  bindv ((encP (1, (24, (80, (ByteArray.empty, (([] : List Int), ())))))).2) fun (r2 : Int) =>
  if (r2 == (0 : Int)) = true then some ⟨.val (false, [(none, ⟨.bool, (strOfBytes r1).toList == (⟨#[1, 0, 24, 0, 80]⟩ : ByteArray).toList⟩)]), []⟩
  else some ⟨.val (false, [(none, ⟨.bool, false⟩)]), []⟩
noncomputable def r_sane  : Res := ⟨.val (false, [(none, ⟨.bool, true⟩)]), []⟩
def c_sane  : Prop := True
noncomputable def saneS : Go.Ab.Spec := fun xs => match xs with
  | [] => .yes (True) (.isTrue trivial) ⟨.val (false, [(none, ⟨.bool, true⟩)]), []⟩
  | _ => .no
/- jobmux/jobmuxlaw28.CommandLimits -/
def sh_commandLimits_0 : Shape := ⟨[.any, .any, .any, .any, .any, .any, .any, .any, .any, .any, .any, .any, .any, .any, .any, .any, .any, .any, .any, .any, .any, .any, .any, .any, .any, .any, .any, .any, .any, .val false [.own 240], .val false [.hole (.int .i64)], .val false [.hole (.int .i64)], .any, .any, .any, .any, .any, .any, .any, .any, .any, .any, .any, .any, .any, .any, .any, .any, .any, .any, .any, .any, .any, .any, .any, .any], [(240, .rows 26 (.pair (.int .i64) (.pair (.int .i64) (.pair (.int .i64) (.pair (.str) (.pair (.slice (.int .u8)) (.unit)))))) false)]⟩
noncomputable def m_commandLimits (k0 : Nat) (n : Int) : Option Res :=
  need (I64 n ∧ 0 < (3 : Int) ∧ I64 (3 : Int)) (if 0 ≤ Go.IntKind.wrap .i64 ((31 : Int) + (n % (3 : Int))) ∧ Go.IntKind.wrap .i64 ((31 : Int) + (n % (3 : Int))) ≤ Go.IntKind.wrap .i64 ((31 : Int) + (n % (3 : Int))) ∧ 1 * (Go.IntKind.wrap .i64 ((31 : Int) + (n % (3 : Int)))) ≤ 281474976710656 ∧ Go.IntKind.wrap .i64 ((31 : Int) + (n % (3 : Int))) ≤ 9223372036854775807 then (if 0 ≤ Go.IntKind.wrap .i64 ((4094 : Int) + (n % (3 : Int))) ∧ Go.IntKind.wrap .i64 ((4094 : Int) + (n % (3 : Int))) ≤ Go.IntKind.wrap .i64 ((4094 : Int) + (n % (3 : Int))) ∧ 1 * (Go.IntKind.wrap .i64 ((4094 : Int) + (n % (3 : Int)))) ≤ 281474976710656 ∧ Go.IntKind.wrap .i64 ((4094 : Int) + (n % (3 : Int))) ≤ 9223372036854775807 then loopN (fun (d0 : Int × Int × (List (Int × (Int × (Int × (ByteArray × ((List Int) × Unit)))))) × Unit) again0 =>
     if (decide (d0.2.1 < d0.1)) = true then (if 0 ≤ d0.2.1 ∧ d0.2.1 < d0.2.2.1.length then (if d0.2.1 < d0.2.2.1.length then (bindv ((encP ((d0.2.2.1.getD d0.2.1.toNat ((0 : Int), ((0 : Int), ((0 : Int), (ByteArray.empty, (([] : List Int), ())))))).1, (((d0.2.2.1.getD d0.2.1.toNat ((0 : Int), ((0 : Int), ((0 : Int), (ByteArray.empty, (([] : List Int), ())))))).2).1, ((((d0.2.2.1.getD d0.2.1.toNat ((0 : Int), ((0 : Int), ((0 : Int), (ByteArray.empty, (([] : List Int), ())))))).2).2).1, (((((d0.2.2.1.getD d0.2.1.toNat ((0 : Int), ((0 : Int), ((0 : Int), (ByteArray.empty, (([] : List Int), ())))))).2).2).2).1, ((((((d0.2.2.1.getD d0.2.1.toNat ((0 : Int), ((0 : Int), ((0 : Int), (ByteArray.empty, (([] : List Int), ())))))).2).2).2).2).1, ())))))).1) fun (r1 : List Int) =>
        bindv ((encP ((d0.2.2.1.getD d0.2.1.toNat ((0 : Int), ((0 : Int), ((0 : Int), (ByteArray.empty, (([] : List Int), ())))))).1, (((d0.2.2.1.getD d0.2.1.toNat ((0 : Int), ((0 : Int), ((0 : Int), (ByteArray.empty, (([] : List Int), ())))))).2).1, ((((d0.2.2.1.getD d0.2.1.toNat ((0 : Int), ((0 : Int), ((0 : Int), (ByteArray.empty, (([] : List Int), ())))))).2).2).1, (((((d0.2.2.1.getD d0.2.1.toNat ((0 : Int), ((0 : Int), ((0 : Int), (ByteArray.empty, (([] : List Int), ())))))).2).2).2).1, ((((((d0.2.2.1.getD d0.2.1.toNat ((0 : Int), ((0 : Int), ((0 : Int), (ByteArray.empty, (([] : List Int), ())))))).2).2).2).2).1, ())))))).2) fun (r2 : Int) =>
        bindv ((encP ((d0.2.2.1.getD d0.2.1.toNat ((0 : Int), ((0 : Int), ((0 : Int), (ByteArray.empty, (([] : List Int), ())))))).1, (((d0.2.2.1.getD d0.2.1.toNat ((0 : Int), ((0 : Int), ((0 : Int), (ByteArray.empty, (([] : List Int), ())))))).2).1, ((((d0.2.2.1.getD d0.2.1.toNat ((0 : Int), ((0 : Int), ((0 : Int), (ByteArray.empty, (([] : List Int), ())))))).2).2).1, (((((d0.2.2.1.getD d0.2.1.toNat ((0 : Int), ((0 : Int), ((0 : Int), (ByteArray.empty, (([] : List Int), ())))))).2).2).2).1, ((((((d0.2.2.1.getD d0.2.1.toNat ((0 : Int), ((0 : Int), ((0 : Int), (ByteArray.empty, (([] : List Int), ())))))).2).2).2).2).1, ())))))).1) fun (r3 : List Int) =>
        bindv ((encP ((d0.2.2.1.getD d0.2.1.toNat ((0 : Int), ((0 : Int), ((0 : Int), (ByteArray.empty, (([] : List Int), ())))))).1, (((d0.2.2.1.getD d0.2.1.toNat ((0 : Int), ((0 : Int), ((0 : Int), (ByteArray.empty, (([] : List Int), ())))))).2).1, ((((d0.2.2.1.getD d0.2.1.toNat ((0 : Int), ((0 : Int), ((0 : Int), (ByteArray.empty, (([] : List Int), ())))))).2).2).1, (((((d0.2.2.1.getD d0.2.1.toNat ((0 : Int), ((0 : Int), ((0 : Int), (ByteArray.empty, (([] : List Int), ())))))).2).2).2).1, ((((((d0.2.2.1.getD d0.2.1.toNat ((0 : Int), ((0 : Int), ((0 : Int), (ByteArray.empty, (([] : List Int), ())))))).2).2).2).2).1, ())))))).2) fun (r4 : Int) =>
        if (r2 != r4) = false then (if (!((strOfBytes r1).toList == (strOfBytes r3).toList)) = true then some ⟨.val (false, [(none, ⟨.bool, false⟩)]), []⟩
         else again0 (d0.1, Go.IntKind.wrap .i64 (d0.2.1 + (1 : Int)), d0.2.2.1, ()))
        else some ⟨.val (false, [(none, ⟨.bool, false⟩)]), []⟩)
       else none)
      else none)
     else some ⟨.val (false, [(none, ⟨.bool, true⟩)]), []⟩) k0 ((([(2, ((0 : Int), ((0 : Int), (strOfBytes (List.replicate (Go.IntKind.wrap .i64 ((31 : Int) + (n % (3 : Int)))).toNat (0 : Int)), (([] : List Int), ()))))), (7, ((0 : Int), ((0 : Int), (ByteArray.empty, (List.replicate (Go.IntKind.wrap .i64 ((4094 : Int) + (n % (3 : Int)))).toNat (0 : Int), ()))))), (1, (Go.IntKind.wrap .i64 ((29 : Int) + (n % (3 : Int))), (1, (ByteArray.empty, (([] : List Int), ()))))), (1, (n % (3 : Int), (n % (3 : Int), (ByteArray.empty, (([] : List Int), ())))))] : List (Int × (Int × (Int × (ByteArray × ((List Int) × Unit)))))).length : Int), (0 : Int), ([(2, ((0 : Int), ((0 : Int), (strOfBytes (List.replicate (Go.IntKind.wrap .i64 ((31 : Int) + (n % (3 : Int)))).toNat (0 : Int)), (([] : List Int), ()))))), (7, ((0 : Int), ((0 : Int), (ByteArray.empty, (List.replicate (Go.IntKind.wrap .i64 ((4094 : Int) + (n % (3 : Int)))).toNat (0 : Int), ()))))), (1, (Go.IntKind.wrap .i64 ((29 : Int) + (n % (3 : Int))), (1, (ByteArray.empty, (([] : List Int), ()))))), (1, (n % (3 : Int), (n % (3 : Int), (ByteArray.empty, (([] : List Int), ())))))] : List (Int × (Int × (Int × (ByteArray × ((List Int) × Unit)))))), ())
   else none)
  else none)
end Go.Cmd
