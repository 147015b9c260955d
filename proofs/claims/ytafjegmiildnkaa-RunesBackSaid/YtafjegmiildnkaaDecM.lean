/- Models of functions, printed by a program of this session out of Lean's own print of the translation, and the contracts' texts: Dec. -/

import Derived.Test.YtafjegmiildnkaaAbPure
import Derived.Test.YtafjegmiildnkaaDecD
import Derived.Test.YtafjegmiildnkaaRunM
namespace Go.Dec
open Go.Ab Go.RowKit Go.Run
set_option linter.unusedVariables false
set_option linter.unusedSimpArgs false
set_option maxRecDepth 100000
/- jobmux/runes.Flush -/
noncomputable def m_flush (d_0 : List Int) : Option Res :=
  if ((d_0.length : Int) == (0 : Int)) = false then need (Len ((d_0, ())).1) (bindv (validP ((d_0, ())).1) fun (r1 : Bool) =>
   if (!r1) = true then some ⟨.val (false, [(some 3, ⟨.slice (.int .i64), ([] : List Int)⟩)]), []⟩
   else some ⟨.val (false, [(some 3, ⟨.slice (.int .i64), ([65533] : List Int)⟩)]), []⟩)
  else some ⟨.val (false, [(some 3, ⟨.slice (.int .i64), ([] : List Int)⟩)]), []⟩
noncomputable def r_flush (d_0 : List Int) : Res := ⟨.val (false, [(some 3, ⟨.slice (.int .i64), flushP ((d_0, ())).1⟩)]), []⟩
def c_flush (d_0 : List Int) : Prop := Len ((d_0, ())).1
noncomputable def flushS : Go.Ab.Spec := fun xs => match xs with
  | [.val (true, [(none, ⟨.slice (.int .u8), d_0⟩)])] => .yes (Len ((d_0, ())).1) (Classical.propDecidable _) ⟨.val (false, [(some 3, ⟨.slice (.int .i64), flushP ((d_0, ())).1⟩)]), []⟩
  | _ => .no
/- jobmux/jobmuxref04.size -/
noncomputable def m_rsize (b : Int) : Option Res :=
  if (decide (b < (128 : Int))) = true then some ⟨.val (false, [(none, ⟨.int .i64, (1 : Int)⟩)]), []⟩
  else if (decide (b ≥ (194 : Int))) = true then (if (decide (b < (224 : Int))) = true then some ⟨.val (false, [(none, ⟨.int .i64, (2 : Int)⟩)]), []⟩
   else if (decide (b ≥ (224 : Int))) = true then (if (decide (b < (240 : Int))) = true then some ⟨.val (false, [(none, ⟨.int .i64, (3 : Int)⟩)]), []⟩
    else if (decide (b ≥ (240 : Int))) = true then (if (decide (b < (245 : Int))) = true then some ⟨.val (false, [(none, ⟨.int .i64, (4 : Int)⟩)]), []⟩
     else some ⟨.val (false, [(none, ⟨.int .i64, (0 : Int)⟩)]), []⟩)
    else some ⟨.val (false, [(none, ⟨.int .i64, (0 : Int)⟩)]), []⟩)
   else if (decide (b ≥ (240 : Int))) = true then (if (decide (b < (245 : Int))) = true then some ⟨.val (false, [(none, ⟨.int .i64, (4 : Int)⟩)]), []⟩
    else some ⟨.val (false, [(none, ⟨.int .i64, (0 : Int)⟩)]), []⟩)
   else some ⟨.val (false, [(none, ⟨.int .i64, (0 : Int)⟩)]), []⟩)
  else if (decide (b ≥ (224 : Int))) = true then (if (decide (b < (240 : Int))) = true then some ⟨.val (false, [(none, ⟨.int .i64, (3 : Int)⟩)]), []⟩
   else if (decide (b ≥ (240 : Int))) = true then (if (decide (b < (245 : Int))) = true then some ⟨.val (false, [(none, ⟨.int .i64, (4 : Int)⟩)]), []⟩
    else some ⟨.val (false, [(none, ⟨.int .i64, (0 : Int)⟩)]), []⟩)
   else some ⟨.val (false, [(none, ⟨.int .i64, (0 : Int)⟩)]), []⟩)
  else if (decide (b ≥ (240 : Int))) = true then (if (decide (b < (245 : Int))) = true then some ⟨.val (false, [(none, ⟨.int .i64, (4 : Int)⟩)]), []⟩
   else some ⟨.val (false, [(none, ⟨.int .i64, (0 : Int)⟩)]), []⟩)
  else some ⟨.val (false, [(none, ⟨.int .i64, (0 : Int)⟩)]), []⟩
noncomputable def r_rsize (b : Int) : Res := ⟨.val (false, [(none, ⟨.int .i64, sizeP b⟩)]), []⟩
def c_rsize (b : Int) : Prop := True
noncomputable def rsizeS : Go.Ab.Spec := fun xs => match xs with
  | [.val (false, [(none, ⟨.int .u8, b⟩)])] => .yes (True) (.isTrue trivial) ⟨.val (false, [(none, ⟨.int .i64, sizeP b⟩)]), []⟩
  | _ => .no
/- jobmux/jobmuxref04.number -/
def sh_num_0 : Shape := ⟨[.val false [.hole (.slice (.int .u8))], .val false [.hole (.int .i64)], .val false [.hole (.int .i64)], .any, .any, .any, .any, .val false [.hole (.int .i64)], .val false [.hole (.int .i64)], .any, .any, .any, .any, .any, .any, .any, .any, .any, .any, .any, .any, .any, .any, .any, .any, .any, .any, .any, .any, .any, .any, .any, .any, .any, .any, .any, .any, .any, .any, .any, .any, .any, .any, .any, .any, .any], []⟩
noncomputable def m_num (k0 : Nat) (b : List Int) (n : Int) (d : Int) : Option Res :=
  if (n == (1 : Int)) = true then (if 0 ≤ (0 : Int) ∧ (0 : Int) < b.length then some ⟨.val (false, [(none, ⟨.int .i64, Go.IntKind.wrap .i64 (b.getD (0 : Int).toNat (0 : Int))⟩)]), []⟩
   else none)
  else if 0 ≤ (0 : Int) ∧ (0 : Int) < b.length then (if 0 ≤ (Go.IntKind.wrap .i64 ((7 : Int) - n)) then loopN (fun (d0 : (List Int) × Int × Int × Int × Int × Unit) again0 =>
     if (decide (d0.2.2.2.2.1 < d0.2.1)) = true then (if (decide (d0.2.2.2.2.1 < (d0.1.length : Int))) = true then (if 0 ≤ d0.2.2.2.2.1 ∧ d0.2.2.2.2.1 < d0.1.length then again0 (d0.1, d0.2.1, d0.2.2.1, Go.IntKind.wrap .i64 ((BitVec.ofInt 64 (Go.IntKind.wrap .i64 (d0.2.2.2.1 * 2 ^ min (6 : Int).toNat 64)) ||| BitVec.ofInt 64 (Go.IntKind.wrap .i64 ((BitVec.ofInt 64 (Go.IntKind.wrap .i64 (d0.1.getD d0.2.2.2.2.1.toNat (0 : Int))) &&& BitVec.ofInt 64 (63 : Int)).toNat : Int))).toNat : Int), Go.IntKind.wrap .i64 (d0.2.2.2.2.1 + (1 : Int)), ())
       else none)
      else again0 (d0.1, d0.2.1, d0.2.2.1, Go.IntKind.wrap .i64 ((BitVec.ofInt 64 (Go.IntKind.wrap .i64 (d0.2.2.2.1 * 2 ^ min (6 : Int).toNat 64)) ||| BitVec.ofInt 64 d0.2.2.1).toNat : Int), Go.IntKind.wrap .i64 (d0.2.2.2.2.1 + (1 : Int)), ()))
     else some ⟨.val (false, [(none, ⟨.int .i64, d0.2.2.2.1⟩)]), []⟩) k0 (b, n, d, Go.IntKind.wrap .i64 ((BitVec.ofInt 64 (Go.IntKind.wrap .i64 (b.getD (0 : Int).toNat (0 : Int))) &&& BitVec.ofInt 64 (Go.IntKind.wrap .i64 ((Go.IntKind.wrap .i64 ((1 : Int) * 2 ^ min (Go.IntKind.wrap .i64 ((7 : Int) - n)).toNat 64)) - (1 : Int)))).toNat : Int), (1 : Int), ())
   else none)
  else none
noncomputable def r_num (b : List Int) (n : Int) (d : Int) : Res := ⟨.val (false, [(none, ⟨.int .i64, numP b n d⟩)]), []⟩
def c_num (b : List Int) (n : Int) (d : Int) : Prop := Bytes b ∧ 1 ≤ b.length ∧ 1 ≤ n ∧ n ≤ 4 ∧ 0 ≤ d ∧ d ≤ 63
noncomputable def numS : Go.Ab.Spec := fun xs => match xs with
  | [.val (false, [(none, ⟨.slice (.int .u8), b⟩)]), .val (false, [(none, ⟨.int .i64, n⟩)]), .val (false, [(none, ⟨.int .i64, d⟩)])] => .yes (Bytes b ∧ 1 ≤ b.length ∧ 1 ≤ n ∧ n ≤ 4 ∧ 0 ≤ d ∧ d ≤ 63) (Classical.propDecidable _) ⟨.val (false, [(none, ⟨.int .i64, numP b n d⟩)]), []⟩
  | _ => .no
/- jobmux/jobmuxref04.prefix -/
def sh_prefix_0 : Shape := ⟨[.val false [.hole (.slice (.int .u8))], .any, .any, .any, .val false [.hole (.int .i64)], .val false [.hole (.int .i64)], .any, .any, .any, .any, .any, .any, .any, .any, .any, .any, .any, .any, .any, .any, .any, .any, .any, .any, .any, .any, .any, .any, .any, .any, .any, .any, .any, .any, .any, .any, .any, .any, .any, .any, .any, .any, .any, .any, .any, .any, .any, .any, .any, .any, .any, .any, .any, .any, .any, .any, .any, .any, .any, .any, .any, .any, .any, .any, .any], []⟩
noncomputable def m_prefix (k0 : Nat) (b : List Int) : Option Res :=
  if (decide ((b.length : Int) > (0 : Int))) = true then (if 0 ≤ (0 : Int) ∧ (0 : Int) < b.length then (bindv (sizeP (b.getD (0 : Int).toNat (0 : Int))) fun (r1 : Int) =>
    if (r1 == (0 : Int)) = false then (if (decide ((b.length : Int) > r1)) = true then some ⟨.tup [(false, [(none, ⟨.bool, false⟩)]), (false, [(none, ⟨.bool, false⟩)])], []⟩
     else loopN (fun (d0 : (List Int) × Int × Int × Unit) again0 =>
      if (decide (d0.2.2.1 < (d0.1.length : Int))) = true then (if 0 ≤ d0.2.2.1 ∧ d0.2.2.1 < d0.1.length then (if ((Go.IntKind.wrap .u8 ((BitVec.ofInt 8 (d0.1.getD d0.2.2.1.toNat (0 : Int)) &&& BitVec.ofInt 8 (192 : Int)).toNat : Int)) != (128 : Int)) = true then some ⟨.tup [(false, [(none, ⟨.bool, false⟩)]), (false, [(none, ⟨.bool, false⟩)])], []⟩
        else again0 (d0.1, d0.2.1, Go.IntKind.wrap .i64 (d0.2.2.1 + (1 : Int)), ()))
       else none)
      else need (Bytes d0.1 ∧ 1 ≤ d0.1.length ∧ 1 ≤ d0.2.1 ∧ d0.2.1 ≤ 4 ∧ 0 ≤ (0 : Int) ∧ (0 : Int) ≤ 63) (bindv (numP d0.1 d0.2.1 (0 : Int)) fun (r2 : Int) =>
      need (Bytes d0.1 ∧ 1 ≤ d0.1.length ∧ 1 ≤ d0.2.1 ∧ d0.2.1 ≤ 4 ∧ 0 ≤ (63 : Int) ∧ (63 : Int) ≤ 63) (bindv (numP d0.1 d0.2.1 (63 : Int)) fun (r3 : Int) =>
      if 0 ≤ d0.2.1 ∧ d0.2.1 < ([0, 0, 128, 2048, 65536] : List Int).length then (if d0.2.1 < ([0, 0, 128, 2048, 65536] : List Int).length then (if (decide (r3 < (([0, 0, 128, 2048, 65536] : List Int).getD d0.2.1.toNat (0 : Int)))) = false then (if (decide (r2 > (1114111 : Int))) = false then (if (decide (r2 ≥ (55296 : Int))) = true then (if (decide (r3 ≤ (57343 : Int))) = true then some ⟨.tup [(false, [(none, ⟨.bool, false⟩)]), (false, [(none, ⟨.bool, false⟩)])], []⟩
           else some ⟨.tup [(false, [(none, ⟨.bool, true⟩)]), (false, [(none, ⟨.bool, (d0.1.length : Int) == d0.2.1⟩)])], []⟩)
          else some ⟨.tup [(false, [(none, ⟨.bool, true⟩)]), (false, [(none, ⟨.bool, (d0.1.length : Int) == d0.2.1⟩)])], []⟩)
         else some ⟨.tup [(false, [(none, ⟨.bool, false⟩)]), (false, [(none, ⟨.bool, false⟩)])], []⟩)
        else some ⟨.tup [(false, [(none, ⟨.bool, false⟩)]), (false, [(none, ⟨.bool, false⟩)])], []⟩)
       else none)
      else none))) k0 (b, r1, (1 : Int), ()))
    else some ⟨.tup [(false, [(none, ⟨.bool, false⟩)]), (false, [(none, ⟨.bool, false⟩)])], []⟩)
   else none)
  else some ⟨.tup [(false, [(none, ⟨.bool, false⟩)]), (false, [(none, ⟨.bool, false⟩)])], []⟩
noncomputable def r_prefix (b : List Int) : Res := ⟨.tup [(false, [(none, ⟨.bool, (partP b).1 || (partP b).2⟩)]), (false, [(none, ⟨.bool, (partP b).2⟩)])], []⟩
def c_prefix (b : List Int) : Prop := Bytes b
noncomputable def prefixS : Go.Ab.Spec := fun xs => match xs with
  | [.val (false, [(none, ⟨.slice (.int .u8), b⟩)])] => .yes (Bytes b) (Classical.propDecidable _) ⟨.tup [(false, [(none, ⟨.bool, (partP b).1 || (partP b).2⟩)]), (false, [(none, ⟨.bool, (partP b).2⟩)])], []⟩
  | _ => .no
/- jobmux/jobmuxref04.Valid -/
noncomputable def m_rvalid (d_0 : List Int) : Option Res :=
  need (Bytes d_0) (bindv ((partP d_0).1 || (partP d_0).2) fun (r1 : Bool) =>
  if ((d_0.length : Int) == (0 : Int)) = false then (if r1 = true then some ⟨.val (false, [(none, ⟨.bool, !((partP d_0).2)⟩)]), []⟩
   else some ⟨.val (false, [(none, ⟨.bool, false⟩)]), []⟩)
  else some ⟨.val (false, [(none, ⟨.bool, true⟩)]), []⟩)
noncomputable def r_rvalid (d_0 : List Int) : Res := ⟨.val (false, [(none, ⟨.bool, validP ((d_0, ())).1⟩)]), []⟩
def c_rvalid (d_0 : List Int) : Prop := Bytes ((d_0, ())).1
noncomputable def rvalidS : Go.Ab.Spec := fun xs => match xs with
  | [.val (true, [(none, ⟨.slice (.int .u8), d_0⟩)])] => .yes (Bytes ((d_0, ())).1) (Classical.propDecidable _) ⟨.val (false, [(none, ⟨.bool, validP ((d_0, ())).1⟩)]), []⟩
  | _ => .no
/- jobmux/jobmuxref04.Flush -/
noncomputable def m_rflush (d_0 : List Int) : Option Res :=
  need (Bytes ((d_0, ())).1) (bindv (validP ((d_0, ())).1) fun (r1 : Bool) =>
  if r1 = true then (if (decide ((d_0.length : Int) > (0 : Int))) = true then some ⟨.val (false, [(some 3, ⟨.slice (.int .i64), ([65533] : List Int)⟩)]), []⟩
   else some ⟨.val (false, [(some 3, ⟨.slice (.int .i64), ([] : List Int)⟩)]), []⟩)
  else some ⟨.val (false, [(some 3, ⟨.slice (.int .i64), ([] : List Int)⟩)]), []⟩)
noncomputable def r_rflush (d_0 : List Int) : Res := ⟨.val (false, [(some 3, ⟨.slice (.int .i64), flushP ((d_0, ())).1⟩)]), []⟩
def c_rflush (d_0 : List Int) : Prop := Bytes ((d_0, ())).1
noncomputable def rflushS : Go.Ab.Spec := fun xs => match xs with
  | [.val (true, [(none, ⟨.slice (.int .u8), d_0⟩)])] => .yes (Bytes ((d_0, ())).1) (Classical.propDecidable _) ⟨.val (false, [(some 3, ⟨.slice (.int .i64), flushP ((d_0, ())).1⟩)]), []⟩
  | _ => .no
/- jobmux/jobmuxref04.Decode -/
def sh_rdec_0 : Shape := ⟨[.any, .val false [.hole (.slice (.int .u8))], .any, .any, .val false [.ptr 16 0], .any, .val false [.hole (.slice (.int .u8))], .val false [.own 83], .val false [.hole (.int .i64)], .any, .any, .any, .any, .any, .any, .any, .any, .any, .any, .any, .any, .any, .any, .any, .any, .any, .any, .any, .any, .any, .any, .any, .any, .any, .any, .any, .any, .any, .any, .any, .any, .any, .any, .any, .any, .any, .any, .any, .any, .any, .any, .any, .any, .any, .any, .any, .any, .any, .any, .any, .any, .any, .any, .any, .any, .any, .any, .any], [(16, .box [.hole (.slice (.int .u8))]), (83, .rows 3 (.int .i64) false)]⟩
noncomputable def m_rdec (k0 : Nat) (d_0 : List Int) (b : List Int) : Option Res :=
  need (Bytes ((d_0, ())).1) (bindv (validP ((d_0, ())).1) fun (r1 : Bool) =>
  if r1 = true then (if (([] : List Int).length + d_0.length) * 1 ≤ 140737488355328 ∧ ([] : List Int).length + d_0.length ≤ 9223372036854775807 then loopN (fun (d0 : (List Int) × (List Int) × Int × (List Int) × (List Int) × Unit) again0 =>
     if (decide (d0.2.2.1 < (d0.1.length : Int))) = true then (if (([] : List Int).length + d0.2.1.length) * 1 ≤ 140737488355328 ∧ ([] : List Int).length + d0.2.1.length ≤ 9223372036854775807 then (if 0 ≤ d0.2.2.1 ∧ d0.2.2.1 < d0.1.length then (if ((([] : List Int) ++ d0.2.1).length + ([(d0.1.getD d0.2.2.1.toNat (0 : Int))] : List Int).length) * 1 ≤ 140737488355328 ∧ (([] : List Int) ++ d0.2.1).length + ([(d0.1.getD d0.2.2.1.toNat (0 : Int))] : List Int).length ≤ 9223372036854775807 then need (Bytes ((([] : List Int) ++ d0.2.1) ++ ([(d0.1.getD d0.2.2.1.toNat (0 : Int))] : List Int))) (bindv ((partP ((([] : List Int) ++ d0.2.1) ++ ([(d0.1.getD d0.2.2.1.toNat (0 : Int))] : List Int))).1 || (partP ((([] : List Int) ++ d0.2.1) ++ ([(d0.1.getD d0.2.2.1.toNat (0 : Int))] : List Int))).2) fun (r2 : Bool) =>
         bindv ((partP ((([] : List Int) ++ d0.2.1) ++ ([(d0.1.getD d0.2.2.1.toNat (0 : Int))] : List Int))).2) fun (r3 : Bool) =>
         if r2 = true then (if r3 = true then need (Bytes ((([] : List Int) ++ d0.2.1) ++ ([(d0.1.getD d0.2.2.1.toNat (0 : Int))] : List Int)) ∧ 1 ≤ ((([] : List Int) ++ d0.2.1) ++ ([(d0.1.getD d0.2.2.1.toNat (0 : Int))] : List Int)).length ∧ 1 ≤ (((([] : List Int) ++ d0.2.1) ++ ([(d0.1.getD d0.2.2.1.toNat (0 : Int))] : List Int)).length : Int) ∧ (((([] : List Int) ++ d0.2.1) ++ ([(d0.1.getD d0.2.2.1.toNat (0 : Int))] : List Int)).length : Int) ≤ 4 ∧ 0 ≤ (0 : Int) ∧ (0 : Int) ≤ 63) (bindv (numP ((([] : List Int) ++ d0.2.1) ++ ([(d0.1.getD d0.2.2.1.toNat (0 : Int))] : List Int)) (((([] : List Int) ++ d0.2.1) ++ ([(d0.1.getD d0.2.2.1.toNat (0 : Int))] : List Int)).length : Int) (0 : Int)) fun (r4 : Int) =>
           if (d0.2.2.2.2.1.length + ([r4] : List Int).length) * 8 ≤ 140737488355328 ∧ d0.2.2.2.2.1.length + ([r4] : List Int).length ≤ 9223372036854775807 then again0 (d0.1, ([] : List Int), Go.IntKind.wrap .i64 (d0.2.2.1 + (1 : Int)), d0.2.2.2.1, d0.2.2.2.2.1 ++ ([r4] : List Int), ())
           else none)
          else if r2 = true then again0 (d0.1, (([] : List Int) ++ d0.2.1) ++ ([(d0.1.getD d0.2.2.1.toNat (0 : Int))] : List Int), Go.IntKind.wrap .i64 (d0.2.2.1 + (1 : Int)), d0.2.2.2.1, d0.2.2.2.2.1, ())
          else if (decide ((d0.2.1.length : Int) > (0 : Int))) = true then (if (d0.2.2.2.2.1.length + ([65533] : List Int).length) * 8 ≤ 140737488355328 ∧ d0.2.2.2.2.1.length + ([65533] : List Int).length ≤ 9223372036854775807 then again0 (d0.1, ([] : List Int), Go.IntKind.wrap .i64 ((Go.IntKind.wrap .i64 (d0.2.2.1 - (1 : Int))) + (1 : Int)), d0.2.2.2.1, d0.2.2.2.2.1 ++ ([65533] : List Int), ())
           else none)
          else if (d0.2.2.2.2.1.length + ([65533] : List Int).length) * 8 ≤ 140737488355328 ∧ d0.2.2.2.2.1.length + ([65533] : List Int).length ≤ 9223372036854775807 then again0 (d0.1, d0.2.1, Go.IntKind.wrap .i64 (d0.2.2.1 + (1 : Int)), d0.2.2.2.1, d0.2.2.2.2.1 ++ ([65533] : List Int), ())
          else none)
         else if r2 = true then again0 (d0.1, (([] : List Int) ++ d0.2.1) ++ ([(d0.1.getD d0.2.2.1.toNat (0 : Int))] : List Int), Go.IntKind.wrap .i64 (d0.2.2.1 + (1 : Int)), d0.2.2.2.1, d0.2.2.2.2.1, ())
         else if (decide ((d0.2.1.length : Int) > (0 : Int))) = true then (if (d0.2.2.2.2.1.length + ([65533] : List Int).length) * 8 ≤ 140737488355328 ∧ d0.2.2.2.2.1.length + ([65533] : List Int).length ≤ 9223372036854775807 then again0 (d0.1, ([] : List Int), Go.IntKind.wrap .i64 ((Go.IntKind.wrap .i64 (d0.2.2.1 - (1 : Int))) + (1 : Int)), d0.2.2.2.1, d0.2.2.2.2.1 ++ ([65533] : List Int), ())
          else none)
         else if (d0.2.2.2.2.1.length + ([65533] : List Int).length) * 8 ≤ 140737488355328 ∧ d0.2.2.2.2.1.length + ([65533] : List Int).length ≤ 9223372036854775807 then again0 (d0.1, d0.2.1, Go.IntKind.wrap .i64 (d0.2.2.1 + (1 : Int)), d0.2.2.2.1, d0.2.2.2.2.1 ++ ([65533] : List Int), ())
         else none)
        else none)
       else none)
      else none)
     else some ⟨.tup [(true, [(none, ⟨.slice (.int .u8), d0.2.1⟩)]), (false, [(some 3, ⟨.slice (.int .i64), d0.2.2.2.2.1⟩)])], []⟩) k0 (b, ([] : List Int) ++ d_0, (0 : Int), ([] : List Int), ([] : List Int), ())
   else none)
  else loopN (fun (d0 : (List Int) × (List Int) × Int × (List Int) × (List Int) × Unit) again0 =>
   if (decide (d0.2.2.1 < (d0.1.length : Int))) = true then (if (([] : List Int).length + d0.2.1.length) * 1 ≤ 140737488355328 ∧ ([] : List Int).length + d0.2.1.length ≤ 9223372036854775807 then (if 0 ≤ d0.2.2.1 ∧ d0.2.2.1 < d0.1.length then (if ((([] : List Int) ++ d0.2.1).length + ([(d0.1.getD d0.2.2.1.toNat (0 : Int))] : List Int).length) * 1 ≤ 140737488355328 ∧ (([] : List Int) ++ d0.2.1).length + ([(d0.1.getD d0.2.2.1.toNat (0 : Int))] : List Int).length ≤ 9223372036854775807 then need (Bytes ((([] : List Int) ++ d0.2.1) ++ ([(d0.1.getD d0.2.2.1.toNat (0 : Int))] : List Int))) (bindv ((partP ((([] : List Int) ++ d0.2.1) ++ ([(d0.1.getD d0.2.2.1.toNat (0 : Int))] : List Int))).1 || (partP ((([] : List Int) ++ d0.2.1) ++ ([(d0.1.getD d0.2.2.1.toNat (0 : Int))] : List Int))).2) fun (r5 : Bool) =>
       bindv ((partP ((([] : List Int) ++ d0.2.1) ++ ([(d0.1.getD d0.2.2.1.toNat (0 : Int))] : List Int))).2) fun (r6 : Bool) =>
       if r5 = true then (if r6 = true then need (Bytes ((([] : List Int) ++ d0.2.1) ++ ([(d0.1.getD d0.2.2.1.toNat (0 : Int))] : List Int)) ∧ 1 ≤ ((([] : List Int) ++ d0.2.1) ++ ([(d0.1.getD d0.2.2.1.toNat (0 : Int))] : List Int)).length ∧ 1 ≤ (((([] : List Int) ++ d0.2.1) ++ ([(d0.1.getD d0.2.2.1.toNat (0 : Int))] : List Int)).length : Int) ∧ (((([] : List Int) ++ d0.2.1) ++ ([(d0.1.getD d0.2.2.1.toNat (0 : Int))] : List Int)).length : Int) ≤ 4 ∧ 0 ≤ (0 : Int) ∧ (0 : Int) ≤ 63) (bindv (numP ((([] : List Int) ++ d0.2.1) ++ ([(d0.1.getD d0.2.2.1.toNat (0 : Int))] : List Int)) (((([] : List Int) ++ d0.2.1) ++ ([(d0.1.getD d0.2.2.1.toNat (0 : Int))] : List Int)).length : Int) (0 : Int)) fun (r7 : Int) =>
         if (d0.2.2.2.2.1.length + ([r7] : List Int).length) * 8 ≤ 140737488355328 ∧ d0.2.2.2.2.1.length + ([r7] : List Int).length ≤ 9223372036854775807 then again0 (d0.1, ([] : List Int), Go.IntKind.wrap .i64 (d0.2.2.1 + (1 : Int)), d0.2.2.2.1, d0.2.2.2.2.1 ++ ([r7] : List Int), ())
         else none)
        else if r5 = true then again0 (d0.1, (([] : List Int) ++ d0.2.1) ++ ([(d0.1.getD d0.2.2.1.toNat (0 : Int))] : List Int), Go.IntKind.wrap .i64 (d0.2.2.1 + (1 : Int)), d0.2.2.2.1, d0.2.2.2.2.1, ())
        else if (decide ((d0.2.1.length : Int) > (0 : Int))) = true then (if (d0.2.2.2.2.1.length + ([65533] : List Int).length) * 8 ≤ 140737488355328 ∧ d0.2.2.2.2.1.length + ([65533] : List Int).length ≤ 9223372036854775807 then again0 (d0.1, ([] : List Int), Go.IntKind.wrap .i64 ((Go.IntKind.wrap .i64 (d0.2.2.1 - (1 : Int))) + (1 : Int)), d0.2.2.2.1, d0.2.2.2.2.1 ++ ([65533] : List Int), ())
         else none)
        else if (d0.2.2.2.2.1.length + ([65533] : List Int).length) * 8 ≤ 140737488355328 ∧ d0.2.2.2.2.1.length + ([65533] : List Int).length ≤ 9223372036854775807 then again0 (d0.1, d0.2.1, Go.IntKind.wrap .i64 (d0.2.2.1 + (1 : Int)), d0.2.2.2.1, d0.2.2.2.2.1 ++ ([65533] : List Int), ())
        else none)
       else if r5 = true then again0 (d0.1, (([] : List Int) ++ d0.2.1) ++ ([(d0.1.getD d0.2.2.1.toNat (0 : Int))] : List Int), Go.IntKind.wrap .i64 (d0.2.2.1 + (1 : Int)), d0.2.2.2.1, d0.2.2.2.2.1, ())
       else if (decide ((d0.2.1.length : Int) > (0 : Int))) = true then (if (d0.2.2.2.2.1.length + ([65533] : List Int).length) * 8 ≤ 140737488355328 ∧ d0.2.2.2.2.1.length + ([65533] : List Int).length ≤ 9223372036854775807 then again0 (d0.1, ([] : List Int), Go.IntKind.wrap .i64 ((Go.IntKind.wrap .i64 (d0.2.2.1 - (1 : Int))) + (1 : Int)), d0.2.2.2.1, d0.2.2.2.2.1 ++ ([65533] : List Int), ())
        else none)
       else if (d0.2.2.2.2.1.length + ([65533] : List Int).length) * 8 ≤ 140737488355328 ∧ d0.2.2.2.2.1.length + ([65533] : List Int).length ≤ 9223372036854775807 then again0 (d0.1, d0.2.1, Go.IntKind.wrap .i64 (d0.2.2.1 + (1 : Int)), d0.2.2.2.1, d0.2.2.2.2.1 ++ ([65533] : List Int), ())
       else none)
      else none)
     else none)
    else none)
   else some ⟨.tup [(true, [(none, ⟨.slice (.int .u8), d0.2.1⟩)]), (false, [(some 3, ⟨.slice (.int .i64), d0.2.2.2.2.1⟩)])], []⟩) k0 (b, ([] : List Int), (0 : Int), ([] : List Int), ([] : List Int), ()))
noncomputable def r_rdec (d_0 : List Int) (b : List Int) : Res := ⟨.tup [(true, [(none, ⟨.slice (.int .u8), (decP ((d_0, ())).1 b).1⟩)]), (false, [(some 3, ⟨.slice (.int .i64), (decP ((d_0, ())).1 b).2⟩)])], []⟩
def c_rdec (d_0 : List Int) (b : List Int) : Prop := Bytes ((d_0, ())).1 ∧ Bytes b
noncomputable def rdecS : Go.Ab.Spec := fun xs => match xs with
  | [.val (true, [(none, ⟨.slice (.int .u8), d_0⟩)]), .val (false, [(none, ⟨.slice (.int .u8), b⟩)])] => .yes (Bytes ((d_0, ())).1 ∧ Bytes b) (Classical.propDecidable _) ⟨.tup [(true, [(none, ⟨.slice (.int .u8), (decP ((d_0, ())).1 b).1⟩)]), (false, [(some 3, ⟨.slice (.int .i64), (decP ((d_0, ())).1 b).2⟩)])], []⟩
  | _ => .no
/- jobmux/jobmuxlaw04.RunesDecodes -/
def sh_runesDecodes_0 : Shape := ⟨[.any, .val false [.hole (.slice (.int .u8))], .any, .any, .any, .any, .any, .val false [.own 16], .any, .any, .any, .any, .any, .any, .any, .any, .any, .any, .any, .any, .any, .any, .any, .any, .any, .any, .any, .any, .any, .any, .any, .any, .any, .any, .any, .any, .any, .val false [.own 161], .val false [.hole (.int .i64)], .val false [.hole (.int .i64)], .any, .any, .any, .any, .any, .any, .any, .any, .any, .any, .any, .any, .any, .any, .any, .any, .any, .any, .any, .any, .any, .any, .any, .any, .any, .any, .any, .any, .any, .any, .any, .any, .any, .any, .any, .any, .any, .any, .any, .any, .any, .any, .any, .any, .any, .any, .any, .any, .any, .any, .any, .any, .any, .any, .any], [(16, .rows 5 (.int .u8) true), (161, .rows 29 (.pair (.slice (.int .u8)) (.unit)) false)]⟩
def sh_runesDecodes_1 : Shape := ⟨[.any, .val false [.hole (.slice (.int .u8))], .any, .any, .any, .any, .any, .val false [.own 16], .any, .val false [.ptr 194 0], .any, .any, .any, .any, .any, .any, .any, .any, .any, .any, .any, .any, .any, .any, .any, .any, .any, .any, .any, .any, .any, .any, .any, .any, .any, .any, .any, .val false [.own 161], .val false [.hole (.int .i64)], .val false [.hole (.int .i64)], .any, .any, .any, .any, .any, .val false [.own 227], .val false [.hole (.int .i64)], .val false [.hole (.int .i64)], .any, .any, .any, .any, .any, .any, .any, .any, .any, .any, .any, .any, .any, .any, .any, .any, .any, .any, .any, .any, .any, .any, .any, .any, .any, .any, .any, .any, .any, .any, .any, .any, .any, .any, .any, .any, .any, .any, .any, .any, .any, .any, .any, .any, .any, .any, .any], [(16, .rows 5 (.int .u8) true), (161, .rows 29 (.pair (.slice (.int .u8)) (.unit)) false), (194, .box [.hole (.slice (.int .u8))]), (227, .rows 23 (.slice (.int .u8)) false)]⟩
noncomputable def m_runesDecodes (k0 : Nat) (k1 : Nat) (rest : List Int) (raw : List Int) (l : List Int) : Option Res :=
  if (decide ((rest.length : Int) > (6 : Int))) = false then (if (decide ((raw.length : Int) > (200 : Int))) = true then some ⟨.val (false, [(none, ⟨.bool, true⟩)]), []⟩
   else need (ListOk l) (if 0 ≤ (0 : Int) ∧ (0 : Int) ≤ Go.Ab.minK ((oddP l).length : Int) (2 : Int) ∧ Go.Ab.minK ((oddP l).length : Int) (2 : Int) ≤ (oddP l).length then loopN (fun (d0 : (List Int) × Int × Int × (List Int) × (List ((List Int) × Unit)) × Unit) again0 =>
     if (decide (d0.2.2.1 < d0.2.1)) = true then (if 0 ≤ d0.2.2.1 ∧ d0.2.2.1 < d0.2.2.2.2.1.length then (if d0.2.2.1 < d0.2.2.2.2.1.length then loopN (fun (d1 : (List Int) × Int × Int × Int × Int × (List Int) × (List ((List Int) × Unit)) × (List Int) × (List (List Int)) × Unit) again1 =>
         if (decide (d1.2.2.2.2.1 < d1.2.2.2.1)) = true then (if 0 ≤ d1.2.2.2.2.1 ∧ d1.2.2.2.2.1 < d1.2.2.2.2.2.2.2.2.1.length then (if d1.2.2.2.2.1 < d1.2.2.2.2.2.2.2.2.1.length then need (Len ((d1.2.2.2.2.2.2.2.1, ())).1 ∧ Len (d1.2.2.2.2.2.2.2.2.1.getD d1.2.2.2.2.1.toNat ([] : List Int))) (bindv (((decP ((d1.2.2.2.2.2.2.2.1, ())).1 (d1.2.2.2.2.2.2.2.2.1.getD d1.2.2.2.2.1.toNat ([] : List Int))).1, ())) fun (r1 : (List Int) × Unit) =>
            bindv ((decP ((d1.2.2.2.2.2.2.2.1, ())).1 (d1.2.2.2.2.2.2.2.2.1.getD d1.2.2.2.2.1.toNat ([] : List Int))).2) fun (r2 : List Int) =>
            need (Bytes ((d1.2.2.2.2.2.2.2.1, ())).1 ∧ Bytes (d1.2.2.2.2.2.2.2.2.1.getD d1.2.2.2.2.1.toNat ([] : List Int))) (bindv (((decP ((d1.2.2.2.2.2.2.2.1, ())).1 (d1.2.2.2.2.2.2.2.2.1.getD d1.2.2.2.2.1.toNat ([] : List Int))).1, ())) fun (r3 : (List Int) × Unit) =>
            bindv ((decP ((d1.2.2.2.2.2.2.2.1, ())).1 (d1.2.2.2.2.2.2.2.2.1.getD d1.2.2.2.2.1.toNat ([] : List Int))).2) fun (r4 : List Int) =>
            bindv (decide (strOfBytes (r1).1 = strOfBytes (r3).1)) fun (r5 : Bool) =>
            if (!r5) = false then need (Len r2) (bindv (decide (r2 = r4)) fun (r6 : Bool) =>
             if (!r6) = false then need (Len ((d1.2.2.2.2.2.2.2.1, ())).1) (bindv (validP ((d1.2.2.2.2.2.2.2.1, ())).1) fun (r7 : Bool) =>
              need (Bytes ((d1.2.2.2.2.2.2.2.1, ())).1) (bindv (validP ((d1.2.2.2.2.2.2.2.1, ())).1) fun (r8 : Bool) =>
              if (r7 != r8) = false then need (Len ((d1.2.2.2.2.2.2.2.1, ())).1) (bindv (flushP ((d1.2.2.2.2.2.2.2.1, ())).1) fun (r9 : List Int) =>
               need (Bytes ((d1.2.2.2.2.2.2.2.1, ())).1) (bindv (flushP ((d1.2.2.2.2.2.2.2.1, ())).1) fun (r10 : List Int) =>
               need (Len r9) (bindv (decide (r9 = r10)) fun (r11 : Bool) =>
               if (!r11) = false then need (Len (r1).1) (if (!(validP (r1).1)) = true then some ⟨.val (false, [(none, ⟨.bool, false⟩)]), []⟩
                else again1 (d1.1, d1.2.1, d1.2.2.1, d1.2.2.2.1, Go.IntKind.wrap .i64 (d1.2.2.2.2.1 + (1 : Int)), d1.2.2.2.2.2.1, d1.2.2.2.2.2.2.1, d1.2.2.2.2.2.2.2.1, d1.2.2.2.2.2.2.2.2.1, ()))
               else some ⟨.val (false, [(none, ⟨.bool, false⟩)]), []⟩)))
              else some ⟨.val (false, [(none, ⟨.bool, false⟩)]), []⟩))
             else some ⟨.val (false, [(none, ⟨.bool, false⟩)]), []⟩)
            else some ⟨.val (false, [(none, ⟨.bool, false⟩)]), []⟩))
           else none)
          else none)
         else again0 (d1.1, d1.2.1, Go.IntKind.wrap .i64 (d1.2.2.1 + (1 : Int)), d1.2.2.2.2.2.1, d1.2.2.2.2.2.2.1, ())) k1 (d0.1, d0.2.1, d0.2.2.1, (([d0.1, d0.2.2.2.1] : List (List Int)).length : Int), (0 : Int), d0.2.2.2.1, d0.2.2.2.2.1, (d0.2.2.2.2.1.getD d0.2.2.1.toNat (([] : List Int), ())).1, ([d0.1, d0.2.2.2.1] : List (List Int)), ())
       else none)
      else none)
     else some ⟨.val (false, [(none, ⟨.bool, true⟩)]), []⟩) k0 (raw, (([(([] : List Int), ()), (rest, ()), (((oddP l).take (Go.Ab.minK ((oddP l).length : Int) (2 : Int)).toNat).drop (0 : Int).toNat, ())] : List ((List Int) × Unit)).length : Int), (0 : Int), oddP l, ([(([] : List Int), ()), (rest, ()), (((oddP l).take (Go.Ab.minK ((oddP l).length : Int) (2 : Int)).toNat).drop (0 : Int).toNat, ())] : List ((List Int) × Unit)), ())
   else none))
  else some ⟨.val (false, [(none, ⟨.bool, true⟩)]), []⟩
end Go.Dec
