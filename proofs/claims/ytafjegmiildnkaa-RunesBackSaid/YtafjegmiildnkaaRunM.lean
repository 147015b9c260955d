/- Models of functions, printed by a program of this session out of Lean's own print of the translation, and the contracts' texts: Run. -/

import Derived.Test.YtafjegmiildnkaaAbPure
import Derived.Test.YtafjegmiildnkaaRunD
namespace Go.Run
open Go.Ab Go.RowKit
set_option linter.unusedVariables false
set_option linter.unusedSimpArgs false
set_option maxRecDepth 100000
/- jobmux/jobmuxmill.Mod -/
noncomputable def m_mod (x : Int) (y : Int) : Option Res :=
  if y ≠ 0 then (if (decide ((Int.tmod x y) < (0 : Int))) = true then some ⟨.val (false, [(none, ⟨.int .i64, Go.IntKind.wrap .i64 ((Int.tmod x y) + y)⟩)]), []⟩
   else some ⟨.val (false, [(none, ⟨.int .i64, Int.tmod x y⟩)]), []⟩)
  else none
noncomputable def r_mod (x : Int) (y : Int) : Res := ⟨.val (false, [(none, ⟨.int .i64, x % y⟩)]), []⟩
def c_mod (x : Int) (y : Int) : Prop := I64 x ∧ 0 < y ∧ I64 y
noncomputable def modS : Go.Ab.Spec := fun xs => match xs with
  | [.val (false, [(none, ⟨.int .i64, x⟩)]), .val (false, [(none, ⟨.int .i64, y⟩)])] => .yes (I64 x ∧ 0 < y ∧ I64 y) (Classical.propDecidable _) ⟨.val (false, [(none, ⟨.int .i64, x % y⟩)]), []⟩
  | _ => .no
/- jobmux/jobmuxmill.New -/
noncomputable def m_new (l : List Int) : Option Res :=
  some ⟨.ptr [⟨.slice (.int .i64), l⟩, ⟨.int .i64, (0 : Int)⟩], []⟩
noncomputable def r_new (l : List Int) : Res := ⟨.ptr [⟨.slice (.int .i64), l⟩, ⟨.int .i64, (0 : Int)⟩], []⟩
def c_new (l : List Int) : Prop := True
noncomputable def newS : Go.Ab.Spec := fun xs => match xs with
  | [.val (false, [(none, ⟨.slice (.int .i64), l⟩)])] => .yes (True) (.isTrue trivial) ⟨.ptr [⟨.slice (.int .i64), l⟩, ⟨.int .i64, (0 : Int)⟩], []⟩
  | _ => .no
/- (*jobmux/jobmuxmill.Deck).Left -/
noncomputable def m_left (d_0 : List Int) (d_1 : Int) : Option Res :=
  some ⟨.val (false, [(none, ⟨.bool, decide (d_1 < (d_0.length : Int))⟩)]), [[(none, ⟨.slice (.int .i64), d_0⟩), (none, ⟨.int .i64, d_1⟩)]]⟩
noncomputable def r_left (d_0 : List Int) (d_1 : Int) : Res := ⟨.val (false, [(none, ⟨.bool, decide ((d_0, (d_1, ())).2.1 < ((d_0, (d_1, ())).1.length : Int))⟩)]), [[(none, ⟨.slice (.int .i64), d_0⟩), (none, ⟨.int .i64, d_1⟩)]]⟩
def c_left (d_0 : List Int) (d_1 : Int) : Prop := True
noncomputable def leftS : Go.Ab.Spec := fun xs => match xs with
  | [.box [(none, ⟨.slice (.int .i64), d_0⟩), (none, ⟨.int .i64, d_1⟩)]] => .yes (True) (.isTrue trivial) ⟨.val (false, [(none, ⟨.bool, decide ((d_0, (d_1, ())).2.1 < ((d_0, (d_1, ())).1.length : Int))⟩)]), [[(none, ⟨.slice (.int .i64), d_0⟩), (none, ⟨.int .i64, d_1⟩)]]⟩
  | _ => .no
/- (*jobmux/jobmuxmill.Deck).Next -/
noncomputable def m_dnxt (d_0 : List Int) (d_1 : Int) (n : Int) : Option Res :=
  bindv (decide ((d_0, (d_1, ())).2.1 < ((d_0, (d_1, ())).1.length : Int))) fun (r1 : Bool) =>
  bindv ((d_0, (d_1, ()))) fun (r2 : (List Int) × (Int × Unit)) =>
  if (!r1) = true then some ⟨.val (false, [(none, ⟨.int .i64, (0 : Int)⟩)]), [[(none, ⟨.slice (.int .i64), r2.1⟩), (none, ⟨.int .i64, r2.2.1⟩)]]⟩
  else if 0 ≤ Go.IntKind.wrap .i64 ((Go.IntKind.wrap .i64 (r2.2.1 + (1 : Int))) - (1 : Int)) ∧ Go.IntKind.wrap .i64 ((Go.IntKind.wrap .i64 (r2.2.1 + (1 : Int))) - (1 : Int)) < r2.1.length then need (I64 (r2.1.getD (Go.IntKind.wrap .i64 ((Go.IntKind.wrap .i64 (r2.2.1 + (1 : Int))) - (1 : Int))).toNat (0 : Int)) ∧ 0 < n ∧ I64 n) (bindv ((r2.1.getD (Go.IntKind.wrap .i64 ((Go.IntKind.wrap .i64 (r2.2.1 + (1 : Int))) - (1 : Int))).toNat (0 : Int)) % n) fun (r3 : Int) =>
   some ⟨.val (false, [(none, ⟨.int .i64, r3⟩)]), [[(none, ⟨.slice (.int .i64), r2.1⟩), (none, ⟨.int .i64, Go.IntKind.wrap .i64 (r2.2.1 + (1 : Int))⟩)]]⟩)
  else none
noncomputable def r_dnxt (d_0 : List Int) (d_1 : Int) (n : Int) : Res := ⟨.val (false, [(none, ⟨.int .i64, dnext (d_0, (d_1, ())) n⟩)]), [[(none, ⟨.slice (.int .i64), (dadv (d_0, (d_1, ()))).1⟩), (none, ⟨.int .i64, ((dadv (d_0, (d_1, ()))).2).1⟩)]]⟩
def c_dnxt (d_0 : List Int) (d_1 : Int) (n : Int) : Prop := DeckOk (d_0, (d_1, ())) ∧ 0 < n ∧ I64 n
noncomputable def dnxtS : Go.Ab.Spec := fun xs => match xs with
  | [.box [(none, ⟨.slice (.int .i64), d_0⟩), (none, ⟨.int .i64, d_1⟩)], .val (false, [(none, ⟨.int .i64, n⟩)])] => .yes (DeckOk (d_0, (d_1, ())) ∧ 0 < n ∧ I64 n) (Classical.propDecidable _) ⟨.val (false, [(none, ⟨.int .i64, dnext (d_0, (d_1, ())) n⟩)]), [[(none, ⟨.slice (.int .i64), (dadv (d_0, (d_1, ()))).1⟩), (none, ⟨.int .i64, ((dadv (d_0, (d_1, ()))).2).1⟩)]]⟩
  | _ => .no
/- slices.Clone[[]byte,byte] -/
noncomputable def m_clone_nil : Option Res :=
  some ⟨.val (false, [(some 5, ⟨.slice (.int .u8), ([] : List Int)⟩)]), []⟩
noncomputable def m_clone (l : List Int) : Option Res :=
  if (([] : List Int).length + l.length) * 1 ≤ 140737488355328 ∧ ([] : List Int).length + l.length ≤ 9223372036854775807 then some ⟨.val (false, [(some 5, ⟨.slice (.int .u8), ([] : List Int) ++ l⟩)]), []⟩
  else none
noncomputable def r_clone (l : List Int) : Res := ⟨.val (false, [(some 5, ⟨.slice (.int .u8), l⟩)]), []⟩
def c_clone (l : List Int) : Prop := Len l
noncomputable def cloneS : Go.Ab.Spec := fun xs => match xs with
  | [.val (false, [(none, ⟨.slice (.int .u8), l⟩)])] => .yes (Len l) (Classical.propDecidable _) ⟨.val (false, [(some 5, ⟨.slice (.int .u8), l⟩)]), []⟩
  | _ => .no
/- jobmux/runes.size -/
noncomputable def m_size (b : Int) : Option Res :=
  if (decide (b < (128 : Int))) = true then some ⟨.val (false, [(none, ⟨.int .i64, (1 : Int)⟩)]), []⟩
  else if (decide (b ≥ (194 : Int))) = true then (if (decide (b ≤ (223 : Int))) = true then some ⟨.val (false, [(none, ⟨.int .i64, (2 : Int)⟩)]), []⟩
   else if (decide (b ≥ (224 : Int))) = true then (if (decide (b ≤ (239 : Int))) = true then some ⟨.val (false, [(none, ⟨.int .i64, (3 : Int)⟩)]), []⟩
    else if (decide (b ≥ (240 : Int))) = true then (if (decide (b ≤ (244 : Int))) = true then some ⟨.val (false, [(none, ⟨.int .i64, (4 : Int)⟩)]), []⟩
     else some ⟨.val (false, [(none, ⟨.int .i64, (0 : Int)⟩)]), []⟩)
    else some ⟨.val (false, [(none, ⟨.int .i64, (0 : Int)⟩)]), []⟩)
   else if (decide (b ≥ (240 : Int))) = true then (if (decide (b ≤ (244 : Int))) = true then some ⟨.val (false, [(none, ⟨.int .i64, (4 : Int)⟩)]), []⟩
    else some ⟨.val (false, [(none, ⟨.int .i64, (0 : Int)⟩)]), []⟩)
   else some ⟨.val (false, [(none, ⟨.int .i64, (0 : Int)⟩)]), []⟩)
  else if (decide (b ≥ (224 : Int))) = true then (if (decide (b ≤ (239 : Int))) = true then some ⟨.val (false, [(none, ⟨.int .i64, (3 : Int)⟩)]), []⟩
   else if (decide (b ≥ (240 : Int))) = true then (if (decide (b ≤ (244 : Int))) = true then some ⟨.val (false, [(none, ⟨.int .i64, (4 : Int)⟩)]), []⟩
    else some ⟨.val (false, [(none, ⟨.int .i64, (0 : Int)⟩)]), []⟩)
   else some ⟨.val (false, [(none, ⟨.int .i64, (0 : Int)⟩)]), []⟩)
  else if (decide (b ≥ (240 : Int))) = true then (if (decide (b ≤ (244 : Int))) = true then some ⟨.val (false, [(none, ⟨.int .i64, (4 : Int)⟩)]), []⟩
   else some ⟨.val (false, [(none, ⟨.int .i64, (0 : Int)⟩)]), []⟩)
  else some ⟨.val (false, [(none, ⟨.int .i64, (0 : Int)⟩)]), []⟩
noncomputable def r_size (b : Int) : Res := ⟨.val (false, [(none, ⟨.int .i64, sizeP b⟩)]), []⟩
def c_size (b : Int) : Prop := True
noncomputable def sizeS : Go.Ab.Spec := fun xs => match xs with
  | [.val (false, [(none, ⟨.int .u8, b⟩)])] => .yes (True) (.isTrue trivial) ⟨.val (false, [(none, ⟨.int .i64, sizeP b⟩)]), []⟩
  | _ => .no
/- jobmux/runes.second -/
noncomputable def m_second (f : Int) (b : Int) : Option Res :=
  if (f == (224 : Int)) = true then (if (decide (b ≥ (160 : Int))) = true then some ⟨.val (false, [(none, ⟨.bool, decide (b ≤ (191 : Int))⟩)]), []⟩
   else some ⟨.val (false, [(none, ⟨.bool, false⟩)]), []⟩)
  else if (f == (237 : Int)) = true then (if (decide (b ≥ (128 : Int))) = true then some ⟨.val (false, [(none, ⟨.bool, decide (b ≤ (159 : Int))⟩)]), []⟩
   else some ⟨.val (false, [(none, ⟨.bool, false⟩)]), []⟩)
  else if (f == (240 : Int)) = true then (if (decide (b ≥ (144 : Int))) = true then some ⟨.val (false, [(none, ⟨.bool, decide (b ≤ (191 : Int))⟩)]), []⟩
   else some ⟨.val (false, [(none, ⟨.bool, false⟩)]), []⟩)
  else if (f == (244 : Int)) = true then (if (decide (b ≥ (128 : Int))) = true then some ⟨.val (false, [(none, ⟨.bool, decide (b ≤ (143 : Int))⟩)]), []⟩
   else some ⟨.val (false, [(none, ⟨.bool, false⟩)]), []⟩)
  else if (decide (b ≥ (128 : Int))) = true then some ⟨.val (false, [(none, ⟨.bool, decide (b ≤ (191 : Int))⟩)]), []⟩
  else some ⟨.val (false, [(none, ⟨.bool, false⟩)]), []⟩
noncomputable def r_second (f : Int) (b : Int) : Res := ⟨.val (false, [(none, ⟨.bool, secondP f b⟩)]), []⟩
def c_second (f : Int) (b : Int) : Prop := True
noncomputable def secondS : Go.Ab.Spec := fun xs => match xs with
  | [.val (false, [(none, ⟨.int .u8, f⟩)]), .val (false, [(none, ⟨.int .u8, b⟩)])] => .yes (True) (.isTrue trivial) ⟨.val (false, [(none, ⟨.bool, secondP f b⟩)]), []⟩
  | _ => .no
/- jobmux/runes.part -/
def sh_part_0 : Shape := ⟨[.val false [.hole (.slice (.int .u8))], .any, .any, .any, .any, .any, .any, .any, .any, .any, .any, .any, .any, .any, .any, .any, .any, .any, .val false [.hole (.slice (.int .u8))], .val false [.hole (.int .i64)], .val false [.hole (.int .i64)], .any, .any, .any, .any, .any, .any, .any, .any, .any, .any, .any, .any, .any, .any, .any, .any, .any, .any, .any, .any, .any, .any, .any, .any, .any, .any, .any, .any, .any, .any, .any, .any, .any, .any, .any, .any, .any], []⟩
noncomputable def m_part (k0 : Nat) (l : List Int) : Option Res :=
  if ((l.length : Int) == (0 : Int)) = false then (if 0 ≤ (0 : Int) ∧ (0 : Int) < l.length then (bindv (sizeP (l.getD (0 : Int).toNat (0 : Int))) fun (r1 : Int) =>
    if (decide ((l.length : Int) > r1)) = true then some ⟨.tup [(false, [(none, ⟨.bool, false⟩)]), (false, [(none, ⟨.bool, false⟩)])], []⟩
    else loopN (fun (d0 : (List Int) × (List Int) × Int × Int × Unit) again0 =>
     if (decide (d0.2.2.2.1 < d0.2.2.1)) = true then (if 0 ≤ d0.2.2.2.1 ∧ d0.2.2.2.1 < d0.2.1.length then (if (d0.2.2.2.1 == (1 : Int)) = true then (if 0 ≤ (0 : Int) ∧ (0 : Int) < d0.1.length then (bindv (secondP (d0.1.getD (0 : Int).toNat (0 : Int)) (d0.2.1.getD d0.2.2.2.1.toNat (0 : Int))) fun (r2 : Bool) =>
         if (!r2) = false then (if (decide (d0.2.2.2.1 > (1 : Int))) = true then (if (decide ((d0.2.1.getD d0.2.2.2.1.toNat (0 : Int)) < (128 : Int))) = false then (if (decide ((d0.2.1.getD d0.2.2.2.1.toNat (0 : Int)) > (191 : Int))) = true then some ⟨.tup [(false, [(none, ⟨.bool, false⟩)]), (false, [(none, ⟨.bool, false⟩)])], []⟩
            else again0 (d0.1, d0.2.1, d0.2.2.1, Go.IntKind.wrap .i64 (d0.2.2.2.1 + (1 : Int)), ()))
           else some ⟨.tup [(false, [(none, ⟨.bool, false⟩)]), (false, [(none, ⟨.bool, false⟩)])], []⟩)
          else again0 (d0.1, d0.2.1, d0.2.2.1, Go.IntKind.wrap .i64 (d0.2.2.2.1 + (1 : Int)), ()))
         else some ⟨.tup [(false, [(none, ⟨.bool, false⟩)]), (false, [(none, ⟨.bool, false⟩)])], []⟩)
        else none)
       else if (decide (d0.2.2.2.1 > (1 : Int))) = true then (if (decide ((d0.2.1.getD d0.2.2.2.1.toNat (0 : Int)) < (128 : Int))) = false then (if (decide ((d0.2.1.getD d0.2.2.2.1.toNat (0 : Int)) > (191 : Int))) = true then some ⟨.tup [(false, [(none, ⟨.bool, false⟩)]), (false, [(none, ⟨.bool, false⟩)])], []⟩
         else again0 (d0.1, d0.2.1, d0.2.2.1, Go.IntKind.wrap .i64 (d0.2.2.2.1 + (1 : Int)), ()))
        else some ⟨.tup [(false, [(none, ⟨.bool, false⟩)]), (false, [(none, ⟨.bool, false⟩)])], []⟩)
       else again0 (d0.1, d0.2.1, d0.2.2.1, Go.IntKind.wrap .i64 (d0.2.2.2.1 + (1 : Int)), ()))
      else none)
     else if 0 ≤ (0 : Int) ∧ (0 : Int) < d0.1.length then (bindv (sizeP (d0.1.getD (0 : Int).toNat (0 : Int))) fun (r3 : Int) =>
      some ⟨.tup [(false, [(none, ⟨.bool, !((d0.1.length : Int) == r3)⟩)]), (false, [(none, ⟨.bool, (d0.1.length : Int) == r3⟩)])], []⟩)
     else none) k0 (l, l, (l.length : Int), (0 : Int), ()))
   else none)
  else some ⟨.tup [(false, [(none, ⟨.bool, false⟩)]), (false, [(none, ⟨.bool, false⟩)])], []⟩
noncomputable def r_part (l : List Int) : Res := ⟨.tup [(false, [(none, ⟨.bool, (partP l).1⟩)]), (false, [(none, ⟨.bool, (partP l).2⟩)])], []⟩
def c_part (l : List Int) : Prop := Len l
noncomputable def partS : Go.Ab.Spec := fun xs => match xs with
  | [.val (false, [(none, ⟨.slice (.int .u8), l⟩)])] => .yes (Len l) (Classical.propDecidable _) ⟨.tup [(false, [(none, ⟨.bool, (partP l).1⟩)]), (false, [(none, ⟨.bool, (partP l).2⟩)])], []⟩
  | _ => .no
/- jobmux/runes.Valid -/
noncomputable def m_valid (d_0 : List Int) : Option Res :=
  need (Len d_0) (if ((d_0.length : Int) == (0 : Int)) = false then some ⟨.val (false, [(none, ⟨.bool, (partP d_0).1⟩)]), []⟩
  else some ⟨.val (false, [(none, ⟨.bool, true⟩)]), []⟩)
noncomputable def r_valid (d_0 : List Int) : Res := ⟨.val (false, [(none, ⟨.bool, validP ((d_0, ())).1⟩)]), []⟩
def c_valid (d_0 : List Int) : Prop := Len ((d_0, ())).1
noncomputable def validS : Go.Ab.Spec := fun xs => match xs with
  | [.val (true, [(none, ⟨.slice (.int .u8), d_0⟩)])] => .yes (Len ((d_0, ())).1) (Classical.propDecidable _) ⟨.val (false, [(none, ⟨.bool, validP ((d_0, ())).1⟩)]), []⟩
  | _ => .no
/- jobmux/runes.character -/
def sh_char_0 : Shape := ⟨[.any, .any, .any, .val false [.hole (.int .i64)], .any, .any, .any, .any, .any, .any, .any, .any, .any, .any, .any, .any, .any, .any, .any, .any, .val false [.hole (.slice (.int .u8))], .val false [.hole (.int .i64)], .val false [.hole (.int .i64)], .any, .any, .any, .any, .any, .any, .any, .any, .any, .any, .any], []⟩
noncomputable def m_char (k0 : Nat) (l : List Int) : Option Res :=
  if 0 ≤ (0 : Int) ∧ (0 : Int) < l.length then (if (decide ((l.length : Int) > (1 : Int))) = true then (if 0 ≤ (l.length : Int) then (if 0 ≤ (1 : Int) ∧ (1 : Int) ≤ (l.length : Int) ∧ (l.length : Int) ≤ l.length then loopN (fun (d0 : Int × (List Int) × Int × Int × Unit) again0 =>
       if (decide (d0.2.2.2.1 < d0.2.2.1)) = true then (if 0 ≤ d0.2.2.2.1 ∧ d0.2.2.2.1 < d0.2.1.length then again0 (Go.IntKind.wrap .i64 ((BitVec.ofInt 64 (Go.IntKind.wrap .i64 (d0.1 * 2 ^ min (6 : Int).toNat 64)) ||| BitVec.ofInt 64 (Go.IntKind.wrap .i64 (Go.IntKind.wrap .u8 ((BitVec.ofInt 8 (d0.2.1.getD d0.2.2.2.1.toNat (0 : Int)) &&& BitVec.ofInt 8 (63 : Int)).toNat : Int)))).toNat : Int), d0.2.1, d0.2.2.1, Go.IntKind.wrap .i64 (d0.2.2.2.1 + (1 : Int)), ())
        else none)
       else some ⟨.val (false, [(none, ⟨.int .i64, d0.1⟩)]), []⟩) k0 (Go.IntKind.wrap .i64 ((BitVec.ofInt 64 (Go.IntKind.wrap .i64 (l.getD (0 : Int).toNat (0 : Int))) &&& BitVec.ofInt 64 (Int.fdiv (127 : Int) (2 ^ min (l.length : Int).toNat 64))).toNat : Int), (l.take (l.length : Int).toNat).drop (1 : Int).toNat, (((l.take (l.length : Int).toNat).drop (1 : Int).toNat).length : Int), (0 : Int), ())
     else none)
    else none)
   else if 0 ≤ (1 : Int) ∧ (1 : Int) ≤ (l.length : Int) ∧ (l.length : Int) ≤ l.length then loopN (fun (d0 : Int × (List Int) × Int × Int × Unit) again0 =>
     if (decide (d0.2.2.2.1 < d0.2.2.1)) = true then (if 0 ≤ d0.2.2.2.1 ∧ d0.2.2.2.1 < d0.2.1.length then again0 (Go.IntKind.wrap .i64 ((BitVec.ofInt 64 (Go.IntKind.wrap .i64 (d0.1 * 2 ^ min (6 : Int).toNat 64)) ||| BitVec.ofInt 64 (Go.IntKind.wrap .i64 (Go.IntKind.wrap .u8 ((BitVec.ofInt 8 (d0.2.1.getD d0.2.2.2.1.toNat (0 : Int)) &&& BitVec.ofInt 8 (63 : Int)).toNat : Int)))).toNat : Int), d0.2.1, d0.2.2.1, Go.IntKind.wrap .i64 (d0.2.2.2.1 + (1 : Int)), ())
      else none)
     else some ⟨.val (false, [(none, ⟨.int .i64, d0.1⟩)]), []⟩) k0 (Go.IntKind.wrap .i64 (l.getD (0 : Int).toNat (0 : Int)), (l.take (l.length : Int).toNat).drop (1 : Int).toNat, (((l.take (l.length : Int).toNat).drop (1 : Int).toNat).length : Int), (0 : Int), ())
   else none)
  else none
noncomputable def r_char (l : List Int) : Res := ⟨.val (false, [(none, ⟨.int .i64, charP l⟩)]), []⟩
def c_char (l : List Int) : Prop := 1 ≤ l.length ∧ l.length ≤ 4
noncomputable def charS : Go.Ab.Spec := fun xs => match xs with
  | [.val (false, [(none, ⟨.slice (.int .u8), l⟩)])] => .yes (1 ≤ l.length ∧ l.length ≤ 4) (Classical.propDecidable _) ⟨.val (false, [(none, ⟨.int .i64, charP l⟩)]), []⟩
  | _ => .no
/- jobmux/runes.Decode -/
def sh_dec_0 : Shape := ⟨[.any, .val false [.hole (.slice (.int .u8))], .any, .any, .val false [.ptr 16 0], .any, .val false [.hole (.slice (.int .u8))], .val false [.own 66], .val false [.hole (.int .i64)], .any, .any, .any, .any, .any, .any, .any, .any, .any, .any, .any, .any, .any, .any, .any, .any, .any, .any, .any, .any, .any, .any, .any, .any, .any, .any, .any, .any, .any, .any, .any, .any, .any, .any, .any, .any, .any, .any, .any, .any, .any, .any, .any, .any, .any, .any, .any, .any, .any, .any, .any, .any, .any], [(16, .box [.hole (.slice (.int .u8))]), (66, .rows 3 (.int .i64) false)]⟩
noncomputable def m_dec (k0 : Nat) (d_0 : List Int) (b : List Int) : Option Res :=
  need (Len ((d_0, ())).1) (bindv (validP ((d_0, ())).1) fun (r1 : Bool) =>
  if r1 = true then need (Len d_0) (loopN (fun (d0 : (List Int) × (List Int) × Int × (List Int) × (List Int) × Unit) again0 =>
    if (decide (d0.2.2.1 < (d0.1.length : Int))) = true then (if 0 ≤ (0 : Int) ∧ (0 : Int) ≤ (d0.2.1.length : Int) ∧ (d0.2.1.length : Int) = (d0.2.1.length : Int) ∧ (d0.2.1.length : Int) ≤ d0.2.1.length then (if 0 ≤ d0.2.2.1 ∧ d0.2.2.1 < d0.1.length then (if (((d0.2.1.take (d0.2.1.length : Int).toNat).drop (0 : Int).toNat).length + ([(d0.1.getD d0.2.2.1.toNat (0 : Int))] : List Int).length) * 1 ≤ 140737488355328 ∧ ((d0.2.1.take (d0.2.1.length : Int).toNat).drop (0 : Int).toNat).length + ([(d0.1.getD d0.2.2.1.toNat (0 : Int))] : List Int).length ≤ 9223372036854775807 then need (Len (((d0.2.1.take (d0.2.1.length : Int).toNat).drop (0 : Int).toNat) ++ ([(d0.1.getD d0.2.2.1.toNat (0 : Int))] : List Int))) (bindv ((partP (((d0.2.1.take (d0.2.1.length : Int).toNat).drop (0 : Int).toNat) ++ ([(d0.1.getD d0.2.2.1.toNat (0 : Int))] : List Int))).1) fun (r2 : Bool) =>
        bindv ((partP (((d0.2.1.take (d0.2.1.length : Int).toNat).drop (0 : Int).toNat) ++ ([(d0.1.getD d0.2.2.1.toNat (0 : Int))] : List Int))).2) fun (r3 : Bool) =>
        if r2 = true then again0 (d0.1, ((d0.2.1.take (d0.2.1.length : Int).toNat).drop (0 : Int).toNat) ++ ([(d0.1.getD d0.2.2.1.toNat (0 : Int))] : List Int), Go.IntKind.wrap .i64 (d0.2.2.1 + (1 : Int)), d0.2.2.2.1, d0.2.2.2.2.1, ())
        else if r3 = true then need (1 ≤ (((d0.2.1.take (d0.2.1.length : Int).toNat).drop (0 : Int).toNat) ++ ([(d0.1.getD d0.2.2.1.toNat (0 : Int))] : List Int)).length ∧ (((d0.2.1.take (d0.2.1.length : Int).toNat).drop (0 : Int).toNat) ++ ([(d0.1.getD d0.2.2.1.toNat (0 : Int))] : List Int)).length ≤ 4) (bindv (charP (((d0.2.1.take (d0.2.1.length : Int).toNat).drop (0 : Int).toNat) ++ ([(d0.1.getD d0.2.2.1.toNat (0 : Int))] : List Int))) fun (r4 : Int) =>
         if (d0.2.2.2.2.1.length + ([r4] : List Int).length) * 8 ≤ 140737488355328 ∧ d0.2.2.2.2.1.length + ([r4] : List Int).length ≤ 9223372036854775807 then again0 (d0.1, ([] : List Int), Go.IntKind.wrap .i64 (d0.2.2.1 + (1 : Int)), d0.2.2.2.1, d0.2.2.2.2.1 ++ ([r4] : List Int), ())
         else none)
        else if (decide ((d0.2.1.length : Int) > (0 : Int))) = true then (if (d0.2.2.2.2.1.length + ([65533] : List Int).length) * 8 ≤ 140737488355328 ∧ d0.2.2.2.2.1.length + ([65533] : List Int).length ≤ 9223372036854775807 then again0 (d0.1, ([] : List Int), Go.IntKind.wrap .i64 ((Go.IntKind.wrap .i64 (d0.2.2.1 - (1 : Int))) + (1 : Int)), d0.2.2.2.1, d0.2.2.2.2.1 ++ ([65533] : List Int), ())
         else none)
        else if (d0.2.2.2.2.1.length + ([65533] : List Int).length) * 8 ≤ 140737488355328 ∧ d0.2.2.2.2.1.length + ([65533] : List Int).length ≤ 9223372036854775807 then again0 (d0.1, ([] : List Int), Go.IntKind.wrap .i64 (d0.2.2.1 + (1 : Int)), d0.2.2.2.1, d0.2.2.2.2.1 ++ ([65533] : List Int), ())
        else none)
       else none)
      else none)
     else none)
    else some ⟨.tup [(true, [(none, ⟨.slice (.int .u8), d0.2.1⟩)]), (false, [(some 3, ⟨.slice (.int .i64), d0.2.2.2.2.1⟩)])], []⟩) k0 (b, d_0, (0 : Int), ([] : List Int), ([] : List Int), ()))
  else loopN (fun (d0 : (List Int) × (List Int) × Int × (List Int) × (List Int) × Unit) again0 =>
   if (decide (d0.2.2.1 < (d0.1.length : Int))) = true then (if 0 ≤ (0 : Int) ∧ (0 : Int) ≤ (d0.2.1.length : Int) ∧ (d0.2.1.length : Int) = (d0.2.1.length : Int) ∧ (d0.2.1.length : Int) ≤ d0.2.1.length then (if 0 ≤ d0.2.2.1 ∧ d0.2.2.1 < d0.1.length then (if (((d0.2.1.take (d0.2.1.length : Int).toNat).drop (0 : Int).toNat).length + ([(d0.1.getD d0.2.2.1.toNat (0 : Int))] : List Int).length) * 1 ≤ 140737488355328 ∧ ((d0.2.1.take (d0.2.1.length : Int).toNat).drop (0 : Int).toNat).length + ([(d0.1.getD d0.2.2.1.toNat (0 : Int))] : List Int).length ≤ 9223372036854775807 then need (Len (((d0.2.1.take (d0.2.1.length : Int).toNat).drop (0 : Int).toNat) ++ ([(d0.1.getD d0.2.2.1.toNat (0 : Int))] : List Int))) (bindv ((partP (((d0.2.1.take (d0.2.1.length : Int).toNat).drop (0 : Int).toNat) ++ ([(d0.1.getD d0.2.2.1.toNat (0 : Int))] : List Int))).1) fun (r5 : Bool) =>
       bindv ((partP (((d0.2.1.take (d0.2.1.length : Int).toNat).drop (0 : Int).toNat) ++ ([(d0.1.getD d0.2.2.1.toNat (0 : Int))] : List Int))).2) fun (r6 : Bool) =>
       if r5 = true then again0 (d0.1, ((d0.2.1.take (d0.2.1.length : Int).toNat).drop (0 : Int).toNat) ++ ([(d0.1.getD d0.2.2.1.toNat (0 : Int))] : List Int), Go.IntKind.wrap .i64 (d0.2.2.1 + (1 : Int)), d0.2.2.2.1, d0.2.2.2.2.1, ())
       else if r6 = true then need (1 ≤ (((d0.2.1.take (d0.2.1.length : Int).toNat).drop (0 : Int).toNat) ++ ([(d0.1.getD d0.2.2.1.toNat (0 : Int))] : List Int)).length ∧ (((d0.2.1.take (d0.2.1.length : Int).toNat).drop (0 : Int).toNat) ++ ([(d0.1.getD d0.2.2.1.toNat (0 : Int))] : List Int)).length ≤ 4) (bindv (charP (((d0.2.1.take (d0.2.1.length : Int).toNat).drop (0 : Int).toNat) ++ ([(d0.1.getD d0.2.2.1.toNat (0 : Int))] : List Int))) fun (r7 : Int) =>
        if (d0.2.2.2.2.1.length + ([r7] : List Int).length) * 8 ≤ 140737488355328 ∧ d0.2.2.2.2.1.length + ([r7] : List Int).length ≤ 9223372036854775807 then again0 (d0.1, ([] : List Int), Go.IntKind.wrap .i64 (d0.2.2.1 + (1 : Int)), d0.2.2.2.1, d0.2.2.2.2.1 ++ ([r7] : List Int), ())
        else none)
       else if (decide ((d0.2.1.length : Int) > (0 : Int))) = true then (if (d0.2.2.2.2.1.length + ([65533] : List Int).length) * 8 ≤ 140737488355328 ∧ d0.2.2.2.2.1.length + ([65533] : List Int).length ≤ 9223372036854775807 then again0 (d0.1, ([] : List Int), Go.IntKind.wrap .i64 ((Go.IntKind.wrap .i64 (d0.2.2.1 - (1 : Int))) + (1 : Int)), d0.2.2.2.1, d0.2.2.2.2.1 ++ ([65533] : List Int), ())
        else none)
       else if (d0.2.2.2.2.1.length + ([65533] : List Int).length) * 8 ≤ 140737488355328 ∧ d0.2.2.2.2.1.length + ([65533] : List Int).length ≤ 9223372036854775807 then again0 (d0.1, ([] : List Int), Go.IntKind.wrap .i64 (d0.2.2.1 + (1 : Int)), d0.2.2.2.1, d0.2.2.2.2.1 ++ ([65533] : List Int), ())
       else none)
      else none)
     else none)
    else none)
   else some ⟨.tup [(true, [(none, ⟨.slice (.int .u8), d0.2.1⟩)]), (false, [(some 3, ⟨.slice (.int .i64), d0.2.2.2.2.1⟩)])], []⟩) k0 (b, ([] : List Int), (0 : Int), ([] : List Int), ([] : List Int), ()))
noncomputable def r_dec (d_0 : List Int) (b : List Int) : Res := ⟨.tup [(true, [(none, ⟨.slice (.int .u8), (decP ((d_0, ())).1 b).1⟩)]), (false, [(some 3, ⟨.slice (.int .i64), (decP ((d_0, ())).1 b).2⟩)])], []⟩
def c_dec (d_0 : List Int) (b : List Int) : Prop := Len ((d_0, ())).1 ∧ Len b
noncomputable def decS : Go.Ab.Spec := fun xs => match xs with
  | [.val (true, [(none, ⟨.slice (.int .u8), d_0⟩)]), .val (false, [(none, ⟨.slice (.int .u8), b⟩)])] => .yes (Len ((d_0, ())).1 ∧ Len b) (Classical.propDecidable _) ⟨.tup [(true, [(none, ⟨.slice (.int .u8), (decP ((d_0, ())).1 b).1⟩)]), (false, [(some 3, ⟨.slice (.int .i64), (decP ((d_0, ())).1 b).2⟩)])], []⟩
  | _ => .no
/- jobmux/jobmuxlaw04.odd -/
def sh_odd_0 : Shape := ⟨[.any, .any, .any, .val false [.ptr 17 0], .val false [.own 18], .any, .any, .any, .any, .any, .any, .any, .any, .any, .any, .any, .any, .any, .any, .any, .any, .any, .any], [(17, .box [.hole (.slice (.int .i64)), .hole (.int .i64)]), (18, .rows 5 (.int .u8) false)]⟩
noncomputable def m_odd (k0 : Nat) (l : List Int) : Option Res :=
  bindv ((l, (0 : Int), ())) fun (r1 : (List Int) × (Int × Unit)) =>
  loopN (fun (d0 : (List Int) × Int × (List Int) × Unit) again0 =>
   bindv (decide ((d0.1, (d0.2.1, ())).2.1 < ((d0.1, (d0.2.1, ())).1.length : Int))) fun (r2 : Bool) =>
   bindv ((d0.1, (d0.2.1, ()))) fun (r3 : (List Int) × (Int × Unit)) =>
   if r2 = true then (if (decide ((d0.2.2.1.length : Int) < (60 : Int))) = true then need (DeckOk r3 ∧ 0 < (21 : Int) ∧ I64 (21 : Int)) (bindv (dnext r3 (21 : Int)) fun (r4 : Int) =>
     if 0 ≤ r4 ∧ r4 < ([65, 127, 128, 143, 144, 159, 160, 191, 192, 193, 194, 223, 224, 226, 237, 239, 240, 241, 244, 245, 255] : List Int).length then (if r4 < ([65, 127, 128, 143, 144, 159, 160, 191, 192, 193, 194, 223, 224, 226, 237, 239, 240, 241, 244, 245, 255] : List Int).length then (if (d0.2.2.1.length + ([(([65, 127, 128, 143, 144, 159, 160, 191, 192, 193, 194, 223, 224, 226, 237, 239, 240, 241, 244, 245, 255] : List Int).getD r4.toNat (0 : Int))] : List Int).length) * 1 ≤ 140737488355328 ∧ d0.2.2.1.length + ([(([65, 127, 128, 143, 144, 159, 160, 191, 192, 193, 194, 223, 224, 226, 237, 239, 240, 241, 244, 245, 255] : List Int).getD r4.toNat (0 : Int))] : List Int).length ≤ 9223372036854775807 then again0 ((dadv r3).1, ((dadv r3).2).1, d0.2.2.1 ++ ([(([65, 127, 128, 143, 144, 159, 160, 191, 192, 193, 194, 223, 224, 226, 237, 239, 240, 241, 244, 245, 255] : List Int).getD r4.toNat (0 : Int))] : List Int), ())
       else none)
      else none)
     else none)
    else some ⟨.val (false, [(some 5, ⟨.slice (.int .u8), d0.2.2.1⟩)]), []⟩)
   else some ⟨.val (false, [(some 5, ⟨.slice (.int .u8), d0.2.2.1⟩)]), []⟩) k0 (r1.1, r1.2.1, ([] : List Int), ())
noncomputable def r_odd (l : List Int) : Res := ⟨.val (false, [(some 5, ⟨.slice (.int .u8), oddP l⟩)]), []⟩
def c_odd (l : List Int) : Prop := ListOk l
noncomputable def oddS : Go.Ab.Spec := fun xs => match xs with
  | [.val (false, [(none, ⟨.slice (.int .i64), l⟩)])] => .yes (ListOk l) (Classical.propDecidable _) ⟨.val (false, [(some 5, ⟨.slice (.int .u8), oddP l⟩)]), []⟩
  | _ => .no
/- jobmux/jobmuxlaw04.same -/
def sh_same_0 : Shape := ⟨[.val false [.hole (.slice (.int .i64))], .val false [.hole (.slice (.int .i64))], .any, .any, .any, .any, .any, .any, .any, .any, .any, .any, .val false [.hole (.int .i64)], .val false [.hole (.int .i64)], .any, .any, .any, .any, .any, .any, .any, .any, .any, .any, .any, .any], []⟩
noncomputable def m_same (k0 : Nat) (a : List Int) (b : List Int) : Option Res :=
  if ((a.length : Int) != (b.length : Int)) = true then some ⟨.val (false, [(none, ⟨.bool, false⟩)]), []⟩
  else loopN (fun (d0 : (List Int) × (List Int) × Int × Int × Unit) again0 =>
   if (decide (d0.2.2.2.1 < d0.2.2.1)) = true then (if 0 ≤ d0.2.2.2.1 ∧ d0.2.2.2.1 < d0.1.length then (if 0 ≤ d0.2.2.2.1 ∧ d0.2.2.2.1 < d0.2.1.length then (if ((d0.1.getD d0.2.2.2.1.toNat (0 : Int)) != (d0.2.1.getD d0.2.2.2.1.toNat (0 : Int))) = true then some ⟨.val (false, [(none, ⟨.bool, false⟩)]), []⟩
      else again0 (d0.1, d0.2.1, d0.2.2.1, Go.IntKind.wrap .i64 (d0.2.2.2.1 + (1 : Int)), ()))
     else none)
    else none)
   else some ⟨.val (false, [(none, ⟨.bool, true⟩)]), []⟩) k0 (a, b, (a.length : Int), (0 : Int), ())
noncomputable def r_same (a : List Int) (b : List Int) : Res := ⟨.val (false, [(none, ⟨.bool, decide (a = b)⟩)]), []⟩
def c_same (a : List Int) (b : List Int) : Prop := Len a
noncomputable def sameS : Go.Ab.Spec := fun xs => match xs with
  | [.val (false, [(none, ⟨.slice (.int .i64), a⟩)]), .val (false, [(none, ⟨.slice (.int .i64), b⟩)])] => .yes (Len a) (Classical.propDecidable _) ⟨.val (false, [(none, ⟨.bool, decide (a = b)⟩)]), []⟩
  | _ => .no
/- jobmux/jobmuxref04.Same -/
noncomputable def m_rsame (a_0 : List Int) (b_0 : List Int) : Option Res :=
  some ⟨.val (false, [(none, ⟨.bool, (strOfBytes a_0).toList == (strOfBytes b_0).toList⟩)]), []⟩
noncomputable def r_rsame (a_0 : List Int) (b_0 : List Int) : Res := ⟨.val (false, [(none, ⟨.bool, decide (strOfBytes ((a_0, ())).1 = strOfBytes ((b_0, ())).1)⟩)]), []⟩
def c_rsame (a_0 : List Int) (b_0 : List Int) : Prop := True
noncomputable def rsameS : Go.Ab.Spec := fun xs => match xs with
  | [.val (true, [(none, ⟨.slice (.int .u8), a_0⟩)]), .val (true, [(none, ⟨.slice (.int .u8), b_0⟩)])] => .yes (True) (.isTrue trivial) ⟨.val (false, [(none, ⟨.bool, decide (strOfBytes ((a_0, ())).1 = strOfBytes ((b_0, ())).1)⟩)]), []⟩
  | _ => .no
/- jobmux/jobmuxlaw04.sane -/
noncomputable def m_sane  : Option Res :=
  need (Len ((([] : List Int), ())).1 ∧ Len ([226, 130] : List Int)) (bindv (((decP ((([] : List Int), ())).1 ([226, 130] : List Int)).1, ())) fun (r1 : (List Int) × Unit) =>
  bindv ((decP ((([] : List Int), ())).1 ([226, 130] : List Int)).2) fun (r2 : List Int) =>
  need (Len (r1).1 ∧ Len ([172] : List Int)) (bindv (((decP (r1).1 ([172] : List Int)).1, ())) fun (r3 : (List Int) × Unit) =>
  bindv ((decP (r1).1 ([172] : List Int)).2) fun (r4 : List Int) =>
  if ((r2.length : Int) == (0 : Int)) = true then (if ((r1.1.length : Int) == (2 : Int)) = true then (if ((r4.length : Int) == (1 : Int)) = true then (if 0 ≤ (0 : Int) ∧ (0 : Int) < r4.length then (if (0 : Int) < r4.length then some ⟨.val (false, [(none, ⟨.bool, (r4.getD (0 : Int).toNat (0 : Int)) == (8364 : Int)⟩)]), []⟩
      else none)
     else none)
    else some ⟨.val (false, [(none, ⟨.bool, false⟩)]), []⟩)
   else some ⟨.val (false, [(none, ⟨.bool, false⟩)]), []⟩)
  else some ⟨.val (false, [(none, ⟨.bool, false⟩)]), []⟩))
noncomputable def r_sane  : Res := ⟨.val (false, [(none, ⟨.bool, true⟩)]), []⟩
def c_sane  : Prop := True
noncomputable def saneS : Go.Ab.Spec := fun xs => match xs with
  | [] => .yes (True) (.isTrue trivial) ⟨.val (false, [(none, ⟨.bool, true⟩)]), []⟩
  | _ => .no
/- jobmux/jobmuxlaw04.RunesDivides -/
def sh_runesDivides_0 : Shape := ⟨[.any, .any, .val false [.hole (.int .i64)], .any, .any, .any, .any, .any, .any, .any, .any, .any, .any, .any, .any, .any, .any, .any, .any, .any, .any, .any, .any, .any, .val false [.own 48], .val false [.hole (.int .i64)], .val false [.hole (.int .i64)], .any, .any, .any, .any, .any, .any, .any, .any, .any, .any, .any, .any, .any, .any, .any, .any, .any, .any, .any, .any, .any, .any, .any, .any, .any, .any, .any, .any, .any, .any, .any, .any, .any, .any, .any, .any, .any, .any, .any, .any, .any, .any, .any, .any, .any], [(48, .rows 23 (.slice (.int .u8)) false)]⟩
noncomputable def m_runesDivides (k0 : Nat) (l : List Int) (raw : List Int) (cut : Int) : Option Res :=
  if (decide ((raw.length : Int) > (200 : Int))) = true then some ⟨.val (false, [(none, ⟨.bool, true⟩)]), []⟩
  else need (ListOk l) (loopN (fun (d0 : Int × Int × Int × (List (List Int)) × Unit) again0 =>
   if (decide (d0.2.2.1 < d0.2.1)) = true then (if 0 ≤ d0.2.2.1 ∧ d0.2.2.1 < d0.2.2.2.1.length then (if d0.2.2.1 < d0.2.2.2.1.length then need (I64 d0.1 ∧ 0 < (Go.IntKind.wrap .i64 (((d0.2.2.2.1.getD d0.2.2.1.toNat ([] : List Int)).length : Int) + (1 : Int))) ∧ I64 (Go.IntKind.wrap .i64 (((d0.2.2.2.1.getD d0.2.2.1.toNat ([] : List Int)).length : Int) + (1 : Int)))) (bindv (d0.1 % (Go.IntKind.wrap .i64 (((d0.2.2.2.1.getD d0.2.2.1.toNat ([] : List Int)).length : Int) + (1 : Int)))) fun (r1 : Int) =>
      need (Len ((([] : List Int), ())).1 ∧ Len (d0.2.2.2.1.getD d0.2.2.1.toNat ([] : List Int))) (bindv (((decP ((([] : List Int), ())).1 (d0.2.2.2.1.getD d0.2.2.1.toNat ([] : List Int))).1, ())) fun (r2 : (List Int) × Unit) =>
      bindv ((decP ((([] : List Int), ())).1 (d0.2.2.2.1.getD d0.2.2.1.toNat ([] : List Int))).2) fun (r3 : List Int) =>
      if 0 ≤ (0 : Int) ∧ (0 : Int) ≤ r1 ∧ r1 ≤ (d0.2.2.2.1.getD d0.2.2.1.toNat ([] : List Int)).length then need (Len ((([] : List Int), ())).1 ∧ Len (((d0.2.2.2.1.getD d0.2.2.1.toNat ([] : List Int)).take r1.toNat).drop (0 : Int).toNat)) (bindv (((decP ((([] : List Int), ())).1 (((d0.2.2.2.1.getD d0.2.2.1.toNat ([] : List Int)).take r1.toNat).drop (0 : Int).toNat)).1, ())) fun (r4 : (List Int) × Unit) =>
       bindv ((decP ((([] : List Int), ())).1 (((d0.2.2.2.1.getD d0.2.2.1.toNat ([] : List Int)).take r1.toNat).drop (0 : Int).toNat)).2) fun (r5 : List Int) =>
       if 0 ≤ r1 ∧ r1 ≤ ((d0.2.2.2.1.getD d0.2.2.1.toNat ([] : List Int)).length : Int) ∧ ((d0.2.2.2.1.getD d0.2.2.1.toNat ([] : List Int)).length : Int) ≤ (d0.2.2.2.1.getD d0.2.2.1.toNat ([] : List Int)).length then need (Len (r4).1 ∧ Len (((d0.2.2.2.1.getD d0.2.2.1.toNat ([] : List Int)).take ((d0.2.2.2.1.getD d0.2.2.1.toNat ([] : List Int)).length : Int).toNat).drop r1.toNat)) (bindv (((decP (r4).1 (((d0.2.2.2.1.getD d0.2.2.1.toNat ([] : List Int)).take ((d0.2.2.2.1.getD d0.2.2.1.toNat ([] : List Int)).length : Int).toNat).drop r1.toNat)).1, ())) fun (r6 : (List Int) × Unit) =>
        bindv ((decP (r4).1 (((d0.2.2.2.1.getD d0.2.2.1.toNat ([] : List Int)).take ((d0.2.2.2.1.getD d0.2.2.1.toNat ([] : List Int)).length : Int).toNat).drop r1.toNat)).2) fun (r7 : List Int) =>
        bindv (decide (strOfBytes (r2).1 = strOfBytes (r6).1)) fun (r8 : Bool) =>
        if (!r8) = false then (if (([] : List Int).length + r5.length) * 8 ≤ 140737488355328 ∧ ([] : List Int).length + r5.length ≤ 9223372036854775807 then (if ((([] : List Int) ++ r5).length + r7.length) * 8 ≤ 140737488355328 ∧ (([] : List Int) ++ r5).length + r7.length ≤ 9223372036854775807 then need (Len r3) (bindv (decide (r3 = ((([] : List Int) ++ r5) ++ r7))) fun (r9 : Bool) =>
           if (!r9) = true then some ⟨.val (false, [(none, ⟨.bool, false⟩)]), []⟩
           else again0 (d0.1, d0.2.1, Go.IntKind.wrap .i64 (d0.2.2.1 + (1 : Int)), d0.2.2.2.1, ()))
          else none)
         else none)
        else some ⟨.val (false, [(none, ⟨.bool, false⟩)]), []⟩)
       else none)
      else none))
     else none)
    else none)
   else some ⟨.val (false, [(none, ⟨.bool, true⟩)]), []⟩) k0 (cut, (([oddP l, raw] : List (List Int)).length : Int), (0 : Int), ([oddP l, raw] : List (List Int)), ()))
end Go.Run
