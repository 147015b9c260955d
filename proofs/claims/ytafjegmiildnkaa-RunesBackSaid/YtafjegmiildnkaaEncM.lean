/- Models of functions, printed by a program of this session out of Lean's own print of the translation, and the contracts' texts: Enc. -/

import Derived.Test.YtafjegmiildnkaaAbPure
import Derived.Test.YtafjegmiildnkaaEncD
import Derived.Test.YtafjegmiildnkaaRunM
namespace Go.Enc
open Go.Ab Go.RowKit Go.Run
set_option linter.unusedVariables false
set_option linter.unusedSimpArgs false
set_option maxRecDepth 100000
/- jobmux/runes.Is -/
noncomputable def m_is (r : Int) : Option Res :=
  if (decide (r ≥ (0 : Int))) = true then (if (decide (r ≤ (1114111 : Int))) = true then (if (decide (r < (55296 : Int))) = false then some ⟨.val (false, [(none, ⟨.bool, decide (r > (57343 : Int))⟩)]), []⟩
    else some ⟨.val (false, [(none, ⟨.bool, true⟩)]), []⟩)
   else some ⟨.val (false, [(none, ⟨.bool, false⟩)]), []⟩)
  else some ⟨.val (false, [(none, ⟨.bool, false⟩)]), []⟩
noncomputable def r_is (r : Int) : Res := ⟨.val (false, [(none, ⟨.bool, isP r⟩)]), []⟩
def c_is (r : Int) : Prop := True
noncomputable def isS : Go.Ab.Spec := fun xs => match xs with
  | [.val (false, [(none, ⟨.int .i64, r⟩)])] => .yes (True) (.isTrue trivial) ⟨.val (false, [(none, ⟨.bool, isP r⟩)]), []⟩
  | _ => .no
/- jobmux/jobmuxref04.Character -/
noncomputable def m_rchar (r : Int) : Option Res :=
  if (decide (r ≥ (0 : Int))) = true then (if (decide (r < (55296 : Int))) = false then (if (decide (r > (57343 : Int))) = true then some ⟨.val (false, [(none, ⟨.bool, decide (r ≤ (1114111 : Int))⟩)]), []⟩
    else some ⟨.val (false, [(none, ⟨.bool, false⟩)]), []⟩)
   else some ⟨.val (false, [(none, ⟨.bool, true⟩)]), []⟩)
  else if (decide (r > (57343 : Int))) = true then some ⟨.val (false, [(none, ⟨.bool, decide (r ≤ (1114111 : Int))⟩)]), []⟩
  else some ⟨.val (false, [(none, ⟨.bool, false⟩)]), []⟩
noncomputable def r_rchar (r : Int) : Res := ⟨.val (false, [(none, ⟨.bool, isP r⟩)]), []⟩
def c_rchar (r : Int) : Prop := True
noncomputable def rcharS : Go.Ab.Spec := fun xs => match xs with
  | [.val (false, [(none, ⟨.int .i64, r⟩)])] => .yes (True) (.isTrue trivial) ⟨.val (false, [(none, ⟨.bool, isP r⟩)]), []⟩
  | _ => .no
/- jobmux/runes.Encode$1 -/
noncomputable def m_tail (s : Int) (r_0 : Int) : Option Res :=
  if 0 ≤ s then some ⟨.val (false, [(none, ⟨.int .u8, Go.IntKind.wrap .u8 (Go.IntKind.wrap .i64 ((BitVec.ofInt 64 (128 : Int) ||| BitVec.ofInt 64 (Go.IntKind.wrap .i64 ((BitVec.ofInt 64 (Int.fdiv r_0 (2 ^ min s.toNat 64)) &&& BitVec.ofInt 64 (63 : Int)).toNat : Int))).toNat : Int))⟩)]), [[(none, ⟨.int .i64, r_0⟩)]]⟩
  else none
noncomputable def r_tail (s : Int) (r_0 : Int) : Res := ⟨.val (false, [(none, ⟨.int .u8, tailP r_0 s⟩)]), [[(none, ⟨.int .i64, r_0⟩)]]⟩
def c_tail (s : Int) (r_0 : Int) : Prop := 0 ≤ s ∧ s ≤ 18
noncomputable def tailS : Go.Ab.Spec := fun xs => match xs with
  | [.val (false, [(none, ⟨.int .i64, s⟩)]), .box [(none, ⟨.int .i64, r_0⟩)]] => .yes (0 ≤ s ∧ s ≤ 18) (Classical.propDecidable _) ⟨.val (false, [(none, ⟨.int .u8, tailP r_0 s⟩)]), [[]]⟩
  | _ => .no
/- jobmux/runes.Encode -/
noncomputable def m_enc (r : Int) : Option Res :=
  if (!(isP r)) = true then need (0 ≤ (6 : Int) ∧ (6 : Int) ≤ 18) (bindv (tailP (65533 : Int) (6 : Int)) fun (r1 : Int) =>
   need (0 ≤ (0 : Int) ∧ (0 : Int) ≤ 18) (bindv (tailP (65533 : Int) (0 : Int)) fun (r2 : Int) =>
   some ⟨.val (false, [(some 5, ⟨.slice (.int .u8), ([Go.IntKind.wrap .u8 (Go.IntKind.wrap .i64 ((BitVec.ofInt 64 (224 : Int) ||| BitVec.ofInt 64 (Int.fdiv (65533 : Int) (2 ^ min (12 : Int).toNat 64))).toNat : Int)), r1, r2] : List Int)⟩)]), []⟩))
  else if (decide (r < (128 : Int))) = true then some ⟨.val (false, [(some 5, ⟨.slice (.int .u8), ([Go.IntKind.wrap .u8 r] : List Int)⟩)]), []⟩
  else if (decide (r < (2048 : Int))) = true then need (0 ≤ (0 : Int) ∧ (0 : Int) ≤ 18) (bindv (tailP r (0 : Int)) fun (r3 : Int) =>
   some ⟨.val (false, [(some 5, ⟨.slice (.int .u8), ([Go.IntKind.wrap .u8 (Go.IntKind.wrap .i64 ((BitVec.ofInt 64 (192 : Int) ||| BitVec.ofInt 64 (Int.fdiv r (2 ^ min (6 : Int).toNat 64))).toNat : Int)), r3] : List Int)⟩)]), []⟩)
  else if (decide (r < (65536 : Int))) = true then need (0 ≤ (6 : Int) ∧ (6 : Int) ≤ 18) (bindv (tailP r (6 : Int)) fun (r4 : Int) =>
   need (0 ≤ (0 : Int) ∧ (0 : Int) ≤ 18) (bindv (tailP r (0 : Int)) fun (r5 : Int) =>
   some ⟨.val (false, [(some 5, ⟨.slice (.int .u8), ([Go.IntKind.wrap .u8 (Go.IntKind.wrap .i64 ((BitVec.ofInt 64 (224 : Int) ||| BitVec.ofInt 64 (Int.fdiv r (2 ^ min (12 : Int).toNat 64))).toNat : Int)), r4, r5] : List Int)⟩)]), []⟩))
  else need (0 ≤ (12 : Int) ∧ (12 : Int) ≤ 18) (bindv (tailP r (12 : Int)) fun (r6 : Int) =>
  need (0 ≤ (6 : Int) ∧ (6 : Int) ≤ 18) (bindv (tailP r (6 : Int)) fun (r7 : Int) =>
  need (0 ≤ (0 : Int) ∧ (0 : Int) ≤ 18) (bindv (tailP r (0 : Int)) fun (r8 : Int) =>
  some ⟨.val (false, [(some 5, ⟨.slice (.int .u8), ([Go.IntKind.wrap .u8 (Go.IntKind.wrap .i64 ((BitVec.ofInt 64 (240 : Int) ||| BitVec.ofInt 64 (Int.fdiv r (2 ^ min (18 : Int).toNat 64))).toNat : Int)), r6, r7, r8] : List Int)⟩)]), []⟩)))
noncomputable def r_enc (r : Int) : Res := ⟨.val (false, [(some 5, ⟨.slice (.int .u8), encP r⟩)]), []⟩
def c_enc (r : Int) : Prop := I64 r
noncomputable def encS : Go.Ab.Spec := fun xs => match xs with
  | [.val (false, [(none, ⟨.int .i64, r⟩)])] => .yes (I64 r) (Classical.propDecidable _) ⟨.val (false, [(some 5, ⟨.slice (.int .u8), encP r⟩)]), []⟩
  | _ => .no
/- jobmux/jobmuxref04.Encode -/
noncomputable def m_renc (r : Int) : Option Res :=
  if (!(isP r)) = true then some ⟨.val (false, [(some 5, ⟨.slice (.int .u8), ([Go.IntKind.wrap .u8 (Go.IntKind.wrap .i64 ((BitVec.ofInt 64 (224 : Int) ||| BitVec.ofInt 64 (Int.fdiv (65533 : Int) (2 ^ min (12 : Int).toNat 64))).toNat : Int)), Go.IntKind.wrap .u8 (Go.IntKind.wrap .i64 ((BitVec.ofInt 64 (128 : Int) ||| BitVec.ofInt 64 (Go.IntKind.wrap .i64 ((BitVec.ofInt 64 (Int.fdiv (65533 : Int) (2 ^ min (6 : Int).toNat 64)) &&& BitVec.ofInt 64 (63 : Int)).toNat : Int))).toNat : Int)), Go.IntKind.wrap .u8 (Go.IntKind.wrap .i64 ((BitVec.ofInt 64 (128 : Int) ||| BitVec.ofInt 64 (Go.IntKind.wrap .i64 ((BitVec.ofInt 64 (65533 : Int) &&& BitVec.ofInt 64 (63 : Int)).toNat : Int))).toNat : Int))] : List Int)⟩)]), []⟩
  else if (decide (r < (128 : Int))) = true then some ⟨.val (false, [(some 5, ⟨.slice (.int .u8), ([Go.IntKind.wrap .u8 r] : List Int)⟩)]), []⟩
  else if (decide (r < (2048 : Int))) = true then some ⟨.val (false, [(some 5, ⟨.slice (.int .u8), ([Go.IntKind.wrap .u8 (Go.IntKind.wrap .i64 ((BitVec.ofInt 64 (192 : Int) ||| BitVec.ofInt 64 (Int.fdiv r (2 ^ min (6 : Int).toNat 64))).toNat : Int)), Go.IntKind.wrap .u8 (Go.IntKind.wrap .i64 ((BitVec.ofInt 64 (128 : Int) ||| BitVec.ofInt 64 (Go.IntKind.wrap .i64 ((BitVec.ofInt 64 r &&& BitVec.ofInt 64 (63 : Int)).toNat : Int))).toNat : Int))] : List Int)⟩)]), []⟩
  else if (decide (r < (65536 : Int))) = true then some ⟨.val (false, [(some 5, ⟨.slice (.int .u8), ([Go.IntKind.wrap .u8 (Go.IntKind.wrap .i64 ((BitVec.ofInt 64 (224 : Int) ||| BitVec.ofInt 64 (Int.fdiv r (2 ^ min (12 : Int).toNat 64))).toNat : Int)), Go.IntKind.wrap .u8 (Go.IntKind.wrap .i64 ((BitVec.ofInt 64 (128 : Int) ||| BitVec.ofInt 64 (Go.IntKind.wrap .i64 ((BitVec.ofInt 64 (Int.fdiv r (2 ^ min (6 : Int).toNat 64)) &&& BitVec.ofInt 64 (63 : Int)).toNat : Int))).toNat : Int)), Go.IntKind.wrap .u8 (Go.IntKind.wrap .i64 ((BitVec.ofInt 64 (128 : Int) ||| BitVec.ofInt 64 (Go.IntKind.wrap .i64 ((BitVec.ofInt 64 r &&& BitVec.ofInt 64 (63 : Int)).toNat : Int))).toNat : Int))] : List Int)⟩)]), []⟩
  else some ⟨.val (false, [(some 5, ⟨.slice (.int .u8), ([Go.IntKind.wrap .u8 (Go.IntKind.wrap .i64 ((BitVec.ofInt 64 (240 : Int) ||| BitVec.ofInt 64 (Int.fdiv r (2 ^ min (18 : Int).toNat 64))).toNat : Int)), Go.IntKind.wrap .u8 (Go.IntKind.wrap .i64 ((BitVec.ofInt 64 (128 : Int) ||| BitVec.ofInt 64 (Go.IntKind.wrap .i64 ((BitVec.ofInt 64 (Int.fdiv r (2 ^ min (12 : Int).toNat 64)) &&& BitVec.ofInt 64 (63 : Int)).toNat : Int))).toNat : Int)), Go.IntKind.wrap .u8 (Go.IntKind.wrap .i64 ((BitVec.ofInt 64 (128 : Int) ||| BitVec.ofInt 64 (Go.IntKind.wrap .i64 ((BitVec.ofInt 64 (Int.fdiv r (2 ^ min (6 : Int).toNat 64)) &&& BitVec.ofInt 64 (63 : Int)).toNat : Int))).toNat : Int)), Go.IntKind.wrap .u8 (Go.IntKind.wrap .i64 ((BitVec.ofInt 64 (128 : Int) ||| BitVec.ofInt 64 (Go.IntKind.wrap .i64 ((BitVec.ofInt 64 r &&& BitVec.ofInt 64 (63 : Int)).toNat : Int))).toNat : Int))] : List Int)⟩)]), []⟩
noncomputable def r_renc (r : Int) : Res := ⟨.val (false, [(some 5, ⟨.slice (.int .u8), encP r⟩)]), []⟩
def c_renc (r : Int) : Prop := I64 r
noncomputable def rencS : Go.Ab.Spec := fun xs => match xs with
  | [.val (false, [(none, ⟨.int .i64, r⟩)])] => .yes (I64 r) (Classical.propDecidable _) ⟨.val (false, [(some 5, ⟨.slice (.int .u8), encP r⟩)]), []⟩
  | _ => .no
/- jobmux/jobmuxlaw04.RunesEncodes -/
def sh_runesEncodes_0 : Shape := ⟨[.any, .any, .any, .any, .any, .any, .any, .any, .any, .any, .any, .any, .any, .any, .any, .val false [.own 128], .val false [.hole (.int .i64)], .val false [.hole (.int .i64)], .any, .any, .any, .any, .any, .any, .any, .any, .any, .any, .any], [(128, .rows 3 (.int .i64) false)]⟩
noncomputable def m_runesEncodes (k0 : Nat) (r : Int) : Option Res :=
  need (I64 r ∧ 0 < (1114128 : Int) ∧ I64 (1114128 : Int)) (bindv (r % (1114128 : Int)) fun (r1 : Int) =>
  need (I64 r ∧ 0 < (2304 : Int) ∧ I64 (2304 : Int)) (bindv (r % (2304 : Int)) fun (r2 : Int) =>
  need (I64 r ∧ 0 < (2080 : Int) ∧ I64 (2080 : Int)) (bindv (r % (2080 : Int)) fun (r3 : Int) =>
  loopN (fun (d0 : Int × Int × (List Int) × Unit) again0 =>
   if (decide (d0.2.1 < d0.1)) = true then (if 0 ≤ d0.2.1 ∧ d0.2.1 < d0.2.2.1.length then (if d0.2.1 < d0.2.2.1.length then need (I64 (d0.2.2.1.getD d0.2.1.toNat (0 : Int))) (bindv (encP (d0.2.2.1.getD d0.2.1.toNat (0 : Int))) fun (r4 : List Int) =>
      need (I64 (d0.2.2.1.getD d0.2.1.toNat (0 : Int))) (bindv (encP (d0.2.2.1.getD d0.2.1.toNat (0 : Int))) fun (r5 : List Int) =>
      if (!((strOfBytes r4).toList == (strOfBytes r5).toList)) = true then some ⟨.val (false, [(none, ⟨.bool, false⟩)]), []⟩
      else again0 (d0.1, Go.IntKind.wrap .i64 (d0.2.1 + (1 : Int)), d0.2.2.1, ())))
     else none)
    else none)
   else some ⟨.val (false, [(none, ⟨.bool, true⟩)]), []⟩) k0 ((([r, r1, r2, Go.IntKind.wrap .i64 ((55280 : Int) + r3)] : List Int).length : Int), (0 : Int), ([r, r1, r2, Go.IntKind.wrap .i64 ((55280 : Int) + r3)] : List Int), ()))))
end Go.Enc
