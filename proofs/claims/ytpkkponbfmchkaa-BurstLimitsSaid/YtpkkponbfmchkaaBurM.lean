/- Models of functions, printed by a program of this session out of Lean's own print of the translation, and the contracts' texts: Bur. -/

import Derived.Test.YtpkkponbfmchkaaAbPure
import Derived.Test.YtpkkponbfmchkaaBurD
namespace Go.Bur
open Go.Ab Go.RowKit
set_option linter.unusedVariables false
set_option linter.unusedSimpArgs false
set_option maxRecDepth 100000
/- jobmux/ticks.Sub -/
noncomputable def m_sub (a : Int) (b : Int) : Option Res :=
  if 0 ≤ a ∧ 0 ≤ b ∧ b < 18446744073709551616 ∧ 0 ≤ (0 : Int) ∧ (0 : Int) ≤ 1 then (if ((if a < b + (0 : Int) then 1 else 0) != (0 : Int)) = true then some ⟨.val (false, [(none, ⟨.int .u64, (0 : Int)⟩)]), []⟩
   else some ⟨.val (false, [(none, ⟨.int .u64, (a + 18446744073709551616 - b - (0 : Int)) % 18446744073709551616⟩)]), []⟩)
  else none
noncomputable def r_sub (a : Int) (b : Int) : Res := ⟨.val (false, [(none, ⟨.int .u64, subP a b⟩)]), []⟩
def c_sub (a : Int) (b : Int) : Prop := U64 a ∧ U64 b
noncomputable def subS : Go.Ab.Spec := fun xs => match xs with
  | [.val (false, [(none, ⟨.int .u64, a⟩)]), .val (false, [(none, ⟨.int .u64, b⟩)])] => .yes (U64 a ∧ U64 b) (Classical.propDecidable _) ⟨.val (false, [(none, ⟨.int .u64, subP a b⟩)]), []⟩
  | _ => .no
/- jobmux/burst.Trim$1 -/
noncomputable def m_out (t : Int) (now_0 : Int) (window_0 : Int) : Option Res :=
  need (U64 now_0 ∧ U64 t) (some ⟨.val (false, [(none, ⟨.bool, decide ((subP now_0 t) ≥ window_0)⟩)]), [[(none, ⟨.int .u64, now_0⟩)], [(none, ⟨.int .u64, window_0⟩)]]⟩)
noncomputable def r_out (t : Int) (now_0 : Int) (window_0 : Int) : Res := ⟨.val (false, [(none, ⟨.bool, outP now_0 window_0 t⟩)]), [[(none, ⟨.int .u64, now_0⟩)], [(none, ⟨.int .u64, window_0⟩)]]⟩
def c_out (t : Int) (now_0 : Int) (window_0 : Int) : Prop := U64 t ∧ U64 now_0 ∧ U64 window_0
noncomputable def outS : Go.Ab.Spec := fun xs => match xs with
  | [.val (false, [(none, ⟨.int .u64, t⟩)]), .box [(none, ⟨.int .u64, now_0⟩)], .box [(none, ⟨.int .u64, window_0⟩)]] => .yes (U64 t ∧ U64 now_0 ∧ U64 window_0) (Classical.propDecidable _) ⟨.val (false, [(none, ⟨.bool, outP now_0 window_0 t⟩)]), [[], []]⟩
  | _ => .no
/- slices.Clone[[]uint64,uint64] -/
noncomputable def m_clone_nil : Option Res :=
  some ⟨.val (false, [(some 22, ⟨.slice (.int .u64), ([] : List Int)⟩)]), []⟩
noncomputable def m_clone (l : List Int) : Option Res :=
  if (([] : List Int).length + l.length) * 8 ≤ 140737488355328 ∧ ([] : List Int).length + l.length ≤ 9223372036854775807 then some ⟨.val (false, [(some 22, ⟨.slice (.int .u64), ([] : List Int) ++ l⟩)]), []⟩
  else none
noncomputable def r_clone (l : List Int) : Res := ⟨.val (false, [(some 22, ⟨.slice (.int .u64), l⟩)]), []⟩
def c_clone (l : List Int) : Prop := Us l
noncomputable def cloneS : Go.Ab.Spec := fun xs => match xs with
  | [.val (false, [(none, ⟨.slice (.int .u64), l⟩)])] => .yes (Us l) (Classical.propDecidable _) ⟨.val (false, [(some 22, ⟨.slice (.int .u64), l⟩)]), []⟩
  | _ => .no
/- slices.IndexFunc[[]uint64,uint64] -/
def sh_idx_0 : Shape := ⟨[.val false [.hole (.slice (.int .u64))], .val false [.fn 13 [0, 1]], .any, .any, .any, .any, .any, .val false [.hole (.int .i64)], .val false [.hole (.int .i64)], .any, .any, .any, .any, .any, .any, .any, .any, .any, .any], [(0, .box [.hole (.int .u64)]), (1, .box [.hole (.int .u64)])]⟩
noncomputable def m_idx (k0 : Nat) (l : List Int) (now : Int) (window : Int) : Option Res :=
  loopN (fun (d0 : (List Int) × Int × Int × Int × Int × Unit) again0 =>
   if (decide (d0.2.2.1 < d0.2.1)) = true then (if 0 ≤ d0.2.2.1 ∧ d0.2.2.1 < d0.1.length then need (U64 (d0.1.getD d0.2.2.1.toNat (0 : Int)) ∧ U64 d0.2.2.2.1 ∧ U64 d0.2.2.2.2.1) (bindv (outP d0.2.2.2.1 d0.2.2.2.2.1 (d0.1.getD d0.2.2.1.toNat (0 : Int))) fun (r1 : Bool) =>
     if r1 = true then some ⟨.val (false, [(none, ⟨.int .i64, d0.2.2.1⟩)]), [[(none, ⟨.int .u64, d0.2.2.2.1⟩)], [(none, ⟨.int .u64, d0.2.2.2.2.1⟩)]]⟩
     else again0 (d0.1, d0.2.1, Go.IntKind.wrap .i64 (d0.2.2.1 + (1 : Int)), d0.2.2.2.1, d0.2.2.2.2.1, ()))
    else none)
   else some ⟨.val (false, [(none, ⟨.int .i64, (-1 : Int)⟩)]), [[(none, ⟨.int .u64, d0.2.2.2.1⟩)], [(none, ⟨.int .u64, d0.2.2.2.2.1⟩)]]⟩) k0 (l, (l.length : Int), (0 : Int), now, window, ())
noncomputable def r_idx (l : List Int) (now : Int) (window : Int) : Res := ⟨.val (false, [(none, ⟨.int .i64, firstP l now window⟩)]), [[(none, ⟨.int .u64, now⟩)], [(none, ⟨.int .u64, window⟩)]]⟩
def c_idx (l : List Int) (now : Int) (window : Int) : Prop := Us l ∧ U64 now ∧ U64 window
noncomputable def idxS : Go.Ab.Spec := fun xs => match xs with
  | [.val (false, [(none, ⟨.slice (.int .u64), l⟩)]), .fn 13 [[(none, ⟨.int .u64, now⟩)], [(none, ⟨.int .u64, window⟩)]]] => .yes (Us l ∧ U64 now ∧ U64 window) (Classical.propDecidable _) ⟨.val (false, [(none, ⟨.int .i64, firstP l now window⟩)]), [[], []]⟩
  | _ => .no
/- slices.DeleteFunc[[]uint64,uint64] -/
def sh_del_0 : Shape := ⟨[.val false [.own 2], .val false [.fn 13 [0, 1]], .any, .any, .any, .val false [.hole (.int .i64)], .val false [.hole (.int .i64)], .any, .any, .any, .any, .any, .any, .any, .any, .any, .any, .any, .any, .any, .any, .any, .any, .any, .any, .any, .any, .any, .any, .any, .any, .any, .any, .any, .any, .any, .any, .any, .any, .any, .any, .any], [(0, .box [.hole (.int .u64)]), (1, .box [.hole (.int .u64)]), (2, .rows 22 (.int .u64) false)]⟩
noncomputable def m_del (k0 : Nat) (l : List Int) (now : Int) (window : Int) : Option Res :=
  need (Us l ∧ U64 now ∧ U64 window) (bindv (firstP l now window) fun (r1 : Int) =>
  if (r1 == (-1 : Int)) = true then some ⟨.val (false, [(some 22, ⟨.slice (.int .u64), l⟩)]), [[(none, ⟨.int .u64, now⟩)], [(none, ⟨.int .u64, window⟩)]]⟩
  else loopN (fun (d0 : Int × Int × Int × Int × (List Int) × Unit) again0 =>
   if (decide (d0.2.1 < (d0.2.2.2.2.1.length : Int))) = true then (if 0 ≤ d0.2.1 ∧ d0.2.1 < d0.2.2.2.2.1.length then (if d0.2.1 < d0.2.2.2.2.1.length then need (U64 (d0.2.2.2.2.1.getD d0.2.1.toNat (0 : Int)) ∧ U64 d0.2.2.1 ∧ U64 d0.2.2.2.1) (bindv (outP d0.2.2.1 d0.2.2.2.1 (d0.2.2.2.2.1.getD d0.2.1.toNat (0 : Int))) fun (r2 : Bool) =>
      if (!r2) = true then (if 0 ≤ d0.1 ∧ d0.1 < d0.2.2.2.2.1.length then (if d0.1 < d0.2.2.2.2.1.length then again0 (Go.IntKind.wrap .i64 (d0.1 + (1 : Int)), Go.IntKind.wrap .i64 (d0.2.1 + (1 : Int)), d0.2.2.1, d0.2.2.2.1, d0.2.2.2.2.1.set d0.1.toNat (d0.2.2.2.2.1.getD d0.2.1.toNat (0 : Int)), ())
        else none)
       else none)
      else again0 (d0.1, Go.IntKind.wrap .i64 (d0.2.1 + (1 : Int)), d0.2.2.1, d0.2.2.2.1, d0.2.2.2.2.1, ()))
     else none)
    else none)
   else if 0 ≤ d0.1 ∧ d0.1 ≤ (d0.2.2.2.2.1.length : Int) ∧ (d0.2.2.2.2.1.length : Int) ≤ (d0.2.2.2.2.1.length : Int) then (if 0 ≤ (0 : Int) ∧ (0 : Int) ≤ d0.1 ∧ d0.1 ≤ ((d0.2.2.2.2.1.take d0.1.toNat ++ List.replicate ((d0.2.2.2.2.1.length : Int).toNat - d0.1.toNat) (0 : Int) ++ d0.2.2.2.2.1.drop (d0.2.2.2.2.1.length : Int).toNat).length : Int) then some ⟨.val (false, [(some 22, ⟨.slice (.int .u64), (d0.2.2.2.2.1.take d0.1.toNat ++ List.replicate ((d0.2.2.2.2.1.length : Int).toNat - d0.1.toNat) (0 : Int) ++ d0.2.2.2.2.1.drop (d0.2.2.2.2.1.length : Int).toNat).take d0.1.toNat⟩)]), [[(none, ⟨.int .u64, d0.2.2.1⟩)], [(none, ⟨.int .u64, d0.2.2.2.1⟩)]]⟩
    else none)
   else none) k0 (r1, Go.IntKind.wrap .i64 (r1 + (1 : Int)), now, window, l, ()))
noncomputable def r_del (l : List Int) (now : Int) (window : Int) : Res := ⟨.val (false, [(some 22, ⟨.slice (.int .u64), trimP l now window⟩)]), [[(none, ⟨.int .u64, now⟩)], [(none, ⟨.int .u64, window⟩)]]⟩
def c_del (l : List Int) (now : Int) (window : Int) : Prop := Us l ∧ U64 now ∧ U64 window
noncomputable def delS : Go.Ab.Spec := fun xs => match xs with
  | [.val (false, [(some 22, ⟨.slice (.int .u64), l⟩)]), .fn 13 [[(none, ⟨.int .u64, now⟩)], [(none, ⟨.int .u64, window⟩)]]] => .yes (Us l ∧ U64 now ∧ U64 window) (Classical.propDecidable _) ⟨.val (false, [(some 22, ⟨.slice (.int .u64), trimP l now window⟩)]), [[], []]⟩
  | _ => .no
/- jobmux/burst.Trim -/
noncomputable def m_trim (l : List Int) (now : Int) (window : Int) : Option Res :=
  need (Us l) (need (Us l ∧ U64 now ∧ U64 window) (bindv (trimP l now window) fun (r1 : List Int) =>
  some ⟨.val (false, [(some 22, ⟨.slice (.int .u64), r1⟩)]), []⟩))
noncomputable def r_trim (l : List Int) (now : Int) (window : Int) : Res := ⟨.val (false, [(some 22, ⟨.slice (.int .u64), trimP l now window⟩)]), []⟩
def c_trim (l : List Int) (now : Int) (window : Int) : Prop := Us l ∧ U64 now ∧ U64 window
noncomputable def trimS : Go.Ab.Spec := fun xs => match xs with
  | [.val (false, [(none, ⟨.slice (.int .u64), l⟩)]), .val (false, [(none, ⟨.int .u64, now⟩)]), .val (false, [(none, ⟨.int .u64, window⟩)])] => .yes (Us l ∧ U64 now ∧ U64 window) (Classical.propDecidable _) ⟨.val (false, [(some 22, ⟨.slice (.int .u64), trimP l now window⟩)]), []⟩
  | _ => .no
/- jobmux/burst.Allow -/
noncomputable def m_allow (l : List Int) (most : Int) (now : Int) (window : Int) : Option Res :=
  need (Us l ∧ U64 now ∧ U64 window) (bindv (trimP l now window) fun (r1 : List Int) =>
  if (decide ((r1.length : Int) ≥ most)) = true then some ⟨.tup [(false, [(some 22, ⟨.slice (.int .u64), r1⟩)]), (false, [(none, ⟨.bool, false⟩)])], []⟩
  else if (r1.length + ([now] : List Int).length) * 8 ≤ 140737488355328 ∧ r1.length + ([now] : List Int).length ≤ 9223372036854775807 then some ⟨.tup [(false, [(some 22, ⟨.slice (.int .u64), r1 ++ ([now] : List Int)⟩)]), (false, [(none, ⟨.bool, true⟩)])], []⟩
  else none)
noncomputable def r_allow (l : List Int) (most : Int) (now : Int) (window : Int) : Res := ⟨.tup [(false, [(some 22, ⟨.slice (.int .u64), (allowP l most now window).1⟩)]), (false, [(none, ⟨.bool, (allowP l most now window).2⟩)])], []⟩
def c_allow (l : List Int) (most : Int) (now : Int) (window : Int) : Prop := Us l ∧ U64 now ∧ U64 window
noncomputable def allowS : Go.Ab.Spec := fun xs => match xs with
  | [.val (false, [(none, ⟨.slice (.int .u64), l⟩)]), .val (false, [(none, ⟨.int .i64, most⟩)]), .val (false, [(none, ⟨.int .u64, now⟩)]), .val (false, [(none, ⟨.int .u64, window⟩)])] => .yes (Us l ∧ U64 now ∧ U64 window) (Classical.propDecidable _) ⟨.tup [(false, [(some 22, ⟨.slice (.int .u64), (allowP l most now window).1⟩)]), (false, [(none, ⟨.bool, (allowP l most now window).2⟩)])], []⟩
  | _ => .no
/- jobmux/burst.Play -/
def sh_play_0 : Shape := ⟨[.val false [.hole (.int .i64)], .val false [.hole (.int .u64)], .any, .any, .any, .any, .any, .val false [.own 1], .val false [.own 2], .val false [.hole (.int .u64)], .any, .any, .any, .val false [.hole (.slice (.int .u64))], .val false [.hole (.int .i64)], .val false [.hole (.int .i64)], .any, .any, .any, .any, .any, .any, .any, .any, .any, .any, .any, .any, .any, .any, .any, .any, .any, .any, .any, .any], [(1, .rows 22 (.int .u64) false), (2, .rows 4 (.bool) false)]⟩
noncomputable def m_play (k0 : Nat) (most : Int) (window : Int) (l : List Int) : Option Res :=
  loopN (fun (d0 : Int × Int × Int × (List Int) × Int × Int × (List Int) × (List Bool) × Unit) again0 =>
   if (decide (d0.2.2.2.2.2.1 < d0.2.2.2.2.1)) = true then (if 0 ≤ d0.2.2.2.2.2.1 ∧ d0.2.2.2.2.2.1 < d0.2.2.2.1.length then need (Us d0.2.2.2.2.2.2.1 ∧ U64 (Go.Ab.maxK d0.2.2.1 (d0.2.2.2.1.getD d0.2.2.2.2.2.1.toNat (0 : Int))) ∧ U64 d0.2.1) (bindv ((allowP d0.2.2.2.2.2.2.1 d0.1 (Go.Ab.maxK d0.2.2.1 (d0.2.2.2.1.getD d0.2.2.2.2.2.1.toNat (0 : Int))) d0.2.1).1) fun (r1 : List Int) =>
     bindv ((allowP d0.2.2.2.2.2.2.1 d0.1 (Go.Ab.maxK d0.2.2.1 (d0.2.2.2.1.getD d0.2.2.2.2.2.1.toNat (0 : Int))) d0.2.1).2) fun (r2 : Bool) =>
     if (d0.2.2.2.2.2.2.2.1.length + ([r2] : List Bool).length) * 1 ≤ 140737488355328 ∧ d0.2.2.2.2.2.2.2.1.length + ([r2] : List Bool).length ≤ 9223372036854775807 then again0 (d0.1, d0.2.1, Go.Ab.maxK d0.2.2.1 (d0.2.2.2.1.getD d0.2.2.2.2.2.1.toNat (0 : Int)), d0.2.2.2.1, d0.2.2.2.2.1, Go.IntKind.wrap .i64 (d0.2.2.2.2.2.1 + (1 : Int)), r1, d0.2.2.2.2.2.2.2.1 ++ ([r2] : List Bool), ())
     else none)
    else none)
   else some ⟨.val (false, [(some 4, ⟨.slice (.bool), d0.2.2.2.2.2.2.2.1⟩)]), []⟩) k0 (most, window, (0 : Int), l, (l.length : Int), (0 : Int), ([] : List Int), ([] : List Bool), ())
noncomputable def r_play (most : Int) (window : Int) (l : List Int) : Res := ⟨.val (false, [(some 4, ⟨.slice (.bool), playP most window l⟩)]), []⟩
def c_play (most : Int) (window : Int) (l : List Int) : Prop := Us l ∧ U64 window
noncomputable def playS : Go.Ab.Spec := fun xs => match xs with
  | [.val (false, [(none, ⟨.int .i64, most⟩)]), .val (false, [(none, ⟨.int .u64, window⟩)]), .val (false, [(none, ⟨.slice (.int .u64), l⟩)])] => .yes (Us l ∧ U64 window) (Classical.propDecidable _) ⟨.val (false, [(some 4, ⟨.slice (.bool), playP most window l⟩)]), []⟩
  | _ => .no
/- jobmux/jobmuxlaw03.small -/
def sh_small_0 : Shape := ⟨[.any, .val false [.hole (.int .u64)], .any, .any, .any, .val false [.own 1], .any, .any, .val false [.hole (.slice (.int .u64))], .val false [.hole (.int .i64)], .val false [.hole (.int .i64)], .any, .any, .any, .any, .any, .any, .any, .any, .any, .any, .any], [(1, .rows 22 (.int .u64) false)]⟩
noncomputable def m_small (k0 : Nat) (l : List Int) (n : Int) : Option Res :=
  loopN (fun (d0 : Int × (List Int) × Int × Int × (List Int) × Unit) again0 =>
   if (decide (d0.2.2.2.1 < d0.2.2.1)) = true then (if 0 ≤ d0.2.2.2.1 ∧ d0.2.2.2.1 < d0.2.1.length then (if d0.1 ≠ 0 then (if (d0.2.2.2.2.1.length + ([Int.tmod (d0.2.1.getD d0.2.2.2.1.toNat (0 : Int)) d0.1] : List Int).length) * 8 ≤ 140737488355328 ∧ d0.2.2.2.2.1.length + ([Int.tmod (d0.2.1.getD d0.2.2.2.1.toNat (0 : Int)) d0.1] : List Int).length ≤ 9223372036854775807 then again0 (d0.1, d0.2.1, d0.2.2.1, Go.IntKind.wrap .i64 (d0.2.2.2.1 + (1 : Int)), d0.2.2.2.2.1 ++ ([Int.tmod (d0.2.1.getD d0.2.2.2.1.toNat (0 : Int)) d0.1] : List Int), ())
      else none)
     else none)
    else none)
   else some ⟨.val (false, [(some 22, ⟨.slice (.int .u64), d0.2.2.2.2.1⟩)]), []⟩) k0 (n, l, (l.length : Int), (0 : Int), ([] : List Int), ())
noncomputable def r_small (l : List Int) (n : Int) : Res := ⟨.val (false, [(some 22, ⟨.slice (.int .u64), smallP l n⟩)]), []⟩
def c_small (l : List Int) (n : Int) : Prop := Us l ∧ 0 < n ∧ U64 n
noncomputable def smallS : Go.Ab.Spec := fun xs => match xs with
  | [.val (false, [(none, ⟨.slice (.int .u64), l⟩)]), .val (false, [(none, ⟨.int .u64, n⟩)])] => .yes (Us l ∧ 0 < n ∧ U64 n) (Classical.propDecidable _) ⟨.val (false, [(some 22, ⟨.slice (.int .u64), smallP l n⟩)]), []⟩
  | _ => .no
/- jobmux/jobmuxref03.SameTimes -/
def sh_same_0 : Shape := ⟨[.val false [.hole (.slice (.int .u64))], .val false [.hole (.slice (.int .u64))], .any, .any, .any, .val false [.hole (.int .i64)], .any, .any, .any, .any, .any, .any, .any, .any, .any, .any, .any, .any, .any, .any, .any, .any, .any, .any, .any, .any], []⟩
noncomputable def m_same (k0 : Nat) (a : List Int) (b : List Int) : Option Res :=
  if ((a.length : Int) != (b.length : Int)) = true then some ⟨.val (false, [(none, ⟨.bool, false⟩)]), []⟩
  else loopN (fun (d0 : (List Int) × (List Int) × Int × Unit) again0 =>
   if (decide (d0.2.2.1 < (d0.1.length : Int))) = true then (if 0 ≤ d0.2.2.1 ∧ d0.2.2.1 < d0.1.length then (if 0 ≤ d0.2.2.1 ∧ d0.2.2.1 < d0.2.1.length then (if ((d0.1.getD d0.2.2.1.toNat (0 : Int)) != (d0.2.1.getD d0.2.2.1.toNat (0 : Int))) = true then some ⟨.val (false, [(none, ⟨.bool, false⟩)]), []⟩
      else again0 (d0.1, d0.2.1, Go.IntKind.wrap .i64 (d0.2.2.1 + (1 : Int)), ()))
     else none)
    else none)
   else some ⟨.val (false, [(none, ⟨.bool, true⟩)]), []⟩) k0 (a, b, (0 : Int), ())
noncomputable def r_same (a : List Int) (b : List Int) : Res := ⟨.val (false, [(none, ⟨.bool, decide (a = b)⟩)]), []⟩
def c_same (a : List Int) (b : List Int) : Prop := Us a
noncomputable def sameS : Go.Ab.Spec := fun xs => match xs with
  | [.val (false, [(none, ⟨.slice (.int .u64), a⟩)]), .val (false, [(none, ⟨.slice (.int .u64), b⟩)])] => .yes (Us a) (Classical.propDecidable _) ⟨.val (false, [(none, ⟨.bool, decide (a = b)⟩)]), []⟩
  | _ => .no
/- jobmux/jobmuxlaw03.sane -/
noncomputable def m_sane  : Option Res :=
  need (Us ([0, 5, 9, 10, 30] : List Int) ∧ U64 (10 : Int)) (bindv (playP (2 : Int) (10 : Int) ([0, 5, 9, 10, 30] : List Int)) fun (r1 : List Bool) =>
  if ((r1.length : Int) == (5 : Int)) = true then (if 0 ≤ (0 : Int) ∧ (0 : Int) < r1.length then (if (0 : Int) < r1.length then (if (r1.getD (0 : Int).toNat false) = true then (if 0 ≤ (1 : Int) ∧ (1 : Int) < r1.length then (if (1 : Int) < r1.length then (if (r1.getD (1 : Int).toNat false) = true then (if 0 ≤ (2 : Int) ∧ (2 : Int) < r1.length then (if (2 : Int) < r1.length then (if (!(r1.getD (2 : Int).toNat false)) = true then (if 0 ≤ (3 : Int) ∧ (3 : Int) < r1.length then (if (3 : Int) < r1.length then (if (r1.getD (3 : Int).toNat false) = true then (if 0 ≤ (4 : Int) ∧ (4 : Int) < r1.length then (if (4 : Int) < r1.length then some ⟨.val (false, [(none, ⟨.bool, (r1.getD (4 : Int).toNat false)⟩)]), []⟩
                else none)
               else none)
              else some ⟨.val (false, [(none, ⟨.bool, false⟩)]), []⟩)
             else none)
            else none)
           else some ⟨.val (false, [(none, ⟨.bool, false⟩)]), []⟩)
          else none)
         else none)
        else some ⟨.val (false, [(none, ⟨.bool, false⟩)]), []⟩)
       else none)
      else none)
     else some ⟨.val (false, [(none, ⟨.bool, false⟩)]), []⟩)
    else none)
   else none)
  else some ⟨.val (false, [(none, ⟨.bool, false⟩)]), []⟩)
noncomputable def r_sane  : Res := ⟨.val (false, [(none, ⟨.bool, true⟩)]), []⟩
def c_sane  : Prop := True
noncomputable def saneS : Go.Ab.Spec := fun xs => match xs with
  | [] => .yes (True) (.isTrue trivial) ⟨.val (false, [(none, ⟨.bool, true⟩)]), []⟩
  | _ => .no
/- jobmux/jobmuxlaw03.BurstLimits -/
def sh_burstLimits_0 : Shape := ⟨[.val false [.hole (.int .i64)], .val false [.hole (.int .u64)], .any, .any, .any, .any, .any, .val false [.own 16], .val false [.hole (.int .i64)], .any, .any, .any, .any, .any, .any, .any, .any, .any, .any, .any, .any, .any, .any, .any, .any, .any, .any, .any, .any, .any, .any, .any, .any, .any, .any, .any, .any, .any, .any, .any, .any, .any, .any, .any, .any, .any, .any, .any, .any, .any, .any, .any, .any, .any, .any, .any, .any, .any, .any, .any, .any, .any, .any, .any, .any, .any, .any, .any, .any, .any, .any, .any, .any, .any, .any, .any, .any, .any, .any, .any, .any, .any, .any, .any, .any, .any, .any, .any, .any, .any, .any, .any, .any], [(16, .rows 22 (.int .u64) false)]⟩
def sh_burstLimits_1 : Shape := ⟨[.val false [.hole (.int .i64)], .val false [.hole (.int .u64)], .any, .any, .any, .any, .any, .val false [.own 16], .any, .val false [.own 65], .any, .any, .any, .any, .any, .any, .any, .any, .any, .any, .any, .any, .any, .any, .any, .any, .any, .any, .any, .any, .any, .any, .any, .any, .any, .any, .any, .any, .any, .any, .any, .any, .any, .any, .any, .any, .any, .any, .any, .any, .any, .any, .any, .any, .any, .any, .val false [.hole (.int .i64)], .val false [.hole (.int .i64)], .any, .any, .any, .any, .any, .any, .any, .any, .any, .any, .any, .any, .any, .any, .any, .any, .any, .any, .any, .any, .any, .any, .any, .any, .any, .any, .any, .any, .any, .any, .any, .any, .any, .any, .any], [(16, .rows 22 (.int .u64) true), (65, .rows 4 (.bool) false)]⟩
def sh_burstLimits_2 : Shape := ⟨[.val false [.hole (.int .i64)], .val false [.hole (.int .u64)], .any, .any, .any, .any, .any, .val false [.own 16], .any, .val false [.own 65], .val false [.hole (.int .i64)], .val false [.hole (.int .i64)], .val false [.hole (.int .i64)], .any, .any, .any, .any, .any, .any, .any, .any, .any, .any, .any, .any, .any, .any, .any, .any, .any, .any, .any, .any, .any, .any, .any, .any, .any, .any, .any, .any, .any, .any, .any, .any, .any, .any, .any, .any, .any, .any, .any, .any, .any, .any, .any, .val false [.hole (.int .i64)], .val false [.hole (.int .i64)], .any, .any, .any, .any, .any, .any, .any, .any, .any, .any, .any, .any, .any, .any, .any, .any, .any, .any, .any, .any, .any, .any, .any, .any, .any, .any, .any, .any, .any, .any, .any, .any, .any, .any, .any], [(16, .rows 22 (.int .u64) true), (65, .rows 4 (.bool) false)]⟩
noncomputable def m_burstLimits (k0 : Nat) (k1 : Nat) (k2 : Nat) (most : Int) (window : Int) (l : List Int) : Option Res :=
  if (decide ((l.length : Int) > (60 : Int))) = true then some ⟨.val (false, [(none, ⟨.bool, true⟩)]), []⟩
  else need (Us l ∧ 0 < (100 : Int) ∧ U64 (100 : Int)) (bindv (smallP l (100 : Int)) fun (r1 : List Int) =>
  loopN (fun (d0 : Int × Int × Int × (List Int) × Unit) again0 =>
   if (decide (d0.2.2.1 < (d0.2.2.2.1.length : Int))) = true then (if 0 ≤ d0.2.2.1 ∧ d0.2.2.1 < d0.2.2.2.1.length then (if d0.2.2.1 < d0.2.2.2.1.length then (if 0 ≤ Go.IntKind.wrap .i64 (d0.2.2.1 - (1 : Int)) ∧ Go.IntKind.wrap .i64 (d0.2.2.1 - (1 : Int)) < d0.2.2.2.1.length then (if Go.IntKind.wrap .i64 (d0.2.2.1 - (1 : Int)) < d0.2.2.2.1.length then (if 0 ≤ d0.2.2.1 ∧ d0.2.2.1 < d0.2.2.2.1.length then (if d0.2.2.1 < d0.2.2.2.1.length then again0 (d0.1, d0.2.1, Go.IntKind.wrap .i64 (d0.2.2.1 + (1 : Int)), d0.2.2.2.1.set d0.2.2.1.toNat (Go.Ab.maxK (d0.2.2.2.1.getD d0.2.2.1.toNat (0 : Int)) (d0.2.2.2.1.getD (Go.IntKind.wrap .i64 (d0.2.2.1 - (1 : Int))).toNat (0 : Int))), ())
         else none)
        else none)
       else none)
      else none)
     else none)
    else none)
   else need (Us d0.2.2.2.1 ∧ U64 d0.2.1) (bindv (playP d0.1 d0.2.1 d0.2.2.2.1) fun (r2 : List Bool) =>
   if ((r2.length : Int) != (d0.2.2.2.1.length : Int)) = true then some ⟨.val (false, [(none, ⟨.bool, false⟩)]), []⟩
   else loopN (fun (d1 : Int × Int × Int × Int × (List Int) × (List Bool) × Unit) again1 =>
    if (decide (d1.2.2.2.1 < d1.2.2.1)) = true then loopN (fun (d2 : Int × Int × Int × Int × Int × Int × Int × (List Int) × (List Bool) × Unit) again2 =>
      if (decide (d2.2.2.2.2.1 < d2.2.2.1)) = true then (if 0 ≤ d2.2.2.2.2.1 ∧ d2.2.2.2.2.1 < d2.2.2.2.2.2.2.2.2.1.length then (if d2.2.2.2.2.1 < d2.2.2.2.2.2.2.2.2.1.length then (if (d2.2.2.2.2.2.2.2.2.1.getD d2.2.2.2.2.1.toNat false) = true then (if 0 ≤ d2.2.2.1 ∧ d2.2.2.1 < d2.2.2.2.2.2.2.2.1.length then (if d2.2.2.1 < d2.2.2.2.2.2.2.2.1.length then (if 0 ≤ d2.2.2.2.2.1 ∧ d2.2.2.2.2.1 < d2.2.2.2.2.2.2.2.1.length then (if d2.2.2.2.2.1 < d2.2.2.2.2.2.2.2.1.length then (if (decide ((Go.IntKind.wrap .u64 ((d2.2.2.2.2.2.2.2.1.getD d2.2.2.1.toNat (0 : Int)) - (d2.2.2.2.2.2.2.2.1.getD d2.2.2.2.2.1.toNat (0 : Int)))) < d2.2.1)) = true then again2 (d2.1, d2.2.1, d2.2.2.1, Go.IntKind.wrap .i64 (d2.2.2.2.1 + (1 : Int)), Go.IntKind.wrap .i64 (d2.2.2.2.2.1 + (1 : Int)), d2.2.2.2.2.2.1, d2.2.2.2.2.2.2.1, d2.2.2.2.2.2.2.2.1, d2.2.2.2.2.2.2.2.2.1, ())
              else again2 (d2.1, d2.2.1, d2.2.2.1, d2.2.2.2.1, Go.IntKind.wrap .i64 (d2.2.2.2.2.1 + (1 : Int)), d2.2.2.2.2.2.1, d2.2.2.2.2.2.2.1, d2.2.2.2.2.2.2.2.1, d2.2.2.2.2.2.2.2.2.1, ()))
             else none)
            else none)
           else none)
          else none)
         else again2 (d2.1, d2.2.1, d2.2.2.1, d2.2.2.2.1, Go.IntKind.wrap .i64 (d2.2.2.2.2.1 + (1 : Int)), d2.2.2.2.2.2.1, d2.2.2.2.2.2.2.1, d2.2.2.2.2.2.2.2.1, d2.2.2.2.2.2.2.2.2.1, ()))
        else none)
       else none)
      else if 0 ≤ d2.2.2.1 ∧ d2.2.2.1 < d2.2.2.2.2.2.2.2.2.1.length then (if d2.2.2.1 < d2.2.2.2.2.2.2.2.2.1.length then (if ((d2.2.2.2.2.2.2.2.2.1.getD d2.2.2.1.toNat false) != (decide (d2.2.2.2.1 < d2.1))) = true then some ⟨.val (false, [(none, ⟨.bool, false⟩)]), []⟩
        else again1 (d2.1, d2.2.1, d2.2.2.2.2.2.1, Go.IntKind.wrap .i64 (d2.2.2.2.2.2.2.1 + (1 : Int)), d2.2.2.2.2.2.2.2.1, d2.2.2.2.2.2.2.2.2.1, ()))
       else none)
      else none) k2 (d1.1, d1.2.1, d1.2.2.2.1, (0 : Int), (0 : Int), d1.2.2.1, d1.2.2.2.1, d1.2.2.2.2.1, d1.2.2.2.2.2.1, ())
    else some ⟨.val (false, [(none, ⟨.bool, true⟩)]), []⟩) k1 (d0.1, d0.2.1, (d0.2.2.2.1.length : Int), (0 : Int), d0.2.2.2.1, r2, ()))) k0 (Go.IntKind.wrap .i64 ((1 : Int) + (Int.tmod (Go.IntKind.wrap .i64 ((Int.tmod most (5 : Int)) + (5 : Int))) (5 : Int))), Int.tmod window (30 : Int), (1 : Int), r1, ()))
/- jobmux/jobmuxlaw03.BurstForgets -/
noncomputable def m_burstForgets (l : List Int) (now : Int) (more : Int) (window : Int) : Option Res :=
  if (decide ((l.length : Int) > (60 : Int))) = true then some ⟨.val (false, [(none, ⟨.bool, true⟩)]), []⟩
  else need (Us l ∧ 0 < (100 : Int) ∧ U64 (100 : Int)) (bindv (smallP l (100 : Int)) fun (r1 : List Int) =>
  need (Us r1 ∧ U64 (Int.tmod now (120 : Int)) ∧ U64 (Int.tmod window (60 : Int))) (bindv (trimP r1 (Int.tmod now (120 : Int)) (Int.tmod window (60 : Int))) fun (r2 : List Int) =>
  need (Us r1 ∧ U64 (Go.IntKind.wrap .u64 ((Int.tmod now (120 : Int)) + (Int.tmod more (50 : Int)))) ∧ U64 (Int.tmod window (60 : Int))) (bindv (trimP r1 (Go.IntKind.wrap .u64 ((Int.tmod now (120 : Int)) + (Int.tmod more (50 : Int)))) (Int.tmod window (60 : Int))) fun (r3 : List Int) =>
  need (Us r1 ∧ U64 (Int.tmod now (120 : Int)) ∧ U64 (Int.tmod window (60 : Int))) (bindv ((allowP r1 (r2.length : Int) (Int.tmod now (120 : Int)) (Int.tmod window (60 : Int))).1) fun (r4 : List Int) =>
  bindv ((allowP r1 (r2.length : Int) (Int.tmod now (120 : Int)) (Int.tmod window (60 : Int))).2) fun (r5 : Bool) =>
  need (Us r2 ∧ U64 (Int.tmod now (120 : Int)) ∧ U64 (Int.tmod window (60 : Int))) (bindv (trimP r2 (Int.tmod now (120 : Int)) (Int.tmod window (60 : Int))) fun (r6 : List Int) =>
  need (Us r6) (bindv (decide (r6 = r2)) fun (r7 : Bool) =>
  if r7 = true then need (Us r2 ∧ U64 (Go.IntKind.wrap .u64 ((Int.tmod now (120 : Int)) + (Int.tmod more (50 : Int)))) ∧ U64 (Int.tmod window (60 : Int))) (bindv (trimP r2 (Go.IntKind.wrap .u64 ((Int.tmod now (120 : Int)) + (Int.tmod more (50 : Int)))) (Int.tmod window (60 : Int))) fun (r8 : List Int) =>
   need (Us r8) (bindv (decide (r8 = r3)) fun (r9 : Bool) =>
   if r9 = true then need (Us r1 ∧ U64 (Int.tmod now (120 : Int)) ∧ U64 (Go.IntKind.wrap .u64 (Int.tdiv (Int.tmod window (60 : Int)) (2 : Int)))) (bindv (trimP r1 (Int.tmod now (120 : Int)) (Go.IntKind.wrap .u64 (Int.tdiv (Int.tmod window (60 : Int)) (2 : Int)))) fun (r10 : List Int) =>
    if (decide ((r10.length : Int) ≤ (r2.length : Int))) = true then (if (!r5) = true then need (Us r2) (bindv (decide (r2 = r4)) fun (r11 : Bool) =>
      some ⟨.val (false, [(none, ⟨.bool, r11⟩)]), []⟩)
     else some ⟨.val (false, [(none, ⟨.bool, false⟩)]), []⟩)
    else some ⟨.val (false, [(none, ⟨.bool, false⟩)]), []⟩)
   else some ⟨.val (false, [(none, ⟨.bool, false⟩)]), []⟩))
  else some ⟨.val (false, [(none, ⟨.bool, false⟩)]), []⟩))))))
end Go.Bur
