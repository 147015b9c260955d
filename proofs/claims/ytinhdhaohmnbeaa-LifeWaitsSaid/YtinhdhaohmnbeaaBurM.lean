/- Models of functions, printed by a program of this session out of Lean's own print of the translation, and the contracts' texts: Bur. -/

import Derived.Test.YtinhdhaohmnbeaaAbPure
import Derived.Test.YtinhdhaohmnbeaaBurD
namespace Go.Bur
open Go.Ab Go.RowKit
set_option linter.unusedVariables false
set_option linter.unusedSimpArgs false
set_option maxRecDepth 1000000
set_option maxHeartbeats 8000000
/- jobmux/ticks.Sub -/
noncomputable def m_sub (a : Int) (b : Int) : Option Res :=
  if 0 ≤ a ∧ 0 ≤ b ∧ b < 18446744073709551616 ∧ 0 ≤ (0 : Int) ∧ (0 : Int) ≤ 1 then (if ((if a < b + (0 : Int) then 1 else 0) != (0 : Int)) = true then some ⟨.val (false, [(none, ⟨.int .u64, (0 : Int)⟩)]), []⟩
   else some ⟨.val (false, [(none, ⟨.int .u64, (a + 18446744073709551616 - b - (0 : Int)) % 18446744073709551616⟩)]), []⟩)
  else none
noncomputable def r_sub (a : Int) (b : Int) : Res := ⟨.val (false, [(none, ⟨.int .u64, subP a b⟩)]), []⟩
def c_sub (a : Int) (b : Int) : Prop := U64 a ∧ U64 b
noncomputable def subS : Go.Ab.Spec := fun xs => match xs with
  | [.val (false, [(none, ⟨.int .u64, a⟩)]), .val (false, [(none, ⟨.int .u64, b⟩)])] => .yes (U64 a ∧ U64 b) (Classical.propDecidable _) ⟨.val (false, [(none, ⟨.int .u64, subP a b⟩)]), []⟩
  | _ => .no
/- jobmux/burst.Trim$1 -/
noncomputable def m_out (t : Int) (now_0 : Int) (window_0 : Int) : Option Res :=
  need (U64 now_0 ∧ U64 t) (some ⟨.val (false, [(none, ⟨.bool, decide ((subP now_0 t) ≥ window_0)⟩)]), [[(none, ⟨.int .u64, now_0⟩)], [(none, ⟨.int .u64, window_0⟩)]]⟩)
noncomputable def r_out (t : Int) (now_0 : Int) (window_0 : Int) : Res := ⟨.val (false, [(none, ⟨.bool, outP now_0 window_0 t⟩)]), [[(none, ⟨.int .u64, now_0⟩)], [(none, ⟨.int .u64, window_0⟩)]]⟩
def c_out (t : Int) (now_0 : Int) (window_0 : Int) : Prop := U64 t ∧ U64 now_0 ∧ U64 window_0
noncomputable def outS : Go.Ab.Spec := fun xs => match xs with
  | [.val (false, [(none, ⟨.int .u64, t⟩)]), .box [(none, ⟨.int .u64, now_0⟩)], .box [(none, ⟨.int .u64, window_0⟩)]] => .yes (U64 t ∧ U64 now_0 ∧ U64 window_0) (Classical.propDecidable _) ⟨.val (false, [(none, ⟨.bool, outP now_0 window_0 t⟩)]), [[], []]⟩
  | _ => .no
/- slices.Clone[[]uint64,uint64] -/
noncomputable def m_clone_nil : Option Res :=
  some ⟨.val (false, [(some 23, ⟨.slice (.int .u64), ([] : List Int)⟩)]), []⟩
noncomputable def m_clone (l : List Int) : Option Res :=
  if (([] : List Int).length + l.length) * 8 ≤ 140737488355328 ∧ ([] : List Int).length + l.length ≤ 9223372036854775807 then some ⟨.val (false, [(some 23, ⟨.slice (.int .u64), ([] : List Int) ++ l⟩)]), []⟩
  else none
noncomputable def r_clone (l : List Int) : Res := ⟨.val (false, [(some 23, ⟨.slice (.int .u64), l⟩)]), []⟩
def c_clone (l : List Int) : Prop := Us l
noncomputable def cloneS : Go.Ab.Spec := fun xs => match xs with
  | [.val (false, [(none, ⟨.slice (.int .u64), l⟩)])] => .yes (Us l) (Classical.propDecidable _) ⟨.val (false, [(some 23, ⟨.slice (.int .u64), l⟩)]), []⟩
  | _ => .no
/- slices.IndexFunc[[]uint64,uint64] -/
def sh_idx_0 : Shape := ⟨[.val false [.hole (.slice (.int .u64))], .val false [.fn 46 [0, 1]], .any, .any, .any, .any, .any, .val false [.hole (.int .i64)], .val false [.hole (.int .i64)], .any, .any, .any, .any, .any, .any, .any, .any, .any, .any], [(0, .box [.hole (.int .u64)]), (1, .box [.hole (.int .u64)])]⟩
noncomputable def m_idx (k0 : Nat) (l : List Int) (now : Int) (window : Int) : Option Res :=
  loopN (fun (d0 : (List Int) × Int × Int × Int × Int × Unit) again0 =>
   if (decide (d0.2.2.1 < d0.2.1)) = true then (if 0 ≤ d0.2.2.1 ∧ d0.2.2.1 < d0.1.length then need (U64 (d0.1.getD d0.2.2.1.toNat (0 : Int)) ∧ U64 d0.2.2.2.1 ∧ U64 d0.2.2.2.2.1) (bindv (outP d0.2.2.2.1 d0.2.2.2.2.1 (d0.1.getD d0.2.2.1.toNat (0 : Int))) fun (r1 : Bool) =>
     if r1 = true then some ⟨.val (false, [(none, ⟨.int .i64, d0.2.2.1⟩)]), [[(none, ⟨.int .u64, d0.2.2.2.1⟩)], [(none, ⟨.int .u64, d0.2.2.2.2.1⟩)]]⟩
     else again0 (d0.1, d0.2.1, Go.IntKind.wrap .i64 (d0.2.2.1 + (1 : Int)), d0.2.2.2.1, d0.2.2.2.2.1, ()))
    else none)
   else some ⟨.val (false, [(none, ⟨.int .i64, (-1 : Int)⟩)]), [[(none, ⟨.int .u64, d0.2.2.2.1⟩)], [(none, ⟨.int .u64, d0.2.2.2.2.1⟩)]]⟩) k0 (l, (l.length : Int), (0 : Int), now, window, ())
noncomputable def r_idx (l : List Int) (now : Int) (window : Int) : Res := ⟨.val (false, [(none, ⟨.int .i64, firstP l now window⟩)]), [[(none, ⟨.int .u64, now⟩)], [(none, ⟨.int .u64, window⟩)]]⟩
def c_idx (l : List Int) (now : Int) (window : Int) : Prop := Us l ∧ U64 now ∧ U64 window
noncomputable def idxS : Go.Ab.Spec := fun xs => match xs with
  | [.val (false, [(none, ⟨.slice (.int .u64), l⟩)]), .fn 46 [[(none, ⟨.int .u64, now⟩)], [(none, ⟨.int .u64, window⟩)]]] => .yes (Us l ∧ U64 now ∧ U64 window) (Classical.propDecidable _) ⟨.val (false, [(none, ⟨.int .i64, firstP l now window⟩)]), [[], []]⟩
  | _ => .no
/- slices.DeleteFunc[[]uint64,uint64] -/
def sh_del_0 : Shape := ⟨[.val false [.own 2], .val false [.fn 46 [0, 1]], .any, .any, .any, .val false [.hole (.int .i64)], .val false [.hole (.int .i64)], .any, .any, .any, .any, .any, .any, .any, .any, .any, .any, .any, .any, .any, .any, .any, .any, .any, .any, .any, .any, .any, .any, .any, .any, .any, .any, .any, .any, .any, .any, .any, .any, .any, .any, .any], [(0, .box [.hole (.int .u64)]), (1, .box [.hole (.int .u64)]), (2, .rows 23 (.int .u64) false)]⟩
noncomputable def m_del (k0 : Nat) (l : List Int) (now : Int) (window : Int) : Option Res :=
  need (Us l ∧ U64 now ∧ U64 window) (bindv (firstP l now window) fun (r1 : Int) =>
  if (r1 == (-1 : Int)) = true then some ⟨.val (false, [(some 23, ⟨.slice (.int .u64), l⟩)]), [[(none, ⟨.int .u64, now⟩)], [(none, ⟨.int .u64, window⟩)]]⟩
  else loopN (fun (d0 : Int × Int × Int × Int × (List Int) × Unit) again0 =>
   if (decide (d0.2.1 < (d0.2.2.2.2.1.length : Int))) = true then (if 0 ≤ d0.2.1 ∧ d0.2.1 < d0.2.2.2.2.1.length then (if d0.2.1 < d0.2.2.2.2.1.length then need (U64 (d0.2.2.2.2.1.getD d0.2.1.toNat (0 : Int)) ∧ U64 d0.2.2.1 ∧ U64 d0.2.2.2.1) (bindv (outP d0.2.2.1 d0.2.2.2.1 (d0.2.2.2.2.1.getD d0.2.1.toNat (0 : Int))) fun (r2 : Bool) =>
      if (!r2) = true then (if 0 ≤ d0.1 ∧ d0.1 < d0.2.2.2.2.1.length then (if d0.1 < d0.2.2.2.2.1.length then again0 (Go.IntKind.wrap .i64 (d0.1 + (1 : Int)), Go.IntKind.wrap .i64 (d0.2.1 + (1 : Int)), d0.2.2.1, d0.2.2.2.1, d0.2.2.2.2.1.set d0.1.toNat (d0.2.2.2.2.1.getD d0.2.1.toNat (0 : Int)), ())
        else none)
       else none)
      else again0 (d0.1, Go.IntKind.wrap .i64 (d0.2.1 + (1 : Int)), d0.2.2.1, d0.2.2.2.1, d0.2.2.2.2.1, ()))
     else none)
    else none)
   else if 0 ≤ d0.1 ∧ d0.1 ≤ (d0.2.2.2.2.1.length : Int) ∧ (d0.2.2.2.2.1.length : Int) ≤ (d0.2.2.2.2.1.length : Int) then (if 0 ≤ (0 : Int) ∧ (0 : Int) ≤ d0.1 ∧ d0.1 ≤ ((d0.2.2.2.2.1.take d0.1.toNat ++ List.replicate ((d0.2.2.2.2.1.length : Int).toNat - d0.1.toNat) (0 : Int) ++ d0.2.2.2.2.1.drop (d0.2.2.2.2.1.length : Int).toNat).length : Int) then some ⟨.val (false, [(some 23, ⟨.slice (.int .u64), (d0.2.2.2.2.1.take d0.1.toNat ++ List.replicate ((d0.2.2.2.2.1.length : Int).toNat - d0.1.toNat) (0 : Int) ++ d0.2.2.2.2.1.drop (d0.2.2.2.2.1.length : Int).toNat).take d0.1.toNat⟩)]), [[(none, ⟨.int .u64, d0.2.2.1⟩)], [(none, ⟨.int .u64, d0.2.2.2.1⟩)]]⟩
    else none)
   else none) k0 (r1, Go.IntKind.wrap .i64 (r1 + (1 : Int)), now, window, l, ()))
noncomputable def r_del (l : List Int) (now : Int) (window : Int) : Res := ⟨.val (false, [(some 23, ⟨.slice (.int .u64), trimP l now window⟩)]), [[(none, ⟨.int .u64, now⟩)], [(none, ⟨.int .u64, window⟩)]]⟩
def c_del (l : List Int) (now : Int) (window : Int) : Prop := Us l ∧ U64 now ∧ U64 window
noncomputable def delS : Go.Ab.Spec := fun xs => match xs with
  | [.val (false, [(some 23, ⟨.slice (.int .u64), l⟩)]), .fn 46 [[(none, ⟨.int .u64, now⟩)], [(none, ⟨.int .u64, window⟩)]]] => .yes (Us l ∧ U64 now ∧ U64 window) (Classical.propDecidable _) ⟨.val (false, [(some 23, ⟨.slice (.int .u64), trimP l now window⟩)]), [[], []]⟩
  | _ => .no
/- jobmux/burst.Trim -/
noncomputable def m_trim (l : List Int) (now : Int) (window : Int) : Option Res :=
  need (Us l) (need (Us l ∧ U64 now ∧ U64 window) (bindv (trimP l now window) fun (r1 : List Int) =>
  some ⟨.val (false, [(some 23, ⟨.slice (.int .u64), r1⟩)]), []⟩))
noncomputable def r_trim (l : List Int) (now : Int) (window : Int) : Res := ⟨.val (false, [(some 23, ⟨.slice (.int .u64), trimP l now window⟩)]), []⟩
def c_trim (l : List Int) (now : Int) (window : Int) : Prop := Us l ∧ U64 now ∧ U64 window
noncomputable def trimS : Go.Ab.Spec := fun xs => match xs with
  | [.val (false, [(none, ⟨.slice (.int .u64), l⟩)]), .val (false, [(none, ⟨.int .u64, now⟩)]), .val (false, [(none, ⟨.int .u64, window⟩)])] => .yes (Us l ∧ U64 now ∧ U64 window) (Classical.propDecidable _) ⟨.val (false, [(some 23, ⟨.slice (.int .u64), trimP l now window⟩)]), []⟩
  | _ => .no
/- jobmux/burst.Allow -/
noncomputable def m_allow (l : List Int) (most : Int) (now : Int) (window : Int) : Option Res :=
  need (Us l ∧ U64 now ∧ U64 window) (bindv (trimP l now window) fun (r1 : List Int) =>
  if (decide ((r1.length : Int) ≥ most)) = true then some ⟨.tup [(false, [(some 23, ⟨.slice (.int .u64), r1⟩)]), (false, [(none, ⟨.bool, false⟩)])], []⟩
  else if (r1.length + ([now] : List Int).length) * 8 ≤ 140737488355328 ∧ r1.length + ([now] : List Int).length ≤ 9223372036854775807 then some ⟨.tup [(false, [(some 23, ⟨.slice (.int .u64), r1 ++ ([now] : List Int)⟩)]), (false, [(none, ⟨.bool, true⟩)])], []⟩
  else none)
noncomputable def r_allow (l : List Int) (most : Int) (now : Int) (window : Int) : Res := ⟨.tup [(false, [(some 23, ⟨.slice (.int .u64), (allowP l most now window).1⟩)]), (false, [(none, ⟨.bool, (allowP l most now window).2⟩)])], []⟩
def c_allow (l : List Int) (most : Int) (now : Int) (window : Int) : Prop := Us l ∧ U64 now ∧ U64 window
noncomputable def allowS : Go.Ab.Spec := fun xs => match xs with
  | [.val (false, [(none, ⟨.slice (.int .u64), l⟩)]), .val (false, [(none, ⟨.int .i64, most⟩)]), .val (false, [(none, ⟨.int .u64, now⟩)]), .val (false, [(none, ⟨.int .u64, window⟩)])] => .yes (Us l ∧ U64 now ∧ U64 window) (Classical.propDecidable _) ⟨.tup [(false, [(some 23, ⟨.slice (.int .u64), (allowP l most now window).1⟩)]), (false, [(none, ⟨.bool, (allowP l most now window).2⟩)])], []⟩
  | _ => .no
end Go.Bur
