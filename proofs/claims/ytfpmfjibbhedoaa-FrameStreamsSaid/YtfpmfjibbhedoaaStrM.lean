/- Models of functions, printed by a program of this session out of Lean's own print of the translation, and the contracts' texts: Str. -/

import Derived.Test.YtfpmfjibbhedoaaAbPure
import Derived.Test.YtfpmfjibbhedoaaStrD
import Derived.Test.YtfpmfjibbhedoaaFrmM
namespace Go.Str
open Go.Ab Go.RowKit Go.Frm
set_option linter.unusedVariables false
set_option linter.unusedSimpArgs false
set_option maxRecDepth 100000
/- jobmux/jobmuxmill.New -/
noncomputable def m_new (l : List Int) : Option Res :=
  some ⟨.ptr [⟨.slice (.int .i64), l⟩, ⟨.int .i64, (0 : Int)⟩], []⟩
noncomputable def r_new (l : List Int) : Res := ⟨.ptr [⟨.slice (.int .i64), l⟩, ⟨.int .i64, (0 : Int)⟩], []⟩
def c_new (l : List Int) : Prop := True
noncomputable def newS : Go.Ab.Spec := fun xs => match xs with
  | [.val (false, [(none, ⟨.slice (.int .i64), l⟩)])] => .yes (True) (.isTrue trivial) ⟨.ptr [⟨.slice (.int .i64), l⟩, ⟨.int .i64, (0 : Int)⟩], []⟩
  | _ => .no
/- (*jobmux/jobmuxmill.Deck).Left -/
noncomputable def m_left (d_0 : List Int) (d_1 : Int) : Option Res :=
  some ⟨.val (false, [(none, ⟨.bool, decide (d_1 < (d_0.length : Int))⟩)]), [[(none, ⟨.slice (.int .i64), d_0⟩), (none, ⟨.int .i64, d_1⟩)]]⟩
noncomputable def r_left (d_0 : List Int) (d_1 : Int) : Res := ⟨.val (false, [(none, ⟨.bool, decide ((d_0, (d_1, ())).2.1 < ((d_0, (d_1, ())).1.length : Int))⟩)]), [[(none, ⟨.slice (.int .i64), d_0⟩), (none, ⟨.int .i64, d_1⟩)]]⟩
def c_left (d_0 : List Int) (d_1 : Int) : Prop := True
noncomputable def leftS : Go.Ab.Spec := fun xs => match xs with
  | [.box [(none, ⟨.slice (.int .i64), d_0⟩), (none, ⟨.int .i64, d_1⟩)]] => .yes (True) (.isTrue trivial) ⟨.val (false, [(none, ⟨.bool, decide ((d_0, (d_1, ())).2.1 < ((d_0, (d_1, ())).1.length : Int))⟩)]), [[(none, ⟨.slice (.int .i64), d_0⟩), (none, ⟨.int .i64, d_1⟩)]]⟩
  | _ => .no
/- (*jobmux/jobmuxmill.Deck).Next -/
noncomputable def m_dnxt (d_0 : List Int) (d_1 : Int) (n : Int) : Option Res :=
  bindv (decide ((d_0, (d_1, ())).2.1 < ((d_0, (d_1, ())).1.length : Int))) fun (r1 : Bool) =>
  bindv ((d_0, (d_1, ()))) fun (r2 : (List Int) × (Int × Unit)) =>
  if (!r1) = true then some ⟨.val (false, [(none, ⟨.int .i64, (0 : Int)⟩)]), [[(none, ⟨.slice (.int .i64), r2.1⟩), (none, ⟨.int .i64, r2.2.1⟩)]]⟩
  else if 0 ≤ Go.IntKind.wrap .i64 ((Go.IntKind.wrap .i64 (r2.2.1 + (1 : Int))) - (1 : Int)) ∧ Go.IntKind.wrap .i64 ((Go.IntKind.wrap .i64 (r2.2.1 + (1 : Int))) - (1 : Int)) < r2.1.length then need (Go.Frm.I64 (r2.1.getD (Go.IntKind.wrap .i64 ((Go.IntKind.wrap .i64 (r2.2.1 + (1 : Int))) - (1 : Int))).toNat (0 : Int)) ∧ 0 < n ∧ Go.Frm.I64 n) (bindv ((r2.1.getD (Go.IntKind.wrap .i64 ((Go.IntKind.wrap .i64 (r2.2.1 + (1 : Int))) - (1 : Int))).toNat (0 : Int)) % n) fun (r3 : Int) =>
   some ⟨.val (false, [(none, ⟨.int .i64, r3⟩)]), [[(none, ⟨.slice (.int .i64), r2.1⟩), (none, ⟨.int .i64, Go.IntKind.wrap .i64 (r2.2.1 + (1 : Int))⟩)]]⟩)
  else none
noncomputable def r_dnxt (d_0 : List Int) (d_1 : Int) (n : Int) : Res := ⟨.val (false, [(none, ⟨.int .i64, dnext (d_0, (d_1, ())) n⟩)]), [[(none, ⟨.slice (.int .i64), (dadv (d_0, (d_1, ()))).1⟩), (none, ⟨.int .i64, ((dadv (d_0, (d_1, ()))).2).1⟩)]]⟩
def c_dnxt (d_0 : List Int) (d_1 : Int) (n : Int) : Prop := DeckOk (d_0, (d_1, ())) ∧ 0 < n ∧ Go.Frm.I64 n
noncomputable def dnxtS : Go.Ab.Spec := fun xs => match xs with
  | [.box [(none, ⟨.slice (.int .i64), d_0⟩), (none, ⟨.int .i64, d_1⟩)], .val (false, [(none, ⟨.int .i64, n⟩)])] => .yes (DeckOk (d_0, (d_1, ())) ∧ 0 < n ∧ Go.Frm.I64 n) (Classical.propDecidable _) ⟨.val (false, [(none, ⟨.int .i64, dnext (d_0, (d_1, ())) n⟩)]), [[(none, ⟨.slice (.int .i64), (dadv (d_0, (d_1, ()))).1⟩), (none, ⟨.int .i64, ((dadv (d_0, (d_1, ()))).2).1⟩)]]⟩
  | _ => .no
/- jobmux/jobmuxmill.Output -/
noncomputable def m_outp (d_0 : List Int) (d_1 : Int) : Option Res :=
  need (DeckOk (d_0, (d_1, ())) ∧ 0 < (12 : Int) ∧ Go.Frm.I64 (12 : Int)) (bindv (dnext (d_0, (d_1, ())) (12 : Int)) fun (r1 : Int) =>
  bindv (dadv (d_0, (d_1, ()))) fun (r2 : (List Int) × (Int × Unit)) =>
  if 0 ≤ r1 ∧ r1 < ([(⟨#[111, 107]⟩ : ByteArray), (⟨#[111]⟩ : ByteArray), (⟨#[107]⟩ : ByteArray), (⟨#[114, 101, 97, 100, 121, 10]⟩ : ByteArray), (⟨#[117, 112]⟩ : ByteArray), (⟨#[10, 103, 111, 111]⟩ : ByteArray), (⟨#[49, 50, 120]⟩ : ByteArray), (⟨#[97, 98, 97, 98, 99]⟩ : ByteArray), (⟨#[99]⟩ : ByteArray), (⟨#[10]⟩ : ByteArray), (⟨#[122, 122]⟩ : ByteArray), (⟨#[27, 91, 49, 109, 104, 105, 13, 10]⟩ : ByteArray)] : List ByteArray).length then (if r1 < ([(⟨#[111, 107]⟩ : ByteArray), (⟨#[111]⟩ : ByteArray), (⟨#[107]⟩ : ByteArray), (⟨#[114, 101, 97, 100, 121, 10]⟩ : ByteArray), (⟨#[117, 112]⟩ : ByteArray), (⟨#[10, 103, 111, 111]⟩ : ByteArray), (⟨#[49, 50, 120]⟩ : ByteArray), (⟨#[97, 98, 97, 98, 99]⟩ : ByteArray), (⟨#[99]⟩ : ByteArray), (⟨#[10]⟩ : ByteArray), (⟨#[122, 122]⟩ : ByteArray), (⟨#[27, 91, 49, 109, 104, 105, 13, 10]⟩ : ByteArray)] : List ByteArray).length then (if (([(⟨#[111, 107]⟩ : ByteArray), (⟨#[111]⟩ : ByteArray), (⟨#[107]⟩ : ByteArray), (⟨#[114, 101, 97, 100, 121, 10]⟩ : ByteArray), (⟨#[117, 112]⟩ : ByteArray), (⟨#[10, 103, 111, 111]⟩ : ByteArray), (⟨#[49, 50, 120]⟩ : ByteArray), (⟨#[97, 98, 97, 98, 99]⟩ : ByteArray), (⟨#[99]⟩ : ByteArray), (⟨#[10]⟩ : ByteArray), (⟨#[122, 122]⟩ : ByteArray), (⟨#[27, 91, 49, 109, 104, 105, 13, 10]⟩ : ByteArray)] : List ByteArray).getD r1.toNat ByteArray.empty).size ≤ 9223372036854775807 then some ⟨.val (false, [(none, ⟨.slice (.int .u8), bytesOfStr (([(⟨#[111, 107]⟩ : ByteArray), (⟨#[111]⟩ : ByteArray), (⟨#[107]⟩ : ByteArray), (⟨#[114, 101, 97, 100, 121, 10]⟩ : ByteArray), (⟨#[117, 112]⟩ : ByteArray), (⟨#[10, 103, 111, 111]⟩ : ByteArray), (⟨#[49, 50, 120]⟩ : ByteArray), (⟨#[97, 98, 97, 98, 99]⟩ : ByteArray), (⟨#[99]⟩ : ByteArray), (⟨#[10]⟩ : ByteArray), (⟨#[122, 122]⟩ : ByteArray), (⟨#[27, 91, 49, 109, 104, 105, 13, 10]⟩ : ByteArray)] : List ByteArray).getD r1.toNat ByteArray.empty)⟩)]), [[(none, ⟨.slice (.int .i64), r2.1⟩), (none, ⟨.int .i64, r2.2.1⟩)]]⟩
    else none)
   else none)
  else none)
noncomputable def r_outp (d_0 : List Int) (d_1 : Int) : Res := ⟨.val (false, [(none, ⟨.slice (.int .u8), outP (d_0, (d_1, ()))⟩)]), [[(none, ⟨.slice (.int .i64), (dadv (d_0, (d_1, ()))).1⟩), (none, ⟨.int .i64, ((dadv (d_0, (d_1, ()))).2).1⟩)]]⟩
def c_outp (d_0 : List Int) (d_1 : Int) : Prop := DeckOk (d_0, (d_1, ()))
noncomputable def outpS : Go.Ab.Spec := fun xs => match xs with
  | [.box [(none, ⟨.slice (.int .i64), d_0⟩), (none, ⟨.int .i64, d_1⟩)]] => .yes (DeckOk (d_0, (d_1, ()))) (Classical.propDecidable _) ⟨.val (false, [(none, ⟨.slice (.int .u8), outP (d_0, (d_1, ()))⟩)]), [[(none, ⟨.slice (.int .i64), (dadv (d_0, (d_1, ()))).1⟩), (none, ⟨.int .i64, ((dadv (d_0, (d_1, ()))).2).1⟩)]]⟩
  | _ => .no
/- jobmux/jobmuxlaw27.stream -/
def sh_stream_0 : Shape := ⟨[.any, .any, .any, .any, .val false [.ptr 33 0], .val false [.own 34], .val false [.own 35], .val false [.hole (.int .i64)], .any, .any, .any, .any, .any, .any, .any, .any, .any, .any, .any, .any, .any, .any, .any, .any, .any, .any, .any, .any, .any, .any, .any, .any, .any, .any, .any], [(33, .box [.hole (.slice (.int .i64)), .hole (.int .i64)]), (34, .rows 24 (.slice (.int .u8)) false), (35, .rows 5 (.int .u8) false)]⟩
noncomputable def m_stream (k0 : Nat) (l : List Int) : Option Res :=
  bindv ((l, (0 : Int), ())) fun (r1 : (List Int) × (Int × Unit)) =>
  need (DeckOk r1 ∧ 0 < (6 : Int) ∧ Go.Frm.I64 (6 : Int)) (bindv (dnext r1 (6 : Int)) fun (r2 : Int) =>
  loopN (fun (d0 : Int × (List Int) × Int × (List (List Int)) × (List Int) × Unit) again0 =>
   if (decide (d0.1 > (0 : Int))) = true then need (DeckOk (d0.2.1, (d0.2.2.1, ()))) (bindv (outP (d0.2.1, (d0.2.2.1, ()))) fun (r3 : List Int) =>
    bindv (dadv (d0.2.1, (d0.2.2.1, ()))) fun (r4 : (List Int) × (Int × Unit)) =>
    need ((r3.length : Int) ≤ 1099511627776) (if (d0.2.2.2.1.length + ([r3] : List (List Int)).length) * 24 ≤ 140737488355328 ∧ d0.2.2.2.1.length + ([r3] : List (List Int)).length ≤ 9223372036854775807 then (if (d0.2.2.2.2.1.length + ((encF r3).1).length) * 1 ≤ 140737488355328 ∧ d0.2.2.2.2.1.length + ((encF r3).1).length ≤ 9223372036854775807 then again0 (Go.IntKind.wrap .i64 (d0.1 - (1 : Int)), r4.1, r4.2.1, d0.2.2.2.1 ++ ([r3] : List (List Int)), d0.2.2.2.2.1 ++ ((encF r3).1), ())
     else none)
    else none))
   else some ⟨.tup [(false, [(some 24, ⟨.slice (.slice (.int .u8)), d0.2.2.2.1⟩)]), (false, [(some 5, ⟨.slice (.int .u8), d0.2.2.2.2.1⟩)])], []⟩) k0 (r2, (dadv r1).1, ((dadv r1).2).1, ([] : List (List Int)), ([] : List Int), ()))
noncomputable def r_stream (l : List Int) : Res := ⟨.tup [(false, [(some 24, ⟨.slice (.slice (.int .u8)), wantP l⟩)]), (false, [(some 5, ⟨.slice (.int .u8), framesOf (wantP l)⟩)])], []⟩
def c_stream (l : List Int) : Prop := ListOk l
noncomputable def streamS : Go.Ab.Spec := fun xs => match xs with
  | [.val (false, [(none, ⟨.slice (.int .i64), l⟩)])] => .yes (ListOk l) (Classical.propDecidable _) ⟨.tup [(false, [(some 24, ⟨.slice (.slice (.int .u8)), wantP l⟩)]), (false, [(some 5, ⟨.slice (.int .u8), framesOf (wantP l)⟩)])], []⟩
  | _ => .no
/- jobmux/jobmuxlaw27.FrameStreams -/
noncomputable def m_frameStreams (l : List Int) (cut : Int) : Option Res :=
  need (ListOk l) (bindv (framesOf (wantP l)) fun (r1 : List Int) =>
  need (Go.Frm.I64 cut ∧ 0 < (Go.IntKind.wrap .i64 ((r1.length : Int) + (1 : Int))) ∧ Go.Frm.I64 (Go.IntKind.wrap .i64 ((r1.length : Int) + (1 : Int)))) (bindv (cut % (Go.IntKind.wrap .i64 ((r1.length : Int) + (1 : Int)))) fun (r2 : Int) =>
  if 0 ≤ (0 : Int) ∧ (0 : Int) ≤ r2 ∧ r2 ≤ r1.length then need (BytesOk ((r1.take r2.toNat).drop (0 : Int).toNat)) (bindv ((splitP ((r1.take r2.toNat).drop (0 : Int).toNat)).1) fun (r3 : List (List Int)) =>
   bindv ((splitP ((r1.take r2.toNat).drop (0 : Int).toNat)).2.1) fun (r4 : Int) =>
   bindv ((splitP ((r1.take r2.toNat).drop (0 : Int).toNat)).2.2) fun (r5 : Int) =>
   if (r5 != (0 : Int)) = false then (if (decide (r4 < (0 : Int))) = false then (if (decide (r4 > r2)) = true then some ⟨.val (false, [(none, ⟨.bool, false⟩)]), []⟩
     else if 0 ≤ r4 ∧ r4 ≤ (r1.length : Int) ∧ (r1.length : Int) ≤ r1.length then need (BytesOk ((r1.take (r1.length : Int).toNat).drop r4.toNat)) (bindv ((splitP ((r1.take (r1.length : Int).toNat).drop r4.toNat)).1) fun (r6 : List (List Int)) =>
      bindv ((splitP ((r1.take (r1.length : Int).toNat).drop r4.toNat)).2.1) fun (r7 : Int) =>
      bindv ((splitP ((r1.take (r1.length : Int).toNat).drop r4.toNat)).2.2) fun (r8 : Int) =>
      need (BytesOk r1) (bindv ((splitP r1).2.1) fun (r9 : Int) =>
      bindv ((splitP r1).2.2) fun (r10 : Int) =>
      if (r8 == (0 : Int)) = true then (if (r10 == (0 : Int)) = true then (if ((Go.IntKind.wrap .i64 (r4 + r7)) == (r1.length : Int)) = true then (if (r9 == (r1.length : Int)) = true then need ((((splitP r1).1).length : Int) ≤ 1099511627776) (bindv (sameF ((splitP r1).1) (wantP l)) fun (r11 : Bool) =>
          if r11 = true then (if (([] : List (List Int)).length + r3.length) * 24 ≤ 140737488355328 ∧ ([] : List (List Int)).length + r3.length ≤ 9223372036854775807 then (if ((([] : List (List Int)) ++ r3).length + r6.length) * 24 ≤ 140737488355328 ∧ (([] : List (List Int)) ++ r3).length + r6.length ≤ 9223372036854775807 then need ((((([] : List (List Int)) ++ r3) ++ r6).length : Int) ≤ 1099511627776) (bindv (sameF ((([] : List (List Int)) ++ r3) ++ r6) (wantP l)) fun (r12 : Bool) =>
             some ⟨.val (false, [(none, ⟨.bool, r12⟩)]), []⟩)
            else none)
           else none)
          else some ⟨.val (false, [(none, ⟨.bool, false⟩)]), []⟩)
         else some ⟨.val (false, [(none, ⟨.bool, false⟩)]), []⟩)
        else some ⟨.val (false, [(none, ⟨.bool, false⟩)]), []⟩)
       else some ⟨.val (false, [(none, ⟨.bool, false⟩)]), []⟩)
      else some ⟨.val (false, [(none, ⟨.bool, false⟩)]), []⟩))
     else none)
    else some ⟨.val (false, [(none, ⟨.bool, false⟩)]), []⟩)
   else some ⟨.val (false, [(none, ⟨.bool, false⟩)]), []⟩)
  else none))
end Go.Str
