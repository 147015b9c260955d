/- Models of functions, printed by a program of this session out of Lean's own print of the translation, and the contracts' texts: Cur. -/

import Derived.Test.YtcnfeibfjmnlfaaAbPure
import Derived.Test.YtcnfeibfjmnlfaaCurD
namespace Go.Cur
open Go.Ab Go.RowKit
set_option linter.unusedVariables false
set_option linter.unusedSimpArgs false
set_option maxRecDepth 100000
/- jobmux/jobmuxmill.Mod -/
noncomputable def m_mod (x : Int) (y : Int) : Option Res :=
  if y ≠ 0 then (if (decide ((Int.tmod x y) < (0 : Int))) = true then some ⟨.val (false, [(none, ⟨.int .i64, Go.IntKind.wrap .i64 ((Int.tmod x y) + y)⟩)]), []⟩
   else some ⟨.val (false, [(none, ⟨.int .i64, Int.tmod x y⟩)]), []⟩)
  else none
noncomputable def r_mod (x : Int) (y : Int) : Res := ⟨.val (false, [(none, ⟨.int .i64, x % y⟩)]), []⟩
def c_mod (x : Int) (y : Int) : Prop := I64 x ∧ 0 < y ∧ I64 y
noncomputable def modS : Go.Ab.Spec := fun xs => match xs with
  | [.val (false, [(none, ⟨.int .i64, x⟩)]), .val (false, [(none, ⟨.int .i64, y⟩)])] => .yes (I64 x ∧ 0 < y ∧ I64 y) (Classical.propDecidable _) ⟨.val (false, [(none, ⟨.int .i64, x % y⟩)]), []⟩
  | _ => .no
/- jobmux/jobmuxmill.New -/
noncomputable def m_new (l : List Int) : Option Res :=
  some ⟨.ptr [⟨.slice (.int .i64), l⟩, ⟨.int .i64, (0 : Int)⟩], []⟩
noncomputable def r_new (l : List Int) : Res := ⟨.ptr [⟨.slice (.int .i64), l⟩, ⟨.int .i64, (0 : Int)⟩], []⟩
def c_new (l : List Int) : Prop := True
noncomputable def newS : Go.Ab.Spec := fun xs => match xs with
  | [.val (false, [(none, ⟨.slice (.int .i64), l⟩)])] => .yes (True) (.isTrue trivial) ⟨.ptr [⟨.slice (.int .i64), l⟩, ⟨.int .i64, (0 : Int)⟩], []⟩
  | _ => .no
/- (*jobmux/jobmuxmill.Deck).Left -/
noncomputable def m_left (d_0 : List Int) (d_1 : Int) : Option Res :=
  some ⟨.val (false, [(none, ⟨.bool, decide (d_1 < (d_0.length : Int))⟩)]), [[(none, ⟨.slice (.int .i64), d_0⟩), (none, ⟨.int .i64, d_1⟩)]]⟩
noncomputable def r_left (d_0 : List Int) (d_1 : Int) : Res := ⟨.val (false, [(none, ⟨.bool, decide ((d_0, (d_1, ())).2.1 < ((d_0, (d_1, ())).1.length : Int))⟩)]), [[(none, ⟨.slice (.int .i64), d_0⟩), (none, ⟨.int .i64, d_1⟩)]]⟩
def c_left (d_0 : List Int) (d_1 : Int) : Prop := True
noncomputable def leftS : Go.Ab.Spec := fun xs => match xs with
  | [.box [(none, ⟨.slice (.int .i64), d_0⟩), (none, ⟨.int .i64, d_1⟩)]] => .yes (True) (.isTrue trivial) ⟨.val (false, [(none, ⟨.bool, decide ((d_0, (d_1, ())).2.1 < ((d_0, (d_1, ())).1.length : Int))⟩)]), [[(none, ⟨.slice (.int .i64), d_0⟩), (none, ⟨.int .i64, d_1⟩)]]⟩
  | _ => .no
/- (*jobmux/jobmuxmill.Deck).Next -/
noncomputable def m_dnxt (d_0 : List Int) (d_1 : Int) (n : Int) : Option Res :=
  bindv (decide ((d_0, (d_1, ())).2.1 < ((d_0, (d_1, ())).1.length : Int))) fun (r1 : Bool) =>
  bindv ((d_0, (d_1, ()))) fun (r2 : (List Int) × (Int × Unit)) =>
  if (!r1) = true then some ⟨.val (false, [(none, ⟨.int .i64, (0 : Int)⟩)]), [[(none, ⟨.slice (.int .i64), r2.1⟩), (none, ⟨.int .i64, r2.2.1⟩)]]⟩
  else if 0 ≤ Go.IntKind.wrap .i64 ((Go.IntKind.wrap .i64 (r2.2.1 + (1 : Int))) - (1 : Int)) ∧ Go.IntKind.wrap .i64 ((Go.IntKind.wrap .i64 (r2.2.1 + (1 : Int))) - (1 : Int)) < r2.1.length then need (I64 (r2.1.getD (Go.IntKind.wrap .i64 ((Go.IntKind.wrap .i64 (r2.2.1 + (1 : Int))) - (1 : Int))).toNat (0 : Int)) ∧ 0 < n ∧ I64 n) (bindv ((r2.1.getD (Go.IntKind.wrap .i64 ((Go.IntKind.wrap .i64 (r2.2.1 + (1 : Int))) - (1 : Int))).toNat (0 : Int)) % n) fun (r3 : Int) =>
   some ⟨.val (false, [(none, ⟨.int .i64, r3⟩)]), [[(none, ⟨.slice (.int .i64), r2.1⟩), (none, ⟨.int .i64, Go.IntKind.wrap .i64 (r2.2.1 + (1 : Int))⟩)]]⟩)
  else none
noncomputable def r_dnxt (d_0 : List Int) (d_1 : Int) (n : Int) : Res := ⟨.val (false, [(none, ⟨.int .i64, dnext (d_0, (d_1, ())) n⟩)]), [[(none, ⟨.slice (.int .i64), (dadv (d_0, (d_1, ()))).1⟩), (none, ⟨.int .i64, ((dadv (d_0, (d_1, ()))).2).1⟩)]]⟩
def c_dnxt (d_0 : List Int) (d_1 : Int) (n : Int) : Prop := DeckOk (d_0, (d_1, ())) ∧ 0 < n ∧ I64 n
noncomputable def dnxtS : Go.Ab.Spec := fun xs => match xs with
  | [.box [(none, ⟨.slice (.int .i64), d_0⟩), (none, ⟨.int .i64, d_1⟩)], .val (false, [(none, ⟨.int .i64, n⟩)])] => .yes (DeckOk (d_0, (d_1, ())) ∧ 0 < n ∧ I64 n) (Classical.propDecidable _) ⟨.val (false, [(none, ⟨.int .i64, dnext (d_0, (d_1, ())) n⟩)]), [[(none, ⟨.slice (.int .i64), (dadv (d_0, (d_1, ()))).1⟩), (none, ⟨.int .i64, ((dadv (d_0, (d_1, ()))).2).1⟩)]]⟩
  | _ => .no
/- (*jobmux/jobmuxmill.Deck).Range -/
noncomputable def m_rng (d_0 : List Int) (d_1 : Int) (lo : Int) (hi : Int) : Option Res :=
  need (DeckOk (d_0, (d_1, ())) ∧ 0 < (Go.IntKind.wrap .i64 ((Go.IntKind.wrap .i64 (hi - lo)) + (1 : Int))) ∧ I64 (Go.IntKind.wrap .i64 ((Go.IntKind.wrap .i64 (hi - lo)) + (1 : Int)))) (bindv (dnext (d_0, (d_1, ())) (Go.IntKind.wrap .i64 ((Go.IntKind.wrap .i64 (hi - lo)) + (1 : Int)))) fun (r1 : Int) =>
  bindv (dadv (d_0, (d_1, ()))) fun (r2 : (List Int) × (Int × Unit)) =>
  some ⟨.val (false, [(none, ⟨.int .i64, Go.IntKind.wrap .i64 (lo + r1)⟩)]), [[(none, ⟨.slice (.int .i64), r2.1⟩), (none, ⟨.int .i64, r2.2.1⟩)]]⟩)
noncomputable def r_rng (d_0 : List Int) (d_1 : Int) (lo : Int) (hi : Int) : Res := ⟨.val (false, [(none, ⟨.int .i64, lo + dnext (d_0, (d_1, ())) (hi - lo + 1)⟩)]), [[(none, ⟨.slice (.int .i64), (dadv (d_0, (d_1, ()))).1⟩), (none, ⟨.int .i64, ((dadv (d_0, (d_1, ()))).2).1⟩)]]⟩
def c_rng (d_0 : List Int) (d_1 : Int) (lo : Int) (hi : Int) : Prop := DeckOk (d_0, (d_1, ())) ∧ 0 ≤ lo ∧ lo ≤ hi ∧ hi ≤ 1000000
noncomputable def rngS : Go.Ab.Spec := fun xs => match xs with
  | [.box [(none, ⟨.slice (.int .i64), d_0⟩), (none, ⟨.int .i64, d_1⟩)], .val (false, [(none, ⟨.int .i64, lo⟩)]), .val (false, [(none, ⟨.int .i64, hi⟩)])] => .yes (DeckOk (d_0, (d_1, ())) ∧ 0 ≤ lo ∧ lo ≤ hi ∧ hi ≤ 1000000) (Classical.propDecidable _) ⟨.val (false, [(none, ⟨.int .i64, lo + dnext (d_0, (d_1, ())) (hi - lo + 1)⟩)]), [[(none, ⟨.slice (.int .i64), (dadv (d_0, (d_1, ()))).1⟩), (none, ⟨.int .i64, ((dadv (d_0, (d_1, ()))).2).1⟩)]]⟩
  | _ => .no
/- jobmux/cursor.Valid -/
noncomputable def m_valid (c_0 : Int) (c_1 : Int) (c_2 : Bool) (rows : Int) (cols : Int) : Option Res :=
  if (decide (c_0 ≥ (0 : Int))) = true then (if (decide (c_0 < rows)) = true then (if (decide (c_1 ≥ (0 : Int))) = true then some ⟨.val (false, [(none, ⟨.bool, decide (c_1 < cols)⟩)]), []⟩
    else some ⟨.val (false, [(none, ⟨.bool, false⟩)]), []⟩)
   else some ⟨.val (false, [(none, ⟨.bool, false⟩)]), []⟩)
  else some ⟨.val (false, [(none, ⟨.bool, false⟩)]), []⟩
noncomputable def r_valid (c_0 : Int) (c_1 : Int) (c_2 : Bool) (rows : Int) (cols : Int) : Res := ⟨.val (false, [(none, ⟨.bool, validP (c_0, (c_1, (c_2, ()))) rows cols⟩)]), []⟩
def c_valid (c_0 : Int) (c_1 : Int) (c_2 : Bool) (rows : Int) (cols : Int) : Prop := True
noncomputable def validS : Go.Ab.Spec := fun xs => match xs with
  | [.val (true, [(none, ⟨.int .i64, c_0⟩), (none, ⟨.int .i64, c_1⟩), (none, ⟨.bool, c_2⟩)]), .val (false, [(none, ⟨.int .i64, rows⟩)]), .val (false, [(none, ⟨.int .i64, cols⟩)])] => .yes (True) (.isTrue trivial) ⟨.val (false, [(none, ⟨.bool, validP (c_0, (c_1, (c_2, ()))) rows cols⟩)]), []⟩
  | _ => .no
/- jobmux/cursor.Right -/
noncomputable def m_right (m_0 : Int) (m_1 : Int) (rows : Int) : Option Res :=
  if (decide (m_0 ≥ (0 : Int))) = true then (if (decide (m_0 ≤ m_1)) = true then some ⟨.val (false, [(none, ⟨.bool, decide (m_1 < rows)⟩)]), []⟩
   else some ⟨.val (false, [(none, ⟨.bool, false⟩)]), []⟩)
  else some ⟨.val (false, [(none, ⟨.bool, false⟩)]), []⟩
noncomputable def r_right (m_0 : Int) (m_1 : Int) (rows : Int) : Res := ⟨.val (false, [(none, ⟨.bool, rightP (m_0, (m_1, ())) rows⟩)]), []⟩
def c_right (m_0 : Int) (m_1 : Int) (rows : Int) : Prop := True
noncomputable def rightS : Go.Ab.Spec := fun xs => match xs with
  | [.val (true, [(none, ⟨.int .i64, m_0⟩), (none, ⟨.int .i64, m_1⟩)]), .val (false, [(none, ⟨.int .i64, rows⟩)])] => .yes (True) (.isTrue trivial) ⟨.val (false, [(none, ⟨.bool, rightP (m_0, (m_1, ())) rows⟩)]), []⟩
  | _ => .no
/- jobmux/cursor.Move -/
noncomputable def m_move (c_0 : Int) (c_1 : Int) (c_2 : Bool) (kind : Int) (n : Int) (m_0 : Int) (m_1 : Int) (rows : Int) (cols : Int) : Option Res :=
  bindv (validP (c_0, (c_1, (c_2, ()))) rows cols) fun (r1 : Bool) =>
  if (!r1) = false then (bindv (rightP (m_0, (m_1, ())) rows) fun (r2 : Bool) =>
   if (!r2) = true then some ⟨.val (true, [(none, ⟨.int .i64, c_0⟩), (none, ⟨.int .i64, c_1⟩), (none, ⟨.bool, c_2⟩)]), []⟩
   else if (kind == (1 : Int)) = true then (if (decide (c_0 ≥ m_0)) = true then some ⟨.val (true, [(none, ⟨.int .i64, Go.IntKind.wrap .i64 (c_0 - (Go.Ab.minK (Go.Ab.maxK n (1 : Int)) (Go.IntKind.wrap .i64 (c_0 - m_0))))⟩), (none, ⟨.int .i64, c_1⟩), (none, ⟨.bool, false⟩)]), []⟩
    else some ⟨.val (true, [(none, ⟨.int .i64, Go.IntKind.wrap .i64 (c_0 - (Go.Ab.minK (Go.Ab.maxK n (1 : Int)) (Go.IntKind.wrap .i64 (c_0 - (0 : Int)))))⟩), (none, ⟨.int .i64, c_1⟩), (none, ⟨.bool, false⟩)]), []⟩)
   else if (kind == (2 : Int)) = true then (if (decide (c_0 ≤ m_1)) = true then some ⟨.val (true, [(none, ⟨.int .i64, Go.IntKind.wrap .i64 (c_0 + (Go.Ab.minK (Go.Ab.maxK n (1 : Int)) (Go.IntKind.wrap .i64 (m_1 - c_0))))⟩), (none, ⟨.int .i64, c_1⟩), (none, ⟨.bool, false⟩)]), []⟩
    else some ⟨.val (true, [(none, ⟨.int .i64, Go.IntKind.wrap .i64 (c_0 + (Go.Ab.minK (Go.Ab.maxK n (1 : Int)) (Go.IntKind.wrap .i64 ((Go.IntKind.wrap .i64 (rows - (1 : Int))) - c_0))))⟩), (none, ⟨.int .i64, c_1⟩), (none, ⟨.bool, false⟩)]), []⟩)
   else if (kind == (3 : Int)) = true then some ⟨.val (true, [(none, ⟨.int .i64, c_0⟩), (none, ⟨.int .i64, Go.IntKind.wrap .i64 (c_1 + (Go.Ab.minK (Go.Ab.maxK n (1 : Int)) (Go.IntKind.wrap .i64 ((Go.IntKind.wrap .i64 (cols - (1 : Int))) - c_1))))⟩), (none, ⟨.bool, false⟩)]), []⟩
   else if (kind == (4 : Int)) = true then some ⟨.val (true, [(none, ⟨.int .i64, c_0⟩), (none, ⟨.int .i64, Go.IntKind.wrap .i64 (c_1 - (Go.Ab.minK (Go.Ab.maxK n (1 : Int)) c_1))⟩), (none, ⟨.bool, false⟩)]), []⟩
   else if (kind == (5 : Int)) = true then some ⟨.val (true, [(none, ⟨.int .i64, c_0⟩), (none, ⟨.int .i64, (0 : Int)⟩), (none, ⟨.bool, false⟩)]), []⟩
   else if (kind == (6 : Int)) = true then some ⟨.val (true, [(none, ⟨.int .i64, c_0⟩), (none, ⟨.int .i64, Go.Ab.maxK (0 : Int) (Go.Ab.minK n (Go.IntKind.wrap .i64 (cols - (1 : Int))))⟩), (none, ⟨.bool, false⟩)]), []⟩
   else if (kind == (7 : Int)) = true then some ⟨.val (true, [(none, ⟨.int .i64, Go.Ab.maxK (0 : Int) (Go.Ab.minK n (Go.IntKind.wrap .i64 (rows - (1 : Int))))⟩), (none, ⟨.int .i64, c_1⟩), (none, ⟨.bool, false⟩)]), []⟩
   else if (kind == (8 : Int)) = true then (if (decide ((Go.Ab.maxK n (1 : Int)) ≤ (Go.IntKind.wrap .i64 (Int.tdiv (Go.IntKind.wrap .i64 ((Go.IntKind.wrap .i64 (cols - (1 : Int))) - (Go.IntKind.wrap .i64 ((Go.IntKind.wrap .i64 (Int.tdiv c_1 (8 : Int))) * (8 : Int))))) (8 : Int))))) = true then some ⟨.val (true, [(none, ⟨.int .i64, c_0⟩), (none, ⟨.int .i64, Go.IntKind.wrap .i64 ((Go.IntKind.wrap .i64 ((Go.IntKind.wrap .i64 (Int.tdiv c_1 (8 : Int))) + (Go.Ab.maxK n (1 : Int)))) * (8 : Int))⟩), (none, ⟨.bool, false⟩)]), []⟩
    else some ⟨.val (true, [(none, ⟨.int .i64, c_0⟩), (none, ⟨.int .i64, Go.IntKind.wrap .i64 (cols - (1 : Int))⟩), (none, ⟨.bool, false⟩)]), []⟩)
   else some ⟨.val (true, [(none, ⟨.int .i64, c_0⟩), (none, ⟨.int .i64, c_1⟩), (none, ⟨.bool, c_2⟩)]), []⟩)
  else some ⟨.val (true, [(none, ⟨.int .i64, c_0⟩), (none, ⟨.int .i64, c_1⟩), (none, ⟨.bool, c_2⟩)]), []⟩
noncomputable def r_move (c_0 : Int) (c_1 : Int) (c_2 : Bool) (kind : Int) (n : Int) (m_0 : Int) (m_1 : Int) (rows : Int) (cols : Int) : Res := ⟨.val (true, [(none, ⟨.int .i64, (movP (c_0, (c_1, (c_2, ()))) kind n (m_0, (m_1, ())) rows cols).1⟩), (none, ⟨.int .i64, ((movP (c_0, (c_1, (c_2, ()))) kind n (m_0, (m_1, ())) rows cols).2).1⟩), (none, ⟨.bool, (((movP (c_0, (c_1, (c_2, ()))) kind n (m_0, (m_1, ())) rows cols).2).2).1⟩)]), []⟩
def c_move (c_0 : Int) (c_1 : Int) (c_2 : Bool) (kind : Int) (n : Int) (m_0 : Int) (m_1 : Int) (rows : Int) (cols : Int) : Prop := I64 n ∧ rows ≤ 1000 ∧ cols ≤ 1000
noncomputable def moveS : Go.Ab.Spec := fun xs => match xs with
  | [.val (true, [(none, ⟨.int .i64, c_0⟩), (none, ⟨.int .i64, c_1⟩), (none, ⟨.bool, c_2⟩)]), .val (false, [(none, ⟨.int .i64, kind⟩)]), .val (false, [(none, ⟨.int .i64, n⟩)]), .val (true, [(none, ⟨.int .i64, m_0⟩), (none, ⟨.int .i64, m_1⟩)]), .val (false, [(none, ⟨.int .i64, rows⟩)]), .val (false, [(none, ⟨.int .i64, cols⟩)])] => .yes (I64 n ∧ rows ≤ 1000 ∧ cols ≤ 1000) (Classical.propDecidable _) ⟨.val (true, [(none, ⟨.int .i64, (movP (c_0, (c_1, (c_2, ()))) kind n (m_0, (m_1, ())) rows cols).1⟩), (none, ⟨.int .i64, ((movP (c_0, (c_1, (c_2, ()))) kind n (m_0, (m_1, ())) rows cols).2).1⟩), (none, ⟨.bool, (((movP (c_0, (c_1, (c_2, ()))) kind n (m_0, (m_1, ())) rows cols).2).2).1⟩)]), []⟩
  | _ => .no
/- jobmux/jobmuxref17.Valid -/
noncomputable def m_rvalid (c_0 : Int) (c_1 : Int) (c_2 : Bool) (rows : Int) (cols : Int) : Option Res :=
  if (decide (c_0 ≥ (0 : Int))) = true then (if (decide (c_0 < rows)) = true then (if (decide (c_1 ≥ (0 : Int))) = true then some ⟨.val (false, [(none, ⟨.bool, decide (c_1 < cols)⟩)]), []⟩
    else some ⟨.val (false, [(none, ⟨.bool, false⟩)]), []⟩)
   else some ⟨.val (false, [(none, ⟨.bool, false⟩)]), []⟩)
  else some ⟨.val (false, [(none, ⟨.bool, false⟩)]), []⟩
noncomputable def r_rvalid (c_0 : Int) (c_1 : Int) (c_2 : Bool) (rows : Int) (cols : Int) : Res := ⟨.val (false, [(none, ⟨.bool, validP (c_0, (c_1, (c_2, ()))) rows cols⟩)]), []⟩
def c_rvalid (c_0 : Int) (c_1 : Int) (c_2 : Bool) (rows : Int) (cols : Int) : Prop := True
noncomputable def rvalidS : Go.Ab.Spec := fun xs => match xs with
  | [.val (true, [(none, ⟨.int .i64, c_0⟩), (none, ⟨.int .i64, c_1⟩), (none, ⟨.bool, c_2⟩)]), .val (false, [(none, ⟨.int .i64, rows⟩)]), .val (false, [(none, ⟨.int .i64, cols⟩)])] => .yes (True) (.isTrue trivial) ⟨.val (false, [(none, ⟨.bool, validP (c_0, (c_1, (c_2, ()))) rows cols⟩)]), []⟩
  | _ => .no
/- jobmux/jobmuxref17.Right -/
noncomputable def m_rright (m_0 : Int) (m_1 : Int) (rows : Int) : Option Res :=
  if (decide (m_0 ≥ (0 : Int))) = true then (if (decide (m_0 ≤ m_1)) = true then some ⟨.val (false, [(none, ⟨.bool, decide (m_1 < rows)⟩)]), []⟩
   else some ⟨.val (false, [(none, ⟨.bool, false⟩)]), []⟩)
  else some ⟨.val (false, [(none, ⟨.bool, false⟩)]), []⟩
noncomputable def r_rright (m_0 : Int) (m_1 : Int) (rows : Int) : Res := ⟨.val (false, [(none, ⟨.bool, rightP (m_0, (m_1, ())) rows⟩)]), []⟩
def c_rright (m_0 : Int) (m_1 : Int) (rows : Int) : Prop := True
noncomputable def rrightS : Go.Ab.Spec := fun xs => match xs with
  | [.val (true, [(none, ⟨.int .i64, m_0⟩), (none, ⟨.int .i64, m_1⟩)]), .val (false, [(none, ⟨.int .i64, rows⟩)])] => .yes (True) (.isTrue trivial) ⟨.val (false, [(none, ⟨.bool, rightP (m_0, (m_1, ())) rows⟩)]), []⟩
  | _ => .no
/- jobmux/jobmuxref17.Move -/
noncomputable def m_rmove (c_0 : Int) (c_1 : Int) (c_2 : Bool) (kind : Int) (n : Int) (m_0 : Int) (m_1 : Int) (rows : Int) (cols : Int) : Option Res :=
  bindv (validP (c_0, (c_1, (c_2, ()))) rows cols) fun (r1 : Bool) =>
  if (!r1) = false then (bindv (rightP (m_0, (m_1, ())) rows) fun (r2 : Bool) =>
   if (!r2) = false then (if (decide (kind < (1 : Int))) = false then (if (decide (kind > (8 : Int))) = true then some ⟨.val (true, [(none, ⟨.int .i64, c_0⟩), (none, ⟨.int .i64, c_1⟩), (none, ⟨.bool, c_2⟩)]), []⟩
     else if (kind == (1 : Int)) = true then (if (decide (c_0 ≥ m_0)) = true then some ⟨.val (true, [(none, ⟨.int .i64, Go.IntKind.wrap .i64 (c_0 - (Go.Ab.minK (Go.Ab.maxK (1 : Int) n) (Go.IntKind.wrap .i64 (c_0 - m_0))))⟩), (none, ⟨.int .i64, c_1⟩), (none, ⟨.bool, false⟩)]), []⟩
      else some ⟨.val (true, [(none, ⟨.int .i64, Go.IntKind.wrap .i64 (c_0 - (Go.Ab.minK (Go.Ab.maxK (1 : Int) n) (Go.IntKind.wrap .i64 (c_0 - (0 : Int)))))⟩), (none, ⟨.int .i64, c_1⟩), (none, ⟨.bool, false⟩)]), []⟩)
     else if (kind == (2 : Int)) = true then (if (decide (c_0 ≤ m_1)) = true then some ⟨.val (true, [(none, ⟨.int .i64, Go.IntKind.wrap .i64 (c_0 + (Go.Ab.minK (Go.Ab.maxK (1 : Int) n) (Go.IntKind.wrap .i64 (m_1 - c_0))))⟩), (none, ⟨.int .i64, c_1⟩), (none, ⟨.bool, false⟩)]), []⟩
      else some ⟨.val (true, [(none, ⟨.int .i64, Go.IntKind.wrap .i64 (c_0 + (Go.Ab.minK (Go.Ab.maxK (1 : Int) n) (Go.IntKind.wrap .i64 ((Go.IntKind.wrap .i64 (rows - (1 : Int))) - c_0))))⟩), (none, ⟨.int .i64, c_1⟩), (none, ⟨.bool, false⟩)]), []⟩)
     else if (kind == (3 : Int)) = true then some ⟨.val (true, [(none, ⟨.int .i64, c_0⟩), (none, ⟨.int .i64, Go.IntKind.wrap .i64 (c_1 + (Go.Ab.minK (Go.Ab.maxK (1 : Int) n) (Go.IntKind.wrap .i64 ((Go.IntKind.wrap .i64 (cols - (1 : Int))) - c_1))))⟩), (none, ⟨.bool, false⟩)]), []⟩
     else if (kind == (4 : Int)) = true then some ⟨.val (true, [(none, ⟨.int .i64, c_0⟩), (none, ⟨.int .i64, Go.IntKind.wrap .i64 (c_1 - (Go.Ab.minK (Go.Ab.maxK (1 : Int) n) c_1))⟩), (none, ⟨.bool, false⟩)]), []⟩
     else if (kind == (5 : Int)) = true then some ⟨.val (true, [(none, ⟨.int .i64, c_0⟩), (none, ⟨.int .i64, (0 : Int)⟩), (none, ⟨.bool, false⟩)]), []⟩
     else if (kind == (6 : Int)) = true then some ⟨.val (true, [(none, ⟨.int .i64, c_0⟩), (none, ⟨.int .i64, Go.Ab.maxK (0 : Int) (Go.Ab.minK n (Go.IntKind.wrap .i64 (cols - (1 : Int))))⟩), (none, ⟨.bool, false⟩)]), []⟩
     else if (kind == (7 : Int)) = true then some ⟨.val (true, [(none, ⟨.int .i64, Go.Ab.maxK (0 : Int) (Go.Ab.minK n (Go.IntKind.wrap .i64 (rows - (1 : Int))))⟩), (none, ⟨.int .i64, c_1⟩), (none, ⟨.bool, false⟩)]), []⟩
     else if (kind == (8 : Int)) = true then (if (decide ((Go.Ab.maxK (1 : Int) n) > (Go.IntKind.wrap .i64 (Int.tdiv (Go.IntKind.wrap .i64 ((Go.IntKind.wrap .i64 (cols - (1 : Int))) - (Go.IntKind.wrap .i64 (c_1 - (Int.tmod c_1 (8 : Int)))))) (8 : Int))))) = true then some ⟨.val (true, [(none, ⟨.int .i64, c_0⟩), (none, ⟨.int .i64, Go.IntKind.wrap .i64 (cols - (1 : Int))⟩), (none, ⟨.bool, false⟩)]), []⟩
      else some ⟨.val (true, [(none, ⟨.int .i64, c_0⟩), (none, ⟨.int .i64, Go.IntKind.wrap .i64 ((Go.IntKind.wrap .i64 (c_1 - (Int.tmod c_1 (8 : Int)))) + (Go.IntKind.wrap .i64 ((8 : Int) * (Go.Ab.maxK (1 : Int) n))))⟩), (none, ⟨.bool, false⟩)]), []⟩)
     else some ⟨.val (true, [(none, ⟨.int .i64, c_0⟩), (none, ⟨.int .i64, c_1⟩), (none, ⟨.bool, false⟩)]), []⟩)
    else some ⟨.val (true, [(none, ⟨.int .i64, c_0⟩), (none, ⟨.int .i64, c_1⟩), (none, ⟨.bool, c_2⟩)]), []⟩)
   else some ⟨.val (true, [(none, ⟨.int .i64, c_0⟩), (none, ⟨.int .i64, c_1⟩), (none, ⟨.bool, c_2⟩)]), []⟩)
  else some ⟨.val (true, [(none, ⟨.int .i64, c_0⟩), (none, ⟨.int .i64, c_1⟩), (none, ⟨.bool, c_2⟩)]), []⟩
noncomputable def r_rmove (c_0 : Int) (c_1 : Int) (c_2 : Bool) (kind : Int) (n : Int) (m_0 : Int) (m_1 : Int) (rows : Int) (cols : Int) : Res := ⟨.val (true, [(none, ⟨.int .i64, (movP (c_0, (c_1, (c_2, ()))) kind n (m_0, (m_1, ())) rows cols).1⟩), (none, ⟨.int .i64, ((movP (c_0, (c_1, (c_2, ()))) kind n (m_0, (m_1, ())) rows cols).2).1⟩), (none, ⟨.bool, (((movP (c_0, (c_1, (c_2, ()))) kind n (m_0, (m_1, ())) rows cols).2).2).1⟩)]), []⟩
def c_rmove (c_0 : Int) (c_1 : Int) (c_2 : Bool) (kind : Int) (n : Int) (m_0 : Int) (m_1 : Int) (rows : Int) (cols : Int) : Prop := I64 n ∧ rows ≤ 1000 ∧ cols ≤ 1000
noncomputable def rmoveS : Go.Ab.Spec := fun xs => match xs with
  | [.val (true, [(none, ⟨.int .i64, c_0⟩), (none, ⟨.int .i64, c_1⟩), (none, ⟨.bool, c_2⟩)]), .val (false, [(none, ⟨.int .i64, kind⟩)]), .val (false, [(none, ⟨.int .i64, n⟩)]), .val (true, [(none, ⟨.int .i64, m_0⟩), (none, ⟨.int .i64, m_1⟩)]), .val (false, [(none, ⟨.int .i64, rows⟩)]), .val (false, [(none, ⟨.int .i64, cols⟩)])] => .yes (I64 n ∧ rows ≤ 1000 ∧ cols ≤ 1000) (Classical.propDecidable _) ⟨.val (true, [(none, ⟨.int .i64, (movP (c_0, (c_1, (c_2, ()))) kind n (m_0, (m_1, ())) rows cols).1⟩), (none, ⟨.int .i64, ((movP (c_0, (c_1, (c_2, ()))) kind n (m_0, (m_1, ())) rows cols).2).1⟩), (none, ⟨.bool, (((movP (c_0, (c_1, (c_2, ()))) kind n (m_0, (m_1, ())) rows cols).2).2).1⟩)]), []⟩
  | _ => .no
/- jobmux/jobmuxlaw17.made -/
noncomputable def m_made (l : List Int) : Option Res :=
  bindv ((l, (0 : Int), ())) fun (r1 : (List Int) × (Int × Unit)) =>
  need (DeckOk r1 ∧ 0 ≤ (1 : Int) ∧ (1 : Int) ≤ (9 : Int) ∧ (9 : Int) ≤ 1000000) (bindv ((1 : Int) + dnext r1 ((9 : Int) - (1 : Int) + 1)) fun (r2 : Int) =>
  need (DeckOk (dadv r1) ∧ 0 ≤ (1 : Int) ∧ (1 : Int) ≤ (30 : Int) ∧ (30 : Int) ≤ 1000000) (bindv ((1 : Int) + dnext (dadv r1) ((30 : Int) - (1 : Int) + 1)) fun (r3 : Int) =>
  need (DeckOk (dadv (dadv r1)) ∧ 0 < r2 ∧ I64 r2) (bindv (dnext (dadv (dadv r1)) r2) fun (r4 : Int) =>
  bindv (dadv (dadv (dadv r1))) fun (r5 : (List Int) × (Int × Unit)) =>
  need (DeckOk r5 ∧ 0 < r2 ∧ I64 r2) (need (DeckOk (dadv r5) ∧ 0 < r3 ∧ I64 r3) (bindv (dnext (dadv r5) r3) fun (r6 : Int) =>
  need (DeckOk (dadv (dadv r5)) ∧ 0 < (2 : Int) ∧ I64 (2 : Int)) (bindv (dnext (dadv (dadv r5)) (2 : Int)) fun (r7 : Int) =>
  bindv (dadv (dadv (dadv r5))) fun (r8 : (List Int) × (Int × Unit)) =>
  need (DeckOk r8 ∧ 0 ≤ r4 ∧ r4 ≤ (Go.IntKind.wrap .i64 (r2 - (1 : Int))) ∧ (Go.IntKind.wrap .i64 (r2 - (1 : Int))) ≤ 1000000) (bindv (r4 + dnext r8 ((Go.IntKind.wrap .i64 (r2 - (1 : Int))) - r4 + 1)) fun (r9 : Int) =>
  some ⟨.tup [(true, [(none, ⟨.int .i64, dnext r5 r2⟩), (none, ⟨.int .i64, r6⟩), (none, ⟨.bool, r7 == (0 : Int)⟩)]), (true, [(none, ⟨.int .i64, r4⟩), (none, ⟨.int .i64, r9⟩)]), (false, [(none, ⟨.int .i64, r2⟩)]), (false, [(none, ⟨.int .i64, r3⟩)])], []⟩)))))))
noncomputable def r_made (l : List Int) : Res := ⟨.tup [(true, [(none, ⟨.int .i64, ((madeP l).1).1⟩), (none, ⟨.int .i64, (((madeP l).1).2).1⟩), (none, ⟨.bool, ((((madeP l).1).2).2).1⟩)]), (true, [(none, ⟨.int .i64, ((madeP l).2.1).1⟩), (none, ⟨.int .i64, (((madeP l).2.1).2).1⟩)]), (false, [(none, ⟨.int .i64, (madeP l).2.2.1⟩)]), (false, [(none, ⟨.int .i64, (madeP l).2.2.2⟩)])], []⟩
def c_made (l : List Int) : Prop := ListOk l
noncomputable def madeS : Go.Ab.Spec := fun xs => match xs with
  | [.val (false, [(none, ⟨.slice (.int .i64), l⟩)])] => .yes (ListOk l) (Classical.propDecidable _) ⟨.tup [(true, [(none, ⟨.int .i64, ((madeP l).1).1⟩), (none, ⟨.int .i64, (((madeP l).1).2).1⟩), (none, ⟨.bool, ((((madeP l).1).2).2).1⟩)]), (true, [(none, ⟨.int .i64, ((madeP l).2.1).1⟩), (none, ⟨.int .i64, (((madeP l).2.1).2).1⟩)]), (false, [(none, ⟨.int .i64, (madeP l).2.2.1⟩)]), (false, [(none, ⟨.int .i64, (madeP l).2.2.2⟩)])], []⟩
  | _ => .no
/- jobmux/jobmuxlaw17.sane -/
noncomputable def m_sane  : Option Res :=
  need (I64 (2 : Int) ∧ (1 : Int) ≤ 1000 ∧ (40 : Int) ≤ 1000) (bindv (movP ((0 : Int), (3, (false, ()))) (8 : Int) (2 : Int) ((0 : Int), ((0 : Int), ())) (1 : Int) (40 : Int)) fun (r1 : Int × (Int × (Bool × Unit))) =>
  if ((r1.1 == (0 : Int)) && ((r1.2.1 == (16 : Int)) && ((r1.2.2.1 == false) && true))) = true then (bindv (validP ((0 : Int), (3, (false, ()))) (1 : Int) (4 : Int)) fun (r2 : Bool) =>
   some ⟨.val (false, [(none, ⟨.bool, r2⟩)]), []⟩)
  else some ⟨.val (false, [(none, ⟨.bool, false⟩)]), []⟩)
noncomputable def r_sane  : Res := ⟨.val (false, [(none, ⟨.bool, true⟩)]), []⟩
def c_sane  : Prop := True
noncomputable def saneS : Go.Ab.Spec := fun xs => match xs with
  | [] => .yes (True) (.isTrue trivial) ⟨.val (false, [(none, ⟨.bool, true⟩)]), []⟩
  | _ => .no
/- jobmux/jobmuxlaw17.CursorMoves -/
def sh_cursorMoves_0 : Shape := ⟨[.any, .any, .any, .any, .val false [.hole (.int .i64)], .val false [.hole (.int .i64)], .val false [.hole (.int .i64)], .any, .val false [.ptr 0 0], .val false [.ptr 16 0], .any, .any, .any, .any, .any, .val false [.ptr 129 0], .val false [.ptr 145 0], .val false [.hole (.int .i64)], .val false [.hole (.int .i64)], .any, .any, .any, .any, .any, .any, .any, .any, .any, .any, .any, .any, .any, .any, .any, .any, .any, .any, .any, .any, .any, .any, .any, .val false [.own 210], .val false [.hole (.int .i64)], .val false [.hole (.int .i64)], .any, .any, .any, .any, .any, .any, .any, .any, .any, .any, .any, .any, .any, .any, .any, .any, .any, .any, .any, .any, .any, .any, .any, .any, .any, .any, .any, .any, .any, .any, .any, .any, .any, .any, .any, .any, .any, .any, .any, .any, .any, .any, .any, .any, .any, .any, .any, .any, .any, .any, .any, .any, .any, .any, .any, .any, .any, .any, .any, .any, .any, .any, .any, .any, .any, .any, .any, .any, .any, .any, .any, .any, .any, .any, .any, .any, .any, .any, .any, .any, .any, .any, .any, .any, .any, .any, .any, .any, .any, .any, .any, .any, .any, .any, .any, .any], [(0, .box [.hole (.int .i64), .hole (.int .i64), .hole (.bool)]), (16, .box [.hole (.int .i64), .hole (.int .i64)]), (129, .box [.hole (.int .i64), .hole (.int .i64), .hole (.bool)]), (145, .box [.hole (.int .i64), .hole (.int .i64)]), (210, .rows 3 (.int .i64) false)]⟩
def sh_cursorMoves_1 : Shape := ⟨[.any, .any, .any, .any, .val false [.hole (.int .i64)], .val false [.hole (.int .i64)], .val false [.hole (.int .i64)], .any, .val false [.ptr 0 0], .val false [.ptr 16 0], .any, .any, .any, .any, .any, .val false [.ptr 129 0], .val false [.ptr 145 0], .val false [.hole (.int .i64)], .val false [.hole (.int .i64)], .any, .val false [.hole (.int .i64)], .any, .any, .any, .any, .any, .any, .any, .any, .any, .any, .any, .any, .any, .any, .any, .any, .any, .any, .any, .any, .any, .val false [.own 210], .val false [.hole (.int .i64)], .val false [.hole (.int .i64)], .any, .any, .any, .any, .any, .any, .any, .val false [.own 275], .val false [.hole (.int .i64)], .val false [.hole (.int .i64)], .any, .any, .any, .any, .any, .any, .any, .any, .any, .any, .any, .any, .any, .any, .any, .any, .any, .any, .any, .any, .any, .any, .any, .any, .any, .any, .any, .any, .any, .any, .any, .any, .any, .any, .any, .any, .any, .any, .any, .any, .any, .any, .any, .any, .any, .any, .any, .any, .any, .any, .any, .any, .any, .any, .any, .any, .any, .any, .any, .any, .any, .any, .any, .any, .any, .any, .any, .any, .any, .any, .any, .any, .any, .any, .any, .any, .any, .any, .any, .any, .any, .any, .any, .any, .any, .any], [(0, .box [.hole (.int .i64), .hole (.int .i64), .hole (.bool)]), (16, .box [.hole (.int .i64), .hole (.int .i64)]), (129, .box [.hole (.int .i64), .hole (.int .i64), .hole (.bool)]), (145, .box [.hole (.int .i64), .hole (.int .i64)]), (210, .rows 3 (.int .i64) false), (275, .rows 3 (.int .i64) false)]⟩
noncomputable def m_cursorMoves (k0 : Nat) (k1 : Nat) (l : List Int) (raw_0 : Int) (raw_1 : Int) (raw_2 : Bool) (m_0 : Int) (m_1 : Int) (kind : Int) (n : Int) (rows : Int) (cols : Int) : Option Res :=
  if (decide (rows > (1000 : Int))) = false then (if (decide (cols > (1000 : Int))) = true then some ⟨.val (false, [(none, ⟨.bool, true⟩)]), []⟩
   else need (ListOk l) (bindv ((madeP l).2.2.1) fun (r1 : Int) =>
   bindv ((madeP l).2.2.2) fun (r2 : Int) =>
   need (I64 kind ∧ 0 < (9 : Int) ∧ I64 (9 : Int)) (bindv (kind % (9 : Int)) fun (r3 : Int) =>
   loopN (fun (d0 : Int × Int × Int × Int × Int × Int × Int × Int × Int × Bool × Int × Int × Int × Int × Bool × Int × Int × (List Int) × Unit) again0 =>
    if (decide (d0.2.2.2.2.2.2.1 < d0.2.2.2.2.2.1)) = true then (if 0 ≤ d0.2.2.2.2.2.2.1 ∧ d0.2.2.2.2.2.2.1 < d0.2.2.2.2.2.2.2.2.2.2.2.2.2.2.2.2.2.1.length then (if d0.2.2.2.2.2.2.1 < d0.2.2.2.2.2.2.2.2.2.2.2.2.2.2.2.2.2.1.length then need (I64 d0.1 ∧ 0 < (12 : Int) ∧ I64 (12 : Int)) (bindv (d0.1 % (12 : Int)) fun (r4 : Int) =>
       loopN (fun (d1 : Int × Int × Int × Int × Int × Int × Int × Int × Int × Int × Int × Int × Bool × Int × Int × Int × Int × Bool × Int × Int × (List Int) × (List Int) × Unit) again1 =>
        if (decide (d1.2.2.2.2.2.2.2.2.2.1 < d1.2.2.2.2.2.2.2.2.1)) = true then (if 0 ≤ d1.2.2.2.2.2.2.2.2.2.1 ∧ d1.2.2.2.2.2.2.2.2.2.1 < d1.2.2.2.2.2.2.2.2.2.2.2.2.2.2.2.2.2.2.2.2.2.1.length then (if d1.2.2.2.2.2.2.2.2.2.1 < d1.2.2.2.2.2.2.2.2.2.2.2.2.2.2.2.2.2.2.2.2.2.1.length then need (I64 (d1.2.2.2.2.2.2.2.2.2.2.2.2.2.2.2.2.2.2.2.2.2.1.getD d1.2.2.2.2.2.2.2.2.2.1.toNat (0 : Int)) ∧ d1.2.2.2.1 ≤ 1000 ∧ d1.2.2.2.2.1 ≤ 1000) (bindv (movP (d1.2.2.2.2.2.2.2.2.2.2.2.2.2.2.2.1, (d1.2.2.2.2.2.2.2.2.2.2.2.2.2.2.2.2.1, (d1.2.2.2.2.2.2.2.2.2.2.2.2.2.2.2.2.2.1, ()))) d1.2.2.2.2.2.1 (d1.2.2.2.2.2.2.2.2.2.2.2.2.2.2.2.2.2.2.2.2.2.1.getD d1.2.2.2.2.2.2.2.2.2.1.toNat (0 : Int)) (d1.2.2.2.2.2.2.2.2.2.2.2.2.2.2.2.2.2.2.1, (d1.2.2.2.2.2.2.2.2.2.2.2.2.2.2.2.2.2.2.2.1, ())) d1.2.2.2.1 d1.2.2.2.2.1) fun (r5 : Int × (Int × (Bool × Unit))) =>
           need (I64 (d1.2.2.2.2.2.2.2.2.2.2.2.2.2.2.2.2.2.2.2.2.2.1.getD d1.2.2.2.2.2.2.2.2.2.1.toNat (0 : Int)) ∧ d1.2.2.2.1 ≤ 1000 ∧ d1.2.2.2.2.1 ≤ 1000) (bindv (movP (d1.2.2.2.2.2.2.2.2.2.2.2.2.2.2.2.1, (d1.2.2.2.2.2.2.2.2.2.2.2.2.2.2.2.2.1, (d1.2.2.2.2.2.2.2.2.2.2.2.2.2.2.2.2.2.1, ()))) d1.2.2.2.2.2.1 (d1.2.2.2.2.2.2.2.2.2.2.2.2.2.2.2.2.2.2.2.2.2.1.getD d1.2.2.2.2.2.2.2.2.2.1.toNat (0 : Int)) (d1.2.2.2.2.2.2.2.2.2.2.2.2.2.2.2.2.2.2.1, (d1.2.2.2.2.2.2.2.2.2.2.2.2.2.2.2.2.2.2.2.1, ())) d1.2.2.2.1 d1.2.2.2.2.1) fun (r6 : Int × (Int × (Bool × Unit))) =>
           if (!((r5.1 == r6.1) && ((r5.2.1 == r6.2.1) && ((r5.2.2.1 == r6.2.2.1) && true)))) = false then need (I64 (d1.2.2.2.2.2.2.2.2.2.2.2.2.2.2.2.2.2.2.2.2.2.1.getD d1.2.2.2.2.2.2.2.2.2.1.toNat (0 : Int)) ∧ d1.2.1 ≤ 1000 ∧ d1.2.2.1 ≤ 1000) (bindv (movP (d1.2.2.2.2.2.2.2.2.2.2.1, (d1.2.2.2.2.2.2.2.2.2.2.2.1, (d1.2.2.2.2.2.2.2.2.2.2.2.2.1, ()))) d1.2.2.2.2.2.1 (d1.2.2.2.2.2.2.2.2.2.2.2.2.2.2.2.2.2.2.2.2.2.1.getD d1.2.2.2.2.2.2.2.2.2.1.toNat (0 : Int)) (d1.2.2.2.2.2.2.2.2.2.2.2.2.2.1, (d1.2.2.2.2.2.2.2.2.2.2.2.2.2.2.1, ())) d1.2.1 d1.2.2.1) fun (r7 : Int × (Int × (Bool × Unit))) =>
            need (I64 (d1.2.2.2.2.2.2.2.2.2.2.2.2.2.2.2.2.2.2.2.2.2.1.getD d1.2.2.2.2.2.2.2.2.2.1.toNat (0 : Int)) ∧ d1.2.1 ≤ 1000 ∧ d1.2.2.1 ≤ 1000) (bindv (movP (d1.2.2.2.2.2.2.2.2.2.2.1, (d1.2.2.2.2.2.2.2.2.2.2.2.1, (d1.2.2.2.2.2.2.2.2.2.2.2.2.1, ()))) d1.2.2.2.2.2.1 (d1.2.2.2.2.2.2.2.2.2.2.2.2.2.2.2.2.2.2.2.2.2.1.getD d1.2.2.2.2.2.2.2.2.2.1.toNat (0 : Int)) (d1.2.2.2.2.2.2.2.2.2.2.2.2.2.1, (d1.2.2.2.2.2.2.2.2.2.2.2.2.2.2.1, ())) d1.2.1 d1.2.2.1) fun (r8 : Int × (Int × (Bool × Unit))) =>
            if (!((r7.1 == r8.1) && ((r7.2.1 == r8.2.1) && ((r7.2.2.1 == r8.2.2.1) && true)))) = false then need (I64 (d1.2.2.2.2.2.2.2.2.2.2.2.2.2.2.2.2.2.2.2.2.2.1.getD d1.2.2.2.2.2.2.2.2.2.1.toNat (0 : Int)) ∧ d1.2.2.2.1 ≤ 1000 ∧ d1.2.2.2.2.1 ≤ 1000) (bindv (movP (d1.2.2.2.2.2.2.2.2.2.2.2.2.2.2.2.1, (d1.2.2.2.2.2.2.2.2.2.2.2.2.2.2.2.2.1, (d1.2.2.2.2.2.2.2.2.2.2.2.2.2.2.2.2.2.1, ()))) d1.2.2.2.2.2.1 (d1.2.2.2.2.2.2.2.2.2.2.2.2.2.2.2.2.2.2.2.2.2.1.getD d1.2.2.2.2.2.2.2.2.2.1.toNat (0 : Int)) (d1.2.2.2.2.2.2.2.2.2.2.2.2.2.1, (d1.2.2.2.2.2.2.2.2.2.2.2.2.2.2.1, ())) d1.2.2.2.1 d1.2.2.2.2.1) fun (r9 : Int × (Int × (Bool × Unit))) =>
             need (I64 (d1.2.2.2.2.2.2.2.2.2.2.2.2.2.2.2.2.2.2.2.2.2.1.getD d1.2.2.2.2.2.2.2.2.2.1.toNat (0 : Int)) ∧ d1.2.2.2.1 ≤ 1000 ∧ d1.2.2.2.2.1 ≤ 1000) (bindv (movP (d1.2.2.2.2.2.2.2.2.2.2.2.2.2.2.2.1, (d1.2.2.2.2.2.2.2.2.2.2.2.2.2.2.2.2.1, (d1.2.2.2.2.2.2.2.2.2.2.2.2.2.2.2.2.2.1, ()))) d1.2.2.2.2.2.1 (d1.2.2.2.2.2.2.2.2.2.2.2.2.2.2.2.2.2.2.2.2.2.1.getD d1.2.2.2.2.2.2.2.2.2.1.toNat (0 : Int)) (d1.2.2.2.2.2.2.2.2.2.2.2.2.2.1, (d1.2.2.2.2.2.2.2.2.2.2.2.2.2.2.1, ())) d1.2.2.2.1 d1.2.2.2.2.1) fun (r10 : Int × (Int × (Bool × Unit))) =>
             if (!((r9.1 == r10.1) && ((r9.2.1 == r10.2.1) && ((r9.2.2.1 == r10.2.2.1) && true)))) = false then need (I64 (d1.2.2.2.2.2.2.2.2.2.2.2.2.2.2.2.2.2.2.2.2.2.1.getD d1.2.2.2.2.2.2.2.2.2.1.toNat (0 : Int)) ∧ d1.2.2.2.1 ≤ 1000 ∧ d1.2.2.2.2.1 ≤ 1000) (bindv (movP (d1.2.2.2.2.2.2.2.2.2.2.1, (d1.2.2.2.2.2.2.2.2.2.2.2.1, (d1.2.2.2.2.2.2.2.2.2.2.2.2.1, ()))) d1.2.2.2.2.2.1 (d1.2.2.2.2.2.2.2.2.2.2.2.2.2.2.2.2.2.2.2.2.2.1.getD d1.2.2.2.2.2.2.2.2.2.1.toNat (0 : Int)) (d1.2.2.2.2.2.2.2.2.2.2.2.2.2.2.2.2.2.2.1, (d1.2.2.2.2.2.2.2.2.2.2.2.2.2.2.2.2.2.2.2.1, ())) d1.2.2.2.1 d1.2.2.2.2.1) fun (r11 : Int × (Int × (Bool × Unit))) =>
              need (I64 (d1.2.2.2.2.2.2.2.2.2.2.2.2.2.2.2.2.2.2.2.2.2.1.getD d1.2.2.2.2.2.2.2.2.2.1.toNat (0 : Int)) ∧ d1.2.2.2.1 ≤ 1000 ∧ d1.2.2.2.2.1 ≤ 1000) (bindv (movP (d1.2.2.2.2.2.2.2.2.2.2.1, (d1.2.2.2.2.2.2.2.2.2.2.2.1, (d1.2.2.2.2.2.2.2.2.2.2.2.2.1, ()))) d1.2.2.2.2.2.1 (d1.2.2.2.2.2.2.2.2.2.2.2.2.2.2.2.2.2.2.2.2.2.1.getD d1.2.2.2.2.2.2.2.2.2.1.toNat (0 : Int)) (d1.2.2.2.2.2.2.2.2.2.2.2.2.2.2.2.2.2.2.1, (d1.2.2.2.2.2.2.2.2.2.2.2.2.2.2.2.2.2.2.2.1, ())) d1.2.2.2.1 d1.2.2.2.2.1) fun (r12 : Int × (Int × (Bool × Unit))) =>
              if (!((r11.1 == r12.1) && ((r11.2.1 == r12.2.1) && ((r11.2.2.1 == r12.2.2.1) && true)))) = true then some ⟨.val (false, [(none, ⟨.bool, false⟩)]), []⟩
              else again1 (d1.1, d1.2.1, d1.2.2.1, d1.2.2.2.1, d1.2.2.2.2.1, d1.2.2.2.2.2.1, d1.2.2.2.2.2.2.1, d1.2.2.2.2.2.2.2.1, d1.2.2.2.2.2.2.2.2.1, Go.IntKind.wrap .i64 (d1.2.2.2.2.2.2.2.2.2.1 + (1 : Int)), d1.2.2.2.2.2.2.2.2.2.2.1, d1.2.2.2.2.2.2.2.2.2.2.2.1, d1.2.2.2.2.2.2.2.2.2.2.2.2.1, d1.2.2.2.2.2.2.2.2.2.2.2.2.2.1, d1.2.2.2.2.2.2.2.2.2.2.2.2.2.2.1, d1.2.2.2.2.2.2.2.2.2.2.2.2.2.2.2.1, d1.2.2.2.2.2.2.2.2.2.2.2.2.2.2.2.2.1, d1.2.2.2.2.2.2.2.2.2.2.2.2.2.2.2.2.2.1, d1.2.2.2.2.2.2.2.2.2.2.2.2.2.2.2.2.2.2.1, d1.2.2.2.2.2.2.2.2.2.2.2.2.2.2.2.2.2.2.2.1, d1.2.2.2.2.2.2.2.2.2.2.2.2.2.2.2.2.2.2.2.2.1, d1.2.2.2.2.2.2.2.2.2.2.2.2.2.2.2.2.2.2.2.2.2.1, ())))
             else some ⟨.val (false, [(none, ⟨.bool, false⟩)]), []⟩))
            else some ⟨.val (false, [(none, ⟨.bool, false⟩)]), []⟩))
           else some ⟨.val (false, [(none, ⟨.bool, false⟩)]), []⟩))
          else none)
         else none)
        else again0 (d1.1, d1.2.1, d1.2.2.1, d1.2.2.2.1, d1.2.2.2.2.1, d1.2.2.2.2.2.2.1, Go.IntKind.wrap .i64 (d1.2.2.2.2.2.2.2.1 + (1 : Int)), d1.2.2.2.2.2.2.2.2.2.2.1, d1.2.2.2.2.2.2.2.2.2.2.2.1, d1.2.2.2.2.2.2.2.2.2.2.2.2.1, d1.2.2.2.2.2.2.2.2.2.2.2.2.2.1, d1.2.2.2.2.2.2.2.2.2.2.2.2.2.2.1, d1.2.2.2.2.2.2.2.2.2.2.2.2.2.2.2.1, d1.2.2.2.2.2.2.2.2.2.2.2.2.2.2.2.2.1, d1.2.2.2.2.2.2.2.2.2.2.2.2.2.2.2.2.2.1, d1.2.2.2.2.2.2.2.2.2.2.2.2.2.2.2.2.2.2.1, d1.2.2.2.2.2.2.2.2.2.2.2.2.2.2.2.2.2.2.2.1, d1.2.2.2.2.2.2.2.2.2.2.2.2.2.2.2.2.2.2.2.2.1, ())) k1 (d0.1, d0.2.1, d0.2.2.1, d0.2.2.2.1, d0.2.2.2.2.1, (d0.2.2.2.2.2.2.2.2.2.2.2.2.2.2.2.2.2.1.getD d0.2.2.2.2.2.2.1.toNat (0 : Int)), d0.2.2.2.2.2.1, d0.2.2.2.2.2.2.1, (([d0.1, Go.IntKind.wrap .i64 (r4 - (2 : Int))] : List Int).length : Int), (0 : Int), d0.2.2.2.2.2.2.2.1, d0.2.2.2.2.2.2.2.2.1, d0.2.2.2.2.2.2.2.2.2.1, d0.2.2.2.2.2.2.2.2.2.2.1, d0.2.2.2.2.2.2.2.2.2.2.2.1, d0.2.2.2.2.2.2.2.2.2.2.2.2.1, d0.2.2.2.2.2.2.2.2.2.2.2.2.2.1, d0.2.2.2.2.2.2.2.2.2.2.2.2.2.2.1, d0.2.2.2.2.2.2.2.2.2.2.2.2.2.2.2.1, d0.2.2.2.2.2.2.2.2.2.2.2.2.2.2.2.2.1, d0.2.2.2.2.2.2.2.2.2.2.2.2.2.2.2.2.2.1, ([d0.1, Go.IntKind.wrap .i64 (r4 - (2 : Int))] : List Int), ()))
      else none)
     else none)
    else bindv (validP (d0.2.2.2.2.2.2.2.1, (d0.2.2.2.2.2.2.2.2.1, (d0.2.2.2.2.2.2.2.2.2.1, ()))) d0.2.1 d0.2.2.1) fun (r13 : Bool) =>
    bindv (validP (d0.2.2.2.2.2.2.2.1, (d0.2.2.2.2.2.2.2.2.1, (d0.2.2.2.2.2.2.2.2.2.1, ()))) d0.2.1 d0.2.2.1) fun (r14 : Bool) =>
    if (r13 == r14) = true then (bindv (validP (d0.2.2.2.2.2.2.2.2.2.2.2.2.1, (d0.2.2.2.2.2.2.2.2.2.2.2.2.2.1, (d0.2.2.2.2.2.2.2.2.2.2.2.2.2.2.1, ()))) d0.2.2.2.1 d0.2.2.2.2.1) fun (r15 : Bool) =>
     some ⟨.val (false, [(none, ⟨.bool, r15⟩)]), []⟩)
    else some ⟨.val (false, [(none, ⟨.bool, false⟩)]), []⟩) k0 (n, rows, cols, r1, r2, (([kind, Go.IntKind.wrap .i64 ((1 : Int) + r3)] : List Int).length : Int), (0 : Int), raw_0, raw_1, raw_2, m_0, m_1, ((madeP l).1).1, (((madeP l).1).2).1, ((((madeP l).1).2).2).1, ((madeP l).2.1).1, (((madeP l).2.1).2).1, ([kind, Go.IntKind.wrap .i64 ((1 : Int) + r3)] : List Int), ()))))
  else some ⟨.val (false, [(none, ⟨.bool, true⟩)]), []⟩
/- jobmux/jobmuxlaw17.CursorSteps -/
def sh_cursorSteps_0 : Shape := ⟨[.any, .val false [.hole (.int .i64)], .val false [.hole (.int .i64)], .any, .any, .any, .any, .val false [.ptr 112 0], .val false [.ptr 128 0], .val false [.hole (.int .i64)], .val false [.hole (.int .i64)], .val false [.ptr 146 0], .val false [.hole (.int .i64)], .any, .any, .any, .any, .any, .any, .any, .any, .any, .any, .any, .any, .any, .any, .any, .any, .any, .any, .any, .any, .any, .any, .any, .any, .any, .any, .any, .any, .any, .any, .any, .any, .any, .any, .any, .any, .any, .any, .any, .any, .any, .any, .any, .any, .any, .any, .any, .any, .any, .any, .any], [(112, .box [.hole (.int .i64), .hole (.int .i64), .hole (.bool)]), (128, .box [.hole (.int .i64), .hole (.int .i64)]), (146, .box [.hole (.int .i64), .hole (.int .i64), .hole (.bool)])]⟩
noncomputable def m_cursorSteps (k0 : Nat) (l : List Int) (kind : Int) (n : Int) : Option Res :=
  need (ListOk l) (bindv ((madeP l).2.2.1) fun (r1 : Int) =>
  bindv ((madeP l).2.2.2) fun (r2 : Int) =>
  need (I64 kind ∧ 0 < (5 : Int) ∧ I64 (5 : Int)) (bindv (kind % (5 : Int)) fun (r3 : Int) =>
  if 0 ≤ r3 ∧ r3 < ([1, 2, 3, 4, 8] : List Int).length then (if r3 < ([1, 2, 3, 4, 8] : List Int).length then need (I64 n ∧ 0 < (12 : Int) ∧ I64 (12 : Int)) (loopN (fun (d0 : Int × Int × Int × Int × Int × Int × Int × Bool × Int × Int × Int × Int × Bool × Unit) again0 =>
     if (decide (d0.2.2.2.2.1 < d0.2.1)) = true then need (I64 (1 : Int) ∧ d0.2.2.1 ≤ 1000 ∧ d0.2.2.2.1 ≤ 1000) (bindv (movP (d0.2.2.2.2.2.2.2.2.2.2.1, (d0.2.2.2.2.2.2.2.2.2.2.2.1, (d0.2.2.2.2.2.2.2.2.2.2.2.2.1, ()))) d0.1 (1 : Int) (d0.2.2.2.2.2.2.2.2.1, (d0.2.2.2.2.2.2.2.2.2.1, ())) d0.2.2.1 d0.2.2.2.1) fun (r4 : Int × (Int × (Bool × Unit))) =>
      again0 (d0.1, d0.2.1, d0.2.2.1, d0.2.2.2.1, Go.IntKind.wrap .i64 (d0.2.2.2.2.1 + (1 : Int)), d0.2.2.2.2.2.1, d0.2.2.2.2.2.2.1, d0.2.2.2.2.2.2.2.1, d0.2.2.2.2.2.2.2.2.1, d0.2.2.2.2.2.2.2.2.2.1, r4.1, r4.2.1, r4.2.2.1, ()))
     else need (I64 d0.2.1 ∧ d0.2.2.1 ≤ 1000 ∧ d0.2.2.2.1 ≤ 1000) (bindv (movP (d0.2.2.2.2.2.1, (d0.2.2.2.2.2.2.1, (d0.2.2.2.2.2.2.2.1, ()))) d0.1 d0.2.1 (d0.2.2.2.2.2.2.2.2.1, (d0.2.2.2.2.2.2.2.2.2.1, ())) d0.2.2.1 d0.2.2.2.1) fun (r5 : Int × (Int × (Bool × Unit))) =>
     if ((r5.1 == d0.2.2.2.2.2.2.2.2.2.2.1) && ((r5.2.1 == d0.2.2.2.2.2.2.2.2.2.2.2.1) && ((r5.2.2.1 == d0.2.2.2.2.2.2.2.2.2.2.2.2.1) && true))) = true then (bindv (validP r5 d0.2.2.1 d0.2.2.2.1) fun (r6 : Bool) =>
      if r6 = true then some ⟨.val (false, [(none, ⟨.bool, !r5.2.2.1⟩)]), []⟩
      else some ⟨.val (false, [(none, ⟨.bool, false⟩)]), []⟩)
     else some ⟨.val (false, [(none, ⟨.bool, false⟩)]), []⟩)) k0 ((([1, 2, 3, 4, 8] : List Int).getD r3.toNat (0 : Int)), Go.IntKind.wrap .i64 ((1 : Int) + (n % (12 : Int))), r1, r2, (0 : Int), ((madeP l).1).1, (((madeP l).1).2).1, ((((madeP l).1).2).2).1, ((madeP l).2.1).1, (((madeP l).2.1).2).1, ((madeP l).1).1, (((madeP l).1).2).1, ((((madeP l).1).2).2).1, ()))
   else none)
  else none))
/- jobmux/jobmuxlaw17.CursorStays -/
noncomputable def m_cursorStays (l : List Int) (n : Int) : Option Res :=
  need (ListOk l) (bindv ((madeP l).2.2.1) fun (r1 : Int) =>
  bindv ((madeP l).2.2.2) fun (r2 : Int) =>
  need (I64 n ∧ r1 ≤ 1000 ∧ r2 ≤ 1000) (bindv (movP ((madeP l).1) (1 : Int) n ((madeP l).2.1) r1 r2) fun (r3 : Int × (Int × (Bool × Unit))) =>
  need (I64 n ∧ r1 ≤ 1000 ∧ r2 ≤ 1000) (bindv (movP ((madeP l).1) (2 : Int) n ((madeP l).2.1) r1 r2) fun (r4 : Int × (Int × (Bool × Unit))) =>
  if (decide ((((madeP l).1).1) ≥ (((madeP l).2.1).1))) = true then (if (decide ((((madeP l).1).1) ≤ ((((madeP l).2.1).2).1))) = true then (if (decide (r3.1 < (((madeP l).2.1).1))) = false then (if (decide (r4.1 > ((((madeP l).2.1).2).1))) = false then (if (decide (r3.1 > (((madeP l).1).1))) = false then (if (decide (r4.1 < (((madeP l).1).1))) = false then (if (r3.2.1 != ((((madeP l).1).2).1)) = false then (if (r4.2.1 != ((((madeP l).1).2).1)) = true then some ⟨.val (false, [(none, ⟨.bool, false⟩)]), []⟩
         else need (I64 n ∧ 0 < (40 : Int) ∧ I64 (40 : Int)) (need (I64 (Go.IntKind.wrap .i64 ((n % (40 : Int)) - (5 : Int))) ∧ r1 ≤ 1000 ∧ r2 ≤ 1000) (bindv (movP ((madeP l).1) (6 : Int) (Go.IntKind.wrap .i64 ((n % (40 : Int)) - (5 : Int))) ((madeP l).2.1) r1 r2) fun (r5 : Int × (Int × (Bool × Unit))) =>
         need (I64 (Go.IntKind.wrap .i64 ((n % (40 : Int)) - (5 : Int))) ∧ r1 ≤ 1000 ∧ r2 ≤ 1000) (bindv (movP ((madeP l).1) (7 : Int) (Go.IntKind.wrap .i64 ((n % (40 : Int)) - (5 : Int))) ((madeP l).2.1) r1 r2) fun (r6 : Int × (Int × (Bool × Unit))) =>
         need (I64 n ∧ r1 ≤ 1000 ∧ r2 ≤ 1000) (bindv (movP ((madeP l).1) (5 : Int) n ((madeP l).2.1) r1 r2) fun (r7 : Int × (Int × (Bool × Unit))) =>
         if (r5.2.1 == (Go.Ab.maxK (0 : Int) (Go.Ab.minK (Go.IntKind.wrap .i64 ((n % (40 : Int)) - (5 : Int))) (Go.IntKind.wrap .i64 (r2 - (1 : Int)))))) = true then (if (r5.1 == (((madeP l).1).1)) = true then (if (r6.1 == (Go.Ab.maxK (0 : Int) (Go.Ab.minK (Go.IntKind.wrap .i64 ((n % (40 : Int)) - (5 : Int))) (Go.IntKind.wrap .i64 (r1 - (1 : Int)))))) = true then (if (r6.2.1 == ((((madeP l).1).2).1)) = true then (if (r7.2.1 == (0 : Int)) = true then some ⟨.val (false, [(none, ⟨.bool, r7.1 == (((madeP l).1).1)⟩)]), []⟩
             else some ⟨.val (false, [(none, ⟨.bool, false⟩)]), []⟩)
            else some ⟨.val (false, [(none, ⟨.bool, false⟩)]), []⟩)
           else some ⟨.val (false, [(none, ⟨.bool, false⟩)]), []⟩)
          else some ⟨.val (false, [(none, ⟨.bool, false⟩)]), []⟩)
         else some ⟨.val (false, [(none, ⟨.bool, false⟩)]), []⟩)))))
        else some ⟨.val (false, [(none, ⟨.bool, false⟩)]), []⟩)
       else some ⟨.val (false, [(none, ⟨.bool, false⟩)]), []⟩)
      else some ⟨.val (false, [(none, ⟨.bool, false⟩)]), []⟩)
     else some ⟨.val (false, [(none, ⟨.bool, false⟩)]), []⟩)
    else some ⟨.val (false, [(none, ⟨.bool, false⟩)]), []⟩)
   else if (decide (r3.1 > (((madeP l).1).1))) = false then (if (decide (r4.1 < (((madeP l).1).1))) = false then (if (r3.2.1 != ((((madeP l).1).2).1)) = false then (if (r4.2.1 != ((((madeP l).1).2).1)) = true then some ⟨.val (false, [(none, ⟨.bool, false⟩)]), []⟩
      else need (I64 n ∧ 0 < (40 : Int) ∧ I64 (40 : Int)) (need (I64 (Go.IntKind.wrap .i64 ((n % (40 : Int)) - (5 : Int))) ∧ r1 ≤ 1000 ∧ r2 ≤ 1000) (bindv (movP ((madeP l).1) (6 : Int) (Go.IntKind.wrap .i64 ((n % (40 : Int)) - (5 : Int))) ((madeP l).2.1) r1 r2) fun (r8 : Int × (Int × (Bool × Unit))) =>
      need (I64 (Go.IntKind.wrap .i64 ((n % (40 : Int)) - (5 : Int))) ∧ r1 ≤ 1000 ∧ r2 ≤ 1000) (bindv (movP ((madeP l).1) (7 : Int) (Go.IntKind.wrap .i64 ((n % (40 : Int)) - (5 : Int))) ((madeP l).2.1) r1 r2) fun (r9 : Int × (Int × (Bool × Unit))) =>
      need (I64 n ∧ r1 ≤ 1000 ∧ r2 ≤ 1000) (bindv (movP ((madeP l).1) (5 : Int) n ((madeP l).2.1) r1 r2) fun (r10 : Int × (Int × (Bool × Unit))) =>
      if (r8.2.1 == (Go.Ab.maxK (0 : Int) (Go.Ab.minK (Go.IntKind.wrap .i64 ((n % (40 : Int)) - (5 : Int))) (Go.IntKind.wrap .i64 (r2 - (1 : Int)))))) = true then (if (r8.1 == (((madeP l).1).1)) = true then (if (r9.1 == (Go.Ab.maxK (0 : Int) (Go.Ab.minK (Go.IntKind.wrap .i64 ((n % (40 : Int)) - (5 : Int))) (Go.IntKind.wrap .i64 (r1 - (1 : Int)))))) = true then (if (r9.2.1 == ((((madeP l).1).2).1)) = true then (if (r10.2.1 == (0 : Int)) = true then some ⟨.val (false, [(none, ⟨.bool, r10.1 == (((madeP l).1).1)⟩)]), []⟩
          else some ⟨.val (false, [(none, ⟨.bool, false⟩)]), []⟩)
         else some ⟨.val (false, [(none, ⟨.bool, false⟩)]), []⟩)
        else some ⟨.val (false, [(none, ⟨.bool, false⟩)]), []⟩)
       else some ⟨.val (false, [(none, ⟨.bool, false⟩)]), []⟩)
      else some ⟨.val (false, [(none, ⟨.bool, false⟩)]), []⟩)))))
     else some ⟨.val (false, [(none, ⟨.bool, false⟩)]), []⟩)
    else some ⟨.val (false, [(none, ⟨.bool, false⟩)]), []⟩)
   else some ⟨.val (false, [(none, ⟨.bool, false⟩)]), []⟩)
  else if (decide (r3.1 > (((madeP l).1).1))) = false then (if (decide (r4.1 < (((madeP l).1).1))) = false then (if (r3.2.1 != ((((madeP l).1).2).1)) = false then (if (r4.2.1 != ((((madeP l).1).2).1)) = true then some ⟨.val (false, [(none, ⟨.bool, false⟩)]), []⟩
     else need (I64 n ∧ 0 < (40 : Int) ∧ I64 (40 : Int)) (need (I64 (Go.IntKind.wrap .i64 ((n % (40 : Int)) - (5 : Int))) ∧ r1 ≤ 1000 ∧ r2 ≤ 1000) (bindv (movP ((madeP l).1) (6 : Int) (Go.IntKind.wrap .i64 ((n % (40 : Int)) - (5 : Int))) ((madeP l).2.1) r1 r2) fun (r11 : Int × (Int × (Bool × Unit))) =>
     need (I64 (Go.IntKind.wrap .i64 ((n % (40 : Int)) - (5 : Int))) ∧ r1 ≤ 1000 ∧ r2 ≤ 1000) (bindv (movP ((madeP l).1) (7 : Int) (Go.IntKind.wrap .i64 ((n % (40 : Int)) - (5 : Int))) ((madeP l).2.1) r1 r2) fun (r12 : Int × (Int × (Bool × Unit))) =>
     need (I64 n ∧ r1 ≤ 1000 ∧ r2 ≤ 1000) (bindv (movP ((madeP l).1) (5 : Int) n ((madeP l).2.1) r1 r2) fun (r13 : Int × (Int × (Bool × Unit))) =>
     if (r11.2.1 == (Go.Ab.maxK (0 : Int) (Go.Ab.minK (Go.IntKind.wrap .i64 ((n % (40 : Int)) - (5 : Int))) (Go.IntKind.wrap .i64 (r2 - (1 : Int)))))) = true then (if (r11.1 == (((madeP l).1).1)) = true then (if (r12.1 == (Go.Ab.maxK (0 : Int) (Go.Ab.minK (Go.IntKind.wrap .i64 ((n % (40 : Int)) - (5 : Int))) (Go.IntKind.wrap .i64 (r1 - (1 : Int)))))) = true then (if (r12.2.1 == ((((madeP l).1).2).1)) = true then (if (r13.2.1 == (0 : Int)) = true then some ⟨.val (false, [(none, ⟨.bool, r13.1 == (((madeP l).1).1)⟩)]), []⟩
         else some ⟨.val (false, [(none, ⟨.bool, false⟩)]), []⟩)
        else some ⟨.val (false, [(none, ⟨.bool, false⟩)]), []⟩)
       else some ⟨.val (false, [(none, ⟨.bool, false⟩)]), []⟩)
      else some ⟨.val (false, [(none, ⟨.bool, false⟩)]), []⟩)
     else some ⟨.val (false, [(none, ⟨.bool, false⟩)]), []⟩)))))
    else some ⟨.val (false, [(none, ⟨.bool, false⟩)]), []⟩)
   else some ⟨.val (false, [(none, ⟨.bool, false⟩)]), []⟩)
  else some ⟨.val (false, [(none, ⟨.bool, false⟩)]), []⟩)))
end Go.Cur
