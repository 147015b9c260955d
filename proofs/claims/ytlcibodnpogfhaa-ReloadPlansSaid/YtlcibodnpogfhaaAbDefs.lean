/- Abstract values, abstract memory, and the step of one operation, of the abstract interpreter 'Ab' (definitions alone). -/
import Derived.Below
import Derived.Orders
import Derived.Deep.Draws
import Derived.Laws.MakeOwn
import Derived.Laws.AppendOwn
import Derived.KernelRfl
set_option linter.unusedVariables false
set_option linter.unusedSimpArgs false
set_option linter.unnecessarySimpa false
namespace Go.Ab
open Go.RowKit

/-! ### data -/
inductive Ty where
  | int (k : IntKind) | bool | str | slice (t : Ty) | pair (a b : Ty) | unit
  deriving DecidableEq, Inhabited
@[reducible] def Ty.den : Ty → Type
  | .int _ => Int
  | .bool => Bool
  | .str => ByteArray
  | .slice t => List t.den
  | .pair a b => a.den × b.den
  | .unit => Unit
def Ty.size : Ty → Nat
  | .pair a b => a.size + b.size
  | .unit => 0
  | _ => 1
def Ty.dflt : (t : Ty) → t.den
  | .int _ => (0 : Int)
  | .bool => false
  | .str => ByteArray.empty
  | .slice _ => []
  | .pair a b => (a.dflt, b.dflt)
  | .unit => ()
/-- The zero value's cells. -/
def Ty.zeros : Ty → List Value
  | .int k => [.int k 0]
  | .bool => [.bool false]
  | .str => [.string ByteArray.empty]
  | .slice _ => [.slice none 0 0]
  | .pair a b => a.zeros ++ b.zeros
  | .unit => []
structure D where
  t : Ty
  d : t.den
/-- A datum's parts, a cell each. -/
def parts : (t : Ty) → t.den → List D
  | .pair a b, d => parts a d.1 ++ parts b d.2
  | .unit, _ => []
  | .int k, d => [⟨.int k, d⟩]
  | .bool, d => [⟨.bool, d⟩]
  | .str, d => [⟨.str, d⟩]
  | .slice t, d => [⟨.slice t, d⟩]
def toDen (t : Ty) (x : D) : Option t.den := if h : x.t = t then some (h ▸ x.d) else none
/-- A datum out of its parts, and the parts that are left. -/
def joinUp : (t : Ty) → List D → Option (t.den × List D)
  | .pair a b, l => (joinUp a l).bind fun p => (joinUp b p.2).bind fun q => some ((p.1, q.1), q.2)
  | .unit, l => some ((), l)
  | .int k, x :: l => (toDen (.int k) x).map fun d => (d, l)
  | .bool, x :: l => (toDen .bool x).map fun d => (d, l)
  | .str, x :: l => (toDen .str x).map fun d => (d, l)
  | .slice t, x :: l => (toDen (.slice t) x).map fun d => (d, l)
  | _, [] => none

/-! ### abstract values -/
inductive Leaf where
  | dat (x : D)
  | own (id : Nat)                                   -- the header of a row of the call's own, whole
  | ptr (id off : Nat)                               -- into a variable in memory
  | elt (id sz : Nat) (i : Int) (off : Nat)          -- into an element of a row of the call's own
  | dpt (x : D) (off : Nat)                          -- into cells that are only read
  | cl (x : D)                                       -- a slice's datum, the slice's capacity being its length
  | kn (x : D) (b : Bool)                            -- a slice's datum; is the slice nil?
  | nils                                             -- the constant nil of a slice type
  | nilp                                             -- a nil pointer
  | fn (f : FuncId) (caps : List Nat)                -- a function, with the variables that it captured
  | sub (id sz : Nat) (lo hi : Int) (pre : Bool)     -- a part of a row of the call's own (pre: from its beginning on)
  | any
abbrev Reg := Bool × List Leaf                       -- (true: a struct or an array in a register)
inductive AV where
  | val (r : Reg)
  | tup (l : List Reg)
  | undef                                            -- of an operation that was left out
  | any
inductive Chunk where
  | box (ls : List Leaf)
  | rows (e : TypeId) (t : Ty) (xs : List t.den) (frz : Bool)         -- e: the type of the elements, as the program has it
  | gone                                             -- appended to, or handed away: not looked at any more
abbrev Mem := List (Nat × Chunk)
def Mem.get (m : Mem) (id : Nat) : Option Chunk := (m.find? fun p => p.1 == id).map (·.2)
def Mem.put (m : Mem) (id : Nat) (c : Chunk) : Mem := (id, c) :: m
structure AS where
  tm : List AV
  mem : Mem
/-- A type, as far as a step looks at it. -/
inductive TK where
  | int (k : IntKind) | bool | str | slice (e : TypeId) | ptr (e : TypeId) | struct (fs : List (Nat × TypeId)) | array (n : Nat) (e : TypeId) | other
structure TI where
  k : TK
  size : Nat
  bytes : Nat
  ty : Option Ty
abbrev Tys := List (TypeId × TI)
def Tys.get (Δ : Tys) (t : TypeId) : Option TI := (Δ.find? fun p => p.1 == t).map (·.2)
def TK.isAgg : TK → Bool
  | .struct _ | .array .. => true
  | _ => false

/-! ### what a call takes and gives -/
/-- A value without memory of the caller's: whether it is a struct; its parts; of each: is it a row that is the receiver's own from now on (of which elements). -/
abbrev Part := Option TypeId × D
abbrev RV := Bool × List Part
inductive Arg where
  | val (r : RV)
  | box (ls : List Part)
  | fn (f : FuncId) (caps : List (List Part))        -- a function, with the variables that it captured
inductive Out where
  | val (r : RV)
  | tup (l : List RV)
  | ptr (l : List D)                                 -- the address of a new variable that holds these data
structure Res where
  out : Out
  boxes : List (List Part)
inductive SpecR where
  | no
  | yes (c : Prop) (dc : Decidable c) (r : Res)      -- under c: returns r
abbrev Spec := List Arg → SpecR

/-! ### one operation -/
structure Eff where
  v : AV
  wr : Mem
inductive Step where
  | no
  | ok (c : Prop) (dc : Decidable c) (e : Eff)
  | br (t : Bool) (x y : Eff)
def iv (k : IntKind) (n : Int) : AV := .val (false, [.dat ⟨.int k, n⟩])
def bv (b : Bool) : AV := .val (false, [.dat ⟨.bool, b⟩])
def sv (s : ByteArray) : AV := .val (false, [.dat ⟨.str, s⟩])
def lv (l : Leaf) : AV := .val (false, [l])
def pureS (v : AV) : Step := .ok True (.isTrue trivial) ⟨v, []⟩
def chk (c : Prop) [d : Decidable c] (v : AV) : Step := .ok c d ⟨v, []⟩
def bitsK (op : BinOp) (k : IntKind) (x y : Int) : Option Int :=
  let a := BitVec.ofInt k.bits x
  let b := BitVec.ofInt k.bits y
  match op with
  | .and => some (k.wrap (a &&& b).toNat)
  | .or => some (k.wrap (a ||| b).toNat)
  | .xor => some (k.wrap (a ^^^ b).toNat)
  | .andNot => some (k.wrap (a &&& ~~~b).toNat)
  | _ => none
def binInt (op : BinOp) (k : IntKind) (a b : Int) : Step :=
  match op with
  | .add => pureS (iv k (k.wrap (a + b)))
  | .sub => pureS (iv k (k.wrap (a - b)))
  | .mul => pureS (iv k (k.wrap (a * b)))
  | .quo => chk (b ≠ 0) (iv k (k.wrap (a.tdiv b)))
  | .rem => chk (b ≠ 0) (iv k (a.tmod b))
  | .eql => pureS (bv (a == b))
  | .neq => pureS (bv (a != b))
  | .lss => pureS (bv (decide (a < b)))
  | .leq => pureS (bv (decide (a ≤ b)))
  | .gtr => pureS (bv (decide (a > b)))
  | .geq => pureS (bv (decide (a ≥ b)))
  | .and => pureS (iv k (k.wrap (BitVec.ofInt k.bits a &&& BitVec.ofInt k.bits b).toNat))
  | .or => pureS (iv k (k.wrap (BitVec.ofInt k.bits a ||| BitVec.ofInt k.bits b).toNat))
  | .xor => pureS (iv k (k.wrap (BitVec.ofInt k.bits a ^^^ BitVec.ofInt k.bits b).toNat))
  | .andNot => pureS (iv k (k.wrap (BitVec.ofInt k.bits a &&& ~~~BitVec.ofInt k.bits b).toNat))
  | _ => .no
def binShift (op : BinOp) (k : IntKind) (a b : Int) : Step :=
  match op with
  | .shl => chk (0 ≤ b) (iv k (k.wrap (a * 2 ^ min b.toNat k.bits)))
  | .shr => chk (0 ≤ b) (iv k (a.fdiv (2 ^ min b.toNat k.bits)))
  | _ => .no
def binStr (op : BinOp) (x y : ByteArray) : Step :=
  match op with
  | .add => chk (x.size + y.size ≤ 9223372036854775807) (sv (x ++ y))
  | .eql => pureS (bv (x.toList == y.toList))
  | .neq => pureS (bv (!(x.toList == y.toList)))
  | .lss => pureS (bv (Op.bytesLess x.toList y.toList))
  | .leq => pureS (bv (Op.bytesLess x.toList y.toList || (x.toList == y.toList)))
  | .gtr => pureS (bv (!(Op.bytesLess x.toList y.toList || (x.toList == y.toList))))
  | .geq => pureS (bv (!(Op.bytesLess x.toList y.toList)))
  | _ => .no
end Go.Ab
