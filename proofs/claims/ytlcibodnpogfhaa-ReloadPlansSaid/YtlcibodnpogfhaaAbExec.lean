/- The step of one operation, and the abstract interpreter over code, of 'Ab' (definitions alone). -/
import Derived.Test.YtlcibodnpogfhaaAbDefs
set_option linter.unusedVariables false
set_option linter.unusedSimpArgs false
set_option linter.unnecessarySimpa false
namespace Go.Ab
open Go.RowKit

def constAV : Value → AV
  | .int k n => iv k n
  | .bool b => bv b
  | .string s => sv s
  | .slice none 0 0 => lv .nils
  | .pointer none => lv .nilp
  | _ => .any
def evalA (tm : List AV) : Operand → AV
  | .tmp t => tm.getD t .any
  | .const v => constAV v
  | .func f => lv (.fn f [])
  | .global _ => .any
abbrev Mu := Nat → Option Chunk
/-- What a part of a register is as a datum, and the rows that must not be written from then on. -/
def leafD (Δ : Tys) (μ : Mu) (ty : TypeId) : Leaf → Option (D × Mem)
  | .dat x => some (x, [])
  | .own id => match μ id with
    | some (.rows _ t xs true) => some (⟨.slice t, xs⟩, [])
    | some (.rows e t xs false) => some (⟨.slice t, xs⟩, [(id, .rows e t xs true)])
    | _ => none
  | .nils => match (Δ.get ty).bind (·.ty) with
    | some (.slice t) => some (⟨.slice t, []⟩, [])
    | _ => none
  | .cl x => some (x, [])
  | .kn x _ => some (x, [])
  | .sub id sz lo hi _ => match μ id with
    | some (.rows _ t xs true) => if t.size = sz then some (⟨.slice t, (xs.take hi.toNat).drop lo.toNat⟩, []) else none
    | some (.rows e t xs false) => if t.size = sz then some (⟨.slice t, (xs.take hi.toNat).drop lo.toNat⟩, [(id, .rows e t xs true)]) else none
    | _ => none
  | _ => none
def leafDs (Δ : Tys) (μ : Mu) : List Leaf → Option (List D × Mem)
  | [] => some ([], [])
  | l :: ls => (leafD Δ μ 0 l).bind fun p => (leafDs Δ μ ls).bind fun q => some (p.1 :: q.1, p.2 ++ q.2)
def regD (Δ : Tys) (μ : Mu) (ty : TypeId) : Reg → Option (List D × Mem)
  | (false, [l]) => (leafD Δ μ ty l).map fun p => ([p.1], p.2)
  | (true, ls) => leafDs Δ μ ls
  | _ => none
/-- A slice's elements. -/
def sliceOf (μ : Mu) : Leaf → Option D
  | .dat ⟨.slice t, xs⟩ => some ⟨.slice t, xs⟩
  | .cl ⟨.slice t, xs⟩ => some ⟨.slice t, xs⟩
  | .kn ⟨.slice t, xs⟩ _ => some ⟨.slice t, xs⟩
  | .own id => match μ id with
    | some (.rows _ t xs _) => some ⟨.slice t, xs⟩
    | _ => none
  | .sub id sz lo hi _ => match μ id with
    | some (.rows _ t xs _) => if t.size = sz then some ⟨.slice t, (xs.take hi.toNat).drop lo.toNat⟩ else none
    | _ => none
  | _ => none

def kindOf (Δ : Tys) (T : TypeId) : Option TK := (Δ.get T).map TI.k
def cMove (Δ : Tys) (new : Nat) (ty : TypeId) (v : AV) : Step :=
  match v with
  | .val (false, [.nils]) => match Δ.get ty with
    | some ⟨.slice e, _, _, some (.slice t)⟩ => .ok True (.isTrue trivial) ⟨lv (.own new), [(new, .rows e t [] false)]⟩
    | some ⟨.slice e, _, _, none⟩ => match (Δ.get e).bind (·.ty) with          -- (a type whose rows are only read)
      | some t => pureS (lv (.dat ⟨.slice t, []⟩))
      | none => .no
    | _ => .no
  | v => pureS v
/-- A type whose rows are only read. -/
def roTy (Δ : Tys) (ty : TypeId) : Bool := match Δ.get ty with
  | some ⟨.slice _, _, _, none⟩ => true
  | _ => false
def cMoveRo (Δ : Tys) (μ : Mu) (new : Nat) (ty : TypeId) (v : AV) : Step :=
  match v with
  | .val (false, [.nils]) => cMove Δ new ty v
  | .val (false, [l]) => match leafD Δ μ 0 l with
    | some (x, fz) => .ok True (.isTrue trivial) ⟨lv (.dat x), fz⟩
    | none => .no
  | _ => .no
def cMoveAny (Δ : Tys) (μ : Mu) (new : Nat) (ty : TypeId) (v : AV) : Step := if roTy Δ ty = true then cMoveRo Δ μ new ty v else cMove Δ new ty v
def isInt : AV → Option (IntKind × Int)
  | .val (false, [.dat ⟨.int k, a⟩]) => some (k, a)
  | _ => none
def isBool : AV → Option Bool
  | .val (false, [.dat ⟨.bool, a⟩]) => some a
  | _ => none
def isStr : AV → Option ByteArray
  | .val (false, [.dat ⟨.str, a⟩]) => some a
  | _ => none
def isReg : AV → Option Reg
  | .val r => some r
  | _ => none
/-- The cells of type T from offset off on. -/
def cut (Δ : Tys) (T : TypeId) (off : Nat) (ls : List Leaf) : Option Reg :=
  match Δ.get T with
  | some i => if off + i.size ≤ ls.length then
      (if i.k.isAgg then some (true, (ls.drop off).take i.size) else match (ls.drop off).head? with | some l => some (false, [l]) | none => none)
    else none
  | none => none
def eqScal : TK → Reg → Reg → Option Bool
  | .int _, (false, [.dat ⟨.int k, a⟩]), (false, [.dat ⟨.int k', b⟩]) => if k = k' then some (a == b) else none
  | .bool, (false, [.dat ⟨.bool, a⟩]), (false, [.dat ⟨.bool, b⟩]) => some (a == b)
  | .str, (false, [.dat ⟨.str, a⟩]), (false, [.dat ⟨.str, b⟩]) => some (a.toList == b.toList)
  | _, _, _ => none
def eqFs (Δ : Tys) (f : TypeId → Reg → Reg → Option Bool) (ls ms : List Leaf) : List (Nat × TypeId) → Option Bool
  | [] => some true
  | p :: rest => match cut Δ p.2 p.1 ls, cut Δ p.2 p.1 ms with
    | some r, some r' => (f p.2 r r').bind fun b => (eqFs Δ f ls ms rest).map fun c => b && c
    | _, _ => none
/-- '==' of two values of a type (n: nesting). -/
def eqAt (Δ : Tys) : Nat → TypeId → Reg → Reg → Option Bool
  | 0, _, _, _ => none
  | n + 1, T, r, r' => match Δ.get T with
    | some ⟨.struct fs, _, _, _⟩ => match r, r' with
      | (true, ls), (true, ms) => eqFs Δ (eqAt Δ n) ls ms fs
      | _, _ => none
    | some ⟨.int k, _, _, _⟩ => eqScal (.int k) r r'
    | some ⟨.bool, _, _, _⟩ => eqScal .bool r r'
    | some ⟨.str, _, _, _⟩ => eqScal .str r r'
    | _ => none
def cBinAgg (Δ : Tys) (op : BinOp) (T : TypeId) (x y : AV) : Step :=
  match x, y, kindOf Δ T with
  | .val (true, ls), .val (true, ms), some (.struct _) => match eqAt Δ 8 T (true, ls) (true, ms), op with
    | some b, .eql => pureS (bv b)
    | some b, .neq => pureS (bv (!b))
    | _, _ => .no
  | _, _, _ => .no
def cBin (Δ : Tys) (op : BinOp) (T : TypeId) (x y : AV) : Step :=
  match isInt x, isInt y with
  | some (k, a), some (k', b) => match op with
    | .shl => binShift .shl k a b
    | .shr => binShift .shr k a b
    | op => if k = k' then binInt op k a b else .no
  | _, _ => match isStr x, isStr y with
    | some a, some b => binStr op a b
    | _, _ => match isBool x, isBool y, kindOf Δ T, op with
      | some a, some b, some TK.bool, BinOp.eql => pureS (bv (a == b))
      | some a, some b, some TK.bool, BinOp.neq => pureS (bv (a != b))
      | _, _, _, _ => cBinAgg Δ op T x y
def cUn (op : UnOp) (x : AV) : Step :=
  match op, isInt x, isBool x with
  | .not, _, some a => pureS (bv (!a))
  | .neg, some (k, a), _ => pureS (iv k (k.wrap (0 - a)))
  | _, _, _ => .no
def cConv (Δ : Tys) (dst : TypeId) (x : AV) : Step :=
  match isInt x, Δ.get dst with
  | some (_, a), some ⟨.int k, _, _, _⟩ => pureS (iv k (k.wrap a))
  | _, _ => .no
def cExtract (x : AV) (j : Nat) : Step :=
  match x with
  | .tup l => match l[j]? with
    | some r => pureS (.val r)
    | none => .no
  | _ => .no
/-- What comes back: rows of the receiver's own get numbers from n on. -/
def backs : Nat → List Part → List Leaf × Mem × Nat
  | n, [] => ([], [], n)
  | n, (some e, ⟨.slice t, xs⟩) :: l => let r := backs (n + 1) l; (.own n :: r.1, (n, .rows e t xs false) :: r.2.1, r.2.2)
  | n, (_, x) :: l => let r := backs n l; (.dat x :: r.1, r.2.1, r.2.2)
/-- Of which elements are the slices among a type's parts? -/
def elemFlags (Δ : Tys) : Nat → TypeId → List (Option TypeId)
  | 0, _ => []
  | n + 1, T => match Δ.get T with
    | some ⟨.struct fs, _, _, _⟩ => fs.flatMap fun f => elemFlags Δ n f.2
    | some ⟨.array k e, _, _, _⟩ => (List.replicate k (elemFlags Δ n e)).flatten
    | some ⟨.slice e, _, _, some _⟩ => [some e]
    | _ => [none]
/-- A zero value's parts: its slices are rows of one's own that hold nothing. -/
def zeroPart : Option TypeId → D → Part
  | some e, ⟨.slice t, []⟩ => (some e, ⟨.slice t, []⟩)
  | _, x => (none, x)
def zipZero : List (Option TypeId) → List D → List Part
  | f :: fs, x :: xs => zeroPart f x :: zipZero fs xs
  | [], x :: xs => (none, x) :: zipZero [] xs
  | _, [] => []
def zeroParts (Δ : Tys) (T : TypeId) : Option (List Part) := ((Δ.get T).bind (·.ty)).map fun t => zipZero (elemFlags Δ 8 T) (parts t t.dflt)
def cAlloc (Δ : Tys) (new : Nat) (T : TypeId) : Step :=
  match zeroParts Δ T with
  | some ps => if Nat.ble (backs new ps).2.2 (new + 15) = true then .ok True (.isTrue trivial) ⟨lv (.ptr (backs new ps).2.2 0), (backs new ps).2.1 ++ [((backs new ps).2.2, .box (backs new ps).1)]⟩ else .no
  | none => .no
def plainLeaf : Leaf → Bool
  | .any | .nils => false
  | _ => true
def cBox (new : Nat) (x : AV) : Step :=
  match isReg x with
  | some (true, ls) => if ls.all plainLeaf then .ok True (.isTrue trivial) ⟨lv (.ptr new 0), [(new, .box ls)]⟩ else .no
  | some (false, [l]) => if plainLeaf l then .ok True (.isTrue trivial) ⟨lv (.ptr new 0), [(new, .box [l])]⟩ else .no
  | _ => .no
def cLoad (Δ : Tys) (μ : Mu) (T : TypeId) (x : AV) : Step :=
  match x with
  | .val (false, [.ptr id off]) => match μ id with
    | some (.box ls) => match cut Δ T off ls with
      | some r => pureS (.val r)
      | none => .no
    | _ => .no
  | .val (false, [.dpt x off]) => match cut Δ T off ((parts x.t x.d).map .dat) with
    | some r => pureS (.val r)
    | none => .no
  | .val (false, [.elt id sz i off]) => match μ id with
    | some (.rows _ t xs _) => if t.size = sz then (match cut Δ T off ((parts t (xs.getD i.toNat t.dflt)).map .dat) with
      | some r => chk (i < xs.length) (.val r)
      | none => .no) else .no
    | _ => .no
  | _ => .no
def regLeaves : Reg → Option (List Leaf)
  | (true, ls) => some ls
  | (false, [l]) => some [l]
  | _ => none
def splice (ls : List Leaf) (off : Nat) (vs : List Leaf) : List Leaf := ls.take off ++ vs ++ ls.drop (off + vs.length)
/-- An element's parts with others in their place. -/
def spliceD (l : List D) (off : Nat) (vs : List D) : List D := l.take off ++ vs ++ l.drop (off + vs.length)
/-- A store into an element of a row of one's own. -/
def cStoreElt (Δ : Tys) (μ : Mu) (T : TypeId) (id sz : Nat) (i : Int) (off : Nat) (v : AV) : Step :=
  match v, Δ.get T with
  | .val r, some ti => match regD Δ μ T r, μ id with
    | some (ds, fz), some (.rows e t xs false) => match joinUp t (spliceD (parts t (xs.getD i.toNat t.dflt)) off ds) with
      | some (y, []) => if t.size = sz ∧ 0 < sz ∧ ds.length = ti.size ∧ off + ds.length ≤ sz ∧ fz.all (fun p => p.1 != id) = true then .ok (i < xs.length) inferInstance ⟨.any, fz ++ [(id, .rows e t (xs.set i.toNat y) false)]⟩ else .no
      | _ => .no
    | _, _ => .no
  | _, _ => .no
/-- The leaves of a struct's or an array's part. -/
def partLeaves (Δ : Tys) (T : TypeId) (v : AV) : Option (List Leaf) :=
  match v with
  | .val (false, [.nils]) => match (Δ.get T).bind (·.ty) with
    | some (.slice t) => some [.dat ⟨.slice t, []⟩]
    | _ => none
  | v => (isReg v).bind regLeaves
def cStoreBox (Δ : Tys) (μ : Mu) (T : TypeId) (x v : AV) : Step :=
  match x, partLeaves Δ T v, Δ.get T with
  | .val (false, [.ptr id off]), some vs, some i => match μ id with
    | some (.box ls) => if vs.length = i.size ∧ off + vs.length ≤ ls.length ∧ vs.all plainLeaf = true then .ok True (.isTrue trivial) ⟨.any, [(id, .box (splice ls off vs))]⟩ else .no
    | _ => .no
  | _, _, _ => .no
def cStore (Δ : Tys) (μ : Mu) (T : TypeId) (x v : AV) : Step :=
  match x with
  | .val (false, [.elt id sz i off]) => cStoreElt Δ μ T id sz i off v
  | x => cStoreBox Δ μ T x v
def cNil (x : AV) : Step :=
  match x with
  | .val (false, [.ptr id off]) => pureS (lv (.ptr id off))
  | .val (false, [.dpt x off]) => pureS (lv (.dpt x off))
  | .val (false, [.elt id sz i off]) => pureS (lv (.elt id sz i off))
  | _ => .no
def fieldOf (Δ : Tys) (S : TypeId) (j : Nat) : Option (Nat × TypeId) :=
  match Δ.get S with
  | some ⟨.struct fs, _, _, _⟩ => fs[j]?
  | _ => none
def cFieldAddr (Δ : Tys) (S : TypeId) (x : AV) (j : Nat) : Step :=
  match fieldOf Δ S j with
  | some (o, T) => match Δ.get T with
    | some i => if i.size = 0 then .no else match x with
      | .val (false, [.ptr id off]) => pureS (lv (.ptr id (off + o)))
      | .val (false, [.dpt x off]) => pureS (lv (.dpt x (off + o)))
      | .val (false, [.elt id sz i off]) => pureS (lv (.elt id sz i (off + o)))
      | _ => .no
    | none => .no
  | none => .no
def cField (Δ : Tys) (S : TypeId) (x : AV) (j : Nat) : Step :=
  match fieldOf Δ S j, isReg x with
  | some (o, T), some (true, ls) => match cut Δ T o ls with
    | some r => pureS (.val r)
    | none => .no
  | _, _ => .no
def cIndexAddr (Δ : Tys) (μ : Mu) (T : TypeId) (x j : AV) : Step :=
  match Δ.get T, x, isInt j with
  | some ⟨.slice e, _, _, _⟩, .val (false, [l]), some (_, i) => match l, sliceOf μ l, Δ.get e with
    | .dat _, some ⟨.slice t, xs⟩, some ei => if ei.size = t.size then chk (0 ≤ i ∧ i < xs.length) (lv (.dpt ⟨t, xs.getD i.toNat t.dflt⟩ 0)) else .no
    | .own id, some ⟨.slice t, xs⟩, some ei => if ei.size = t.size then chk (0 ≤ i ∧ i < xs.length) (lv (.elt id t.size i 0)) else .no
    | .sub id sz lo _ _, some ⟨.slice t, xs⟩, some ei => if ei.size = t.size ∧ t.size = sz then chk (0 ≤ i ∧ i < xs.length) (lv (.elt id sz (lo + i) 0)) else .no
    | _, _, _ => .no
  | some ⟨.array n e, _, _, _⟩, .val (false, [.ptr id off]), some (_, i) => match Δ.get e with
    | some ei => if (decide (0 ≤ i) && Nat.blt i.toNat n) = true then pureS (lv (.ptr id (off + i.toNat * ei.size))) else .no
    | none => .no
  | _, _, _ => .no
def cIndex (x j : AV) : Step :=
  match isStr x, isInt j with
  | some s, some (_, i) => chk (0 ≤ i ∧ i < s.size) (iv .u8 ((s.data.getD i.toNat 0).toNat))
  | _, _ => .no
def cBound (q : Option AV) (d : Int) : Option Int :=
  match q with
  | none => some d
  | some v => (isInt v).map (·.2)
def cSlice (Δ : Tys) (μ : Mu) (T : TypeId) (x : AV) (lo hi mx : Option AV) : Step :=
  match mx with
  | some m => match Δ.get T, x with
    | some ⟨.slice e, _, _, _⟩, .val (false, [l]) => match leafD Δ μ 0 l, Δ.get e with
      | some (⟨.slice t, xs⟩, fz), some ei => match cBound lo 0, hi.bind isInt, isInt m with
        | some l, some (_, h), some (_, m) => if ei.size = t.size then .ok (0 ≤ l ∧ l ≤ h ∧ h = m ∧ h ≤ xs.length) inferInstance ⟨lv (.cl ⟨.slice t, (xs.take h.toNat).drop l.toNat⟩), fz⟩ else .no
        | _, _, _ => .no
      | _, _ => .no
    | _, _ => .no
  | none => match Δ.get T, x with
    | some ⟨.slice e, _, _, _⟩, .val (false, [l]) => match leafD Δ μ 0 l, Δ.get e with
      | some (⟨.slice t, xs⟩, fz), some ei => match cBound lo 0, cBound hi xs.length with
        | some l, some h => if ei.size = t.size then .ok (0 ≤ l ∧ l ≤ h ∧ h ≤ xs.length) inferInstance ⟨lv (.dat ⟨.slice t, (xs.take h.toNat).drop l.toNat⟩), fz⟩ else .no
        | _, _ => .no
      | _, _ => .no
    | some ⟨.str, _, _, _⟩, x => match isStr x with
      | some s => match cBound lo 0, cBound hi s.size with
        | some l, some h => chk (0 ≤ l ∧ l ≤ h ∧ h ≤ s.size) (sv (s.extract l.toNat h.toNat))
        | _, _ => .no
      | none => .no
    | _, _ => .no
/-- A part of a row of one's own, which stays one's own. -/
def cSliceOwn (Δ : Tys) (μ : Mu) (T : TypeId) (id : Nat) (lo hi : Option AV) : Step :=
  match Δ.get T, μ id with
  | some ⟨.slice e, _, _, _⟩, some (.rows _ t xs false) => match cBound lo 0, cBound hi xs.length, Δ.get e with
    | some l, some h, some ei => if ei.size = t.size then chk (0 ≤ l ∧ l ≤ h ∧ h ≤ xs.length) (lv (.sub id t.size l h lo.isNone)) else .no
    | _, _, _ => .no
  | _, _ => .no
def cSliceSub (Δ : Tys) (T : TypeId) (id sz : Nat) (l0 h0 : Int) (pre : Bool) (lo hi : Option AV) : Step :=
  match Δ.get T with
  | some ⟨.slice e, _, _, _⟩ => match cBound lo 0, cBound hi (h0 - l0), Δ.get e with
    | some l, some h, some ei => if ei.size = sz then chk (0 ≤ l ∧ l ≤ h ∧ h ≤ h0 - l0) (lv (.sub id sz (l0 + l) (l0 + h) (pre && lo.isNone))) else .no
    | _, _, _ => .no
  | _ => .no
def isOwnRow (μ : Mu) (id : Nat) : Bool := match μ id with
  | some (.rows _ _ _ false) => true
  | _ => false
def cSliceAny (Δ : Tys) (μ : Mu) (T : TypeId) (x : AV) (lo hi mx : Option AV) : Step :=
  match mx with
  | some m => cSlice Δ μ T x lo hi (some m)
  | none => match x with
    | .val (false, [.own id]) => if isOwnRow μ id = true then cSliceOwn Δ μ T id lo hi else cSlice Δ μ T x lo hi none
    | .val (false, [.sub id sz l0 h0 pre]) => cSliceSub Δ T id sz l0 h0 pre lo hi
    | x => cSlice Δ μ T x lo hi none
/-- clear of a part of a row of one's own. -/
def cClear (Δ : Tys) (μ : Mu) (T : TypeId) (x : AV) : Step :=
  match Δ.get T, x with
  | some ⟨.slice e, _, _, _⟩, .val (false, [.sub id sz lo hi _]) => match μ id, Δ.get e with
    | some (.rows e' t xs false), some ei => if e' = e ∧ ei.size = t.size ∧ ei.ty = some t ∧ t.size = sz ∧ 0 < sz then
        .ok True (.isTrue trivial) ⟨.tup [], [(id, .rows e' t (xs.take lo.toNat ++ List.replicate (hi.toNat - lo.toNat) t.dflt ++ xs.drop hi.toNat) false)]⟩ else .no
    | _, _ => .no
  | _, _ => .no
def cLen (Δ : Tys) (μ : Mu) (T : TypeId) (x : AV) : Step :=
  match Δ.get T, x with
  | some ⟨.str, _, _, _⟩, x => match isStr x with
    | some s => pureS (iv .i64 s.size)
    | none => .no
  | some ⟨.slice _, _, _, _⟩, .val (false, [l]) => match sliceOf μ l with
    | some ⟨.slice _, xs⟩ => pureS (iv .i64 xs.length)
    | _ => .no
  | _, _ => .no
def minK (a b : Int) : Int := if b < a then b else a
def maxK (a b : Int) : Int := if a < b then b else a
def cMinMax (f : Int → Int → Int) : List AV → Step
  | [x, y] => match isInt x, isInt y with
    | some (k, a), some (_, b) => pureS (iv k (f a b))
    | _, _ => .no
  | [x, y, z] => match isInt x, isInt y, isInt z with
    | some (k, a), some (_, b), some (_, c) => pureS (iv k (f (f a b) c))
    | _, _, _ => .no
  | _ => .no
def notOwn (id : Nat) : Leaf → Bool
  | .own id' => id' != id
  | .sub id' _ _ _ _ => id' != id
  | _ => true
def cAppend (Δ : Tys) (μ : Mu) (new : Nat) (T : TypeId) (x y : AV) : Step :=
  match x, y, Δ.get T with
  | .val (false, [.own id]), .val (false, [l]), some ⟨.slice e, _, _, _⟩ => match μ id, sliceOf μ l, Δ.get e with
    | some (.rows e' t xs false), some ⟨.slice t', ys⟩, some ei =>
      if h : t' = t then
        if e' = e ∧ ei.size = t.size ∧ 0 < t.size ∧ ei.ty.isSome = true ∧ notOwn id l = true then
          .ok ((xs.length + ys.length) * ei.bytes ≤ 140737488355328 ∧ xs.length + ys.length ≤ 9223372036854775807) inferInstance ⟨lv (.own new), [(id, .gone), (new, .rows e t (xs ++ (h ▸ ys)) false)]⟩
        else .no
      else .no
    | _, _, _ => .no
  | _, _, _ => .no
def bytesOfStr (s : ByteArray) : List Int := s.data.toList.map fun b => (b.toNat : Int)
def strOfBytes (xs : List Int) : ByteArray := ⟨(xs.map fun n => UInt8.ofNat n.toNat).toArray⟩
/-- append to a slice without room: a new row, that is only read from then on. -/
def cAppendCl (Δ : Tys) (μ : Mu) (T : TypeId) (x y : AV) : Step :=
  match x, y, Δ.get T with
  | .val (false, [.cl ⟨.slice t, xs⟩]), .val (false, [l]), some ⟨.slice e, _, _, _⟩ => match sliceOf μ l, Δ.get e with
    | some ⟨.slice t', ys⟩, some ei =>
      if h : t' = t then
        if ei.size = t.size ∧ 0 < t.size ∧ ei.ty.isSome = true then
          .ok ((xs.length + ys.length) * ei.bytes ≤ 140737488355328 ∧ xs.length + ys.length ≤ 9223372036854775807) inferInstance ⟨lv (.dat ⟨.slice t, xs ++ (h ▸ ys)⟩), []⟩
        else .no
      else .no
    | _, _ => .no
  | _, _, _ => .no
/-- append of a string's bytes. -/
def cAppendStr (Δ : Tys) (μ : Mu) (new : Nat) (T U : TypeId) (x y : AV) : Step :=
  match x, isStr y, Δ.get T, kindOf Δ U with
  | .val (false, [.own id]), some s, some ⟨.slice e, _, _, _⟩, some .str => match μ id, Δ.get e with
    | some (.rows e' (.int .u8) xs false), some ⟨.int .u8, 1, 1, some (.int .u8)⟩ =>
      if e' = e then .ok (xs.length + s.size ≤ 140737488355328) inferInstance ⟨lv (.own new), [(id, .gone), (new, .rows e (.int .u8) (xs ++ bytesOfStr s) false)]⟩ else .no
    | _, _ => .no
  | _, _, _, _ => .no
/-- string(bytes) -/
def cToStr (Δ : Tys) (μ : Mu) (s : TypeId) (x : AV) : Step :=
  match Δ.get s, x with
  | some ⟨.slice e, _, _, _⟩, .val (false, [l]) => match kindOf Δ e, sliceOf μ l with
    | some (.int .u8), some ⟨.slice (.int .u8), xs⟩ => pureS (sv (strOfBytes xs))
    | _, _ => .no
  | _, _ => .no
/-- []byte(string): a new row, that is only read from then on. -/
def cToBytes (Δ : Tys) (s e : TypeId) (x : AV) : Step :=
  match kindOf Δ s, isStr x, kindOf Δ e with
  | some .str, some b, some (.int .u8) => chk (b.size ≤ 9223372036854775807) (lv (.dat ⟨.slice (.int .u8), bytesOfStr b⟩))
  | _, _, _ => .no
def isNilsV : AV → Bool
  | .val (false, [.nils]) => true
  | _ => false
/-- '==' and '!=' of a slice and nil. -/
def cBinNil (Δ : Tys) (op : BinOp) (T : TypeId) (x : AV) : Step :=
  match kindOf Δ T, x with
  | some (.slice _), .val (false, [.kn _ b]) => match op with
    | .eql => pureS (bv b)
    | .neq => pureS (bv (!b))
    | _ => .no
  | some (.slice _), .val (false, [.dat ⟨.slice _, xs⟩]) => match op with
    | .eql => chk (0 < xs.length) (bv false)
    | .neq => chk (0 < xs.length) (bv true)
    | _ => .no
  | _, _ => .no
def isCl : AV → Bool
  | .val (false, [.cl _]) => true
  | _ => false
/-- []byte("..") of a constant: the row is marked, and only read from then on. -/
def cMark (Δ : Tys) (μ : Mu) (s t : TypeId) (x : AV) : Step :=
  match kindOf Δ t, x with
  | some (.slice e), .val (false, [.own id]) => match kindOf Δ e, μ id with
    | some (.int .u8), some (.rows _ (.int .u8) xs false) => if s = t ∧ 0 < xs.length then .ok True (.isTrue trivial) ⟨lv (.dat ⟨.slice (.int .u8), xs⟩), [(id, .gone)]⟩ else .no
    | _, _ => .no
  | _, _ => .no
def cConvAny (Δ : Tys) (μ : Mu) (s t : TypeId) (x : AV) : Step :=
  match kindOf Δ t with
  | some .str => cToStr Δ μ s x
  | some (.slice e) => match isStr x with
    | some _ => cToBytes Δ s e x
    | none => cMark Δ μ s t x
  | _ => if (Δ.get s).isSome = true then cConv Δ t x else .no
def cAppendAny (Δ : Tys) (μ : Mu) (new : Nat) (T U : TypeId) (x y : AV) : Step :=
  if T = U then (if isCl x = true then cAppendCl Δ μ T x y else cAppend Δ μ new T x y) else cAppendStr Δ μ new T U x y
/-- What variables hold, as data. -/
def boxesD (Δ : Tys) (μ : Mu) : List Nat → Option (List (List Part) × Mem)
  | [] => some ([], [])
  | id :: ids => match μ id with
    | some (.box ls) => (leafDs Δ μ ls).bind fun p => (boxesD Δ μ ids).map fun q => ((p.1.map fun x => (none, x)) :: q.1, p.2 ++ q.2)
    | _ => none
def toArg (Δ : Tys) (μ : Mu) (ty : TypeId) : AV → Option (Arg × Mem × List Nat)
  | .val (false, [.ptr id 0]) => match μ id with
    | some (.box ls) => (leafDs Δ μ ls).map fun p => (.box (p.1.map fun x => (none, x)), p.2, [id])
    | _ => none
  | .val (false, [.fn f caps]) => (boxesD Δ μ caps).map fun p => (.fn f p.1, p.2, caps)
  | .val r => (regD Δ μ ty r).map fun p => (.val (r.1, p.1.map fun x => (none, x)), p.2, [])
  | _ => none
def toArgs (Δ : Tys) (μ : Mu) : List (AV × TypeId) → Option (List Arg × Mem × List Nat)
  | [] => some ([], [], [])
  | x :: l => (toArg Δ μ x.2 x.1).bind fun p => (toArgs Δ μ l).bind fun q => some (p.1 :: q.1, p.2.1 ++ q.2.1, p.2.2 ++ q.2.2)
/-- What a part of a register is when rows of one's own are handed over. -/
def handOf (Δ : Tys) (μ : Mu) (ty : TypeId) : Leaf → Option (Part × List Nat)
  | .own id => match μ id with
    | some (.rows e t xs false) => some ((some e, ⟨.slice t, xs⟩), [id])
    | some (.rows _ t xs true) => some ((none, ⟨.slice t, xs⟩), [])
    | _ => none
  | l => match leafD Δ μ ty l with
    | some (x, []) => some ((none, x), [])
    | _ => none
def handsOf (Δ : Tys) (μ : Mu) : List Leaf → Option (List Part × List Nat)
  | [] => some ([], [])
  | l :: ls => (handOf Δ μ 0 l).bind fun p => (handsOf Δ μ ls).bind fun q => some (p.1 :: q.1, p.2 ++ q.2)
def boxesO (Δ : Tys) (μ : Mu) : List Nat → Option (List (List Part) × List Nat)
  | [] => some ([], [])
  | id :: ids => match μ id with
    | some (.box ls) => (handsOf Δ μ ls).bind fun p => (boxesO Δ μ ids).map fun q => (p.1 :: q.1, p.2 ++ q.2)
    | _ => none
/-- (the argument; the variables whose addresses are handed in; the rows that are handed over) -/
def toArgO (Δ : Tys) (μ : Mu) (ty : TypeId) : AV → Option (Arg × List Nat × List Nat)
  | .val (false, [.ptr id 0]) => match μ id with
    | some (.box ls) => (handsOf Δ μ ls).map fun p => (.box p.1, [id], p.2)
    | _ => none
  | .val (false, [.fn f caps]) => (boxesO Δ μ caps).map fun p => (.fn f p.1, caps, p.2)
  | .val (false, [l]) => (handOf Δ μ ty l).map fun p => (.val (false, [p.1]), [], p.2)
  | .val (true, ls) => (handsOf Δ μ ls).map fun p => (.val (true, p.1), [], p.2)
  | _ => none
def toArgsO (Δ : Tys) (μ : Mu) : List (AV × TypeId) → Option (List Arg × List Nat × List Nat)
  | [] => some ([], [], [])
  | x :: l => (toArgO Δ μ x.2 x.1).bind fun p => (toArgsO Δ μ l).bind fun q => some (p.1 :: q.1, p.2.1 ++ q.2.1, p.2.2 ++ q.2.2)
def placeOf (Δ : Tys) (T : TypeId) (i : Nat) : Option (Nat × Nat × TypeId) :=
  match Δ.get T with
  | some ⟨.struct fs, _, _, _⟩ => (fs[i]?).bind fun f => (Δ.get f.2).map fun j => (f.1, j.size, f.2)
  | some ⟨.array _ e, _, _, _⟩ => (Δ.get e).map fun j => (i * j.size, j.size, e)
  | _ => none
def fillA (Δ : Tys) (T : TypeId) : List Leaf → List (Nat × AV) → Option (List Leaf)
  | ls, [] => some ls
  | ls, (i, v) :: rest => match placeOf Δ T i with
    | some (off, size, T') => match partLeaves Δ T' v with
      | some vs => if vs.length = size ∧ off + vs.length ≤ ls.length ∧ vs.all plainLeaf = true then fillA Δ T (splice ls off vs) rest else none
      | none => none
    | none => none
def fieldsOk (Δ : Tys) (T : TypeId) : Bool :=
  match Δ.get T with
  | some ⟨.struct fs, _, _, _⟩ => fs.all fun f => (Δ.get f.2).isSome
  | some ⟨.array _ e, _, _, _⟩ => (Δ.get e).isSome
  | _ => false
def cBuild (Δ : Tys) (new : Nat) (T : TypeId) (ps : List (Nat × AV)) : Step :=
  if fieldsOk Δ T = true then match zeroParts Δ T with
    | some zs => match fillA Δ T (backs new zs).1 ps with
      | some ls' => if Nat.ble (backs new zs).2.2 (new + 15) = true then .ok True (.isTrue trivial) ⟨.val (true, ls'), (backs new zs).2.1⟩ else .no
      | none => .no
    | none => .no
  else .no
def elemsOf (t : Ty) : List Arg → Option (List t.den)
  | [] => some []
  | .val r :: as => (joinUp t (r.2.map (·.2))).bind fun p => match p.2 with | [] => (elemsOf t as).map fun l => p.1 :: l | _ => none
  | .box _ :: _ => none
  | .fn _ _ :: _ => none
def idxOk : Nat → List (Nat × AV) → Bool
  | _, [] => true
  | n, p :: l => Nat.beq p.1 n && idxOk (n + 1) l
def cBuildSlice (Δ : Tys) (μ : Mu) (new : Nat) (T : TypeId) (n : Nat) (ps : List (Nat × AV)) : Step :=
  match Δ.get T with
  | some ⟨.slice e, _, _, _⟩ => match (Δ.get e).bind (·.ty), Δ.get e with
    | some t, some ei => if idxOk 0 ps = true ∧ ps.length = n ∧ ei.size = t.size ∧ 0 < t.size ∧ n * t.size ≤ 16777216 then
        match toArgs Δ μ (ps.map fun p => (p.2, e)) with
        | some (as, fz, _) => match elemsOf t as with
          | some xs => .ok True (.isTrue trivial) ⟨lv (.own new), fz ++ [(new, .rows e t xs false)]⟩
          | none => .no
        | none => .no
      else .no
    | _, _ => .no
  | _ => .no
def cMakeSlice (Δ : Tys) (new : Nat) (T : TypeId) (x y : AV) : Step :=
  match Δ.get T, isInt x, isInt y with
  | some ⟨.slice e, _, _, _⟩, some (_, a), some (_, b) => match (Δ.get e).bind (·.ty), Δ.get e with
    | some t, some ei => if ei.size = t.size ∧ 0 < t.size then
        .ok (0 ≤ a ∧ a ≤ b ∧ ei.bytes * b ≤ 281474976710656 ∧ b ≤ 9223372036854775807) inferInstance ⟨lv (.own new), [(new, .rows e t (List.replicate a.toNat t.dflt) false)]⟩
      else .no
    | _, _ => .no
  | _, _, _ => .no
def backT : Nat → List RV → List Reg × Mem × Nat
  | n, [] => ([], [], n)
  | n, (a, l) :: rest => let r := backs n l; let q := backT r.2.2 rest; ((a, r.1) :: q.1, r.2.1 ++ q.2.1, q.2.2)
def backBoxes : Nat → List Nat → List (List Part) → Option (Mem × Nat)
  | n, [], [] => some ([], n)
  | n, id :: ids, l :: ls => let r := backs n l; (backBoxes r.2.2 ids ls).map fun q => (r.2.1 ++ ((id, .box r.1) :: q.1), q.2)
  | _, _, _ => none
def nodupB : List Nat → Bool
  | [] => true
  | x :: l => !l.contains x && nodupB l
def backOut (n : Nat) : Out → AV × Mem × Nat
  | .val (a, l) => let b := backs n l; (.val (a, b.1), b.2.1, b.2.2)
  | .tup l => let b := backT n l; (.tup b.1, b.2.1, b.2.2)
  | .ptr l => (lv (.ptr n 0), [(n, .box (l.map .dat))], n + 1)
/-- A variable that a contract tells as [] is what it was. -/
def zipFull : List (List Part) → List (List Part) → List (List Part)
  | l :: ls, [] :: bs => l :: zipFull ls bs
  | _ :: ls, (p :: b) :: bs => (p :: b) :: zipFull ls bs
  | _, bs => bs
def boxesIn : List Arg → List (List Part)
  | [] => []
  | .val _ :: as => boxesIn as
  | .box l :: as => l :: boxesIn as
  | .fn _ ls :: as => ls ++ boxesIn as
def fullB (as : List Arg) (bs : List (List Part)) : List (List Part) := zipFull (boxesIn as) bs
def Res.full (r : Res) (as : List Arg) : Res := ⟨r.out, fullB as r.boxes⟩
def isDat : Leaf → Bool
  | .dat _ => true
  | _ => false
def datBox (μ : Mu) (id : Nat) : Bool := match μ id with
  | some (.box ls) => ls.all isDat
  | _ => false
def keptB (μ : Mu) : List Nat → List (List Part) → List Nat
  | id :: ids, [] :: bs => if datBox μ id = true then id :: keptB μ ids bs else keptB μ ids bs
  | _ :: ids, (_ :: _) :: bs => keptB μ ids bs
  | _, _ => []
def dropB (ks : List Nat) : Mem → Mem
  | [] => []
  | p :: l => if ks.contains p.1 = true then dropB ks l else p :: dropB ks l
/-- Has a datum no memory? -/
def scalT : Ty → Bool
  | .pair a b => scalT a && scalT b
  | .slice _ => false
  | _ => true
def scalP : Part → Bool
  | (none, x) => scalT x.t
  | _ => false
def scalOut : Out → Bool
  | .val r => r.2.all scalP
  | .tup l => l.all fun r => r.2.all scalP
  | .ptr _ => false
def scalRes (r : Res) : Bool := scalOut r.out && r.boxes.all fun l => l.all scalP
def cBack (μ : Mu) (new : Nat) (ids : List Nat) (as : List Arg) (c : Prop) (dc : Decidable c) (r : Res) (fz : Mem) : Step :=
  match backBoxes (backOut new r.out).2.2 ids (fullB as r.boxes) with
  | some q => if Nat.ble q.2 (new + 16) = true then .ok c dc ⟨(backOut new r.out).1, fz ++ ((backOut new r.out).2.1 ++ dropB (keptB μ ids r.boxes) q.1)⟩ else .no
  | none => .no
/-- A call whose arguments are data; where nothing of what comes back has memory, rows stay the caller's own. -/
def cCallD (Δ : Tys) (G : Spec) (μ : Mu) (new : Nat) (args : List (AV × TypeId)) : Step :=
  match toArgs Δ μ args with
  | some (as_, fz, ids) => if nodupB ids = true then (match G as_ with
      | .yes c dc r => cBack μ new ids as_ c dc r (if scalRes (r.full as_) = true then [] else fz)
      | .no => .no)
    else .no
  | none => .no
/-- A call that rows of one's own are handed over to. -/
def cCallO (Δ : Tys) (G : Spec) (μ : Mu) (new : Nat) (args : List (AV × TypeId)) : Step :=
  match toArgsO Δ μ args with
  | some (as_, ids, rids) => if nodupB ids = true ∧ nodupB rids = true then (match G as_ with
      | .yes c dc r => cBack μ new ids as_ c dc r (rids.map fun id => (id, .gone))
      | .no => .no)
    else .no
  | none => .no
def cCall (Δ : Tys) (G : Spec) (μ : Mu) (new : Nat) (args : List (AV × TypeId)) : Step :=
  match cCallD Δ G μ new args with
  | .no => cCallO Δ G μ new args
  | s => s

def capIds : List AV → Option (List Nat)
  | [] => some []
  | .val (false, [.ptr id 0]) :: l => (capIds l).map fun r => id :: r
  | _ => none
def cMakeFunc (f : FuncId) (cs : List AV) : Step :=
  match capIds cs with
  | some ids => pureS (lv (.fn f ids))
  | none => .no
/-- What a function captured are variables that are looked at. -/
def capsOk (μ : Mu) (caps : List Nat) : Bool := caps.all fun id => match μ id with
  | some (.box _) => true
  | _ => false
abbrev Env := FuncId → Option Spec
def comp (Δ : Tys) (Γ : Env) (new : Nat) (o : Oper) (ρ : Operand → AV) (μ : Mu) : Step :=
  match o.op with
  | .move x | .assign x => cMoveAny Δ μ new o.type (ρ x)
  | .pick c a b => match isBool (ρ c) with
    | some t => .br t ⟨ρ a, []⟩ ⟨ρ b, []⟩
    | none => .no
  | .binOp op T x y _ => if isNilsV (ρ y) = true then cBinNil Δ op T (ρ x) else cBin Δ op T (ρ x) (ρ y)
  | .unOp op _ x => cUn op (ρ x)
  | .convert s t x => cConvAny Δ μ s t (ρ x)
  | .extract x j => cExtract (ρ x) j
  | .alloc T => cAlloc Δ new T
  | .box _ x => cBox new (ρ x)
  | .load T x => cLoad Δ μ T (ρ x)
  | .store T x v => cStore Δ μ T (ρ x) (ρ v)
  | .nilCheck x => cNil (ρ x)
  | .fieldAddr S x j => cFieldAddr Δ S (ρ x) j
  | .field S x j => cField Δ S (ρ x) j
  | .indexAddr T x j => cIndexAddr Δ μ T (ρ x) (ρ j)
  | .makeFunc fn first captured => match fn, first.toList with
    | .func f, [] => cMakeFunc f (captured.toList.map ρ)
    | _, _ => .no
  | .index T x j => match kindOf Δ T with
    | some .str => cIndex (ρ x) (ρ j)
    | _ => .no
  | .build T ps => cBuild Δ new T (ps.toList.map fun p => (p.1, ρ p.2))
  | .buildSlice T n ps => cBuildSlice Δ μ new T n (ps.toList.map fun p => (p.1, ρ p.2))
  | .makeSlice T x y => cMakeSlice Δ new T (ρ x) (ρ y)
  | .slice T x lo hi mx => cSliceAny Δ μ T (ρ x) (lo.map ρ) (hi.map ρ) (mx.map ρ)
  | .call c => match c.callee with
    | .builtin .len => match c.args.toList, c.argTypes.toList with
      | [x], [T] => cLen Δ μ T (ρ x)
      | _, _ => .no
    | .builtin .min => cMinMax minK (c.args.toList.map ρ)
    | .builtin .max => cMinMax maxK (c.args.toList.map ρ)
    | .builtin .clear => match c.args.toList, c.argTypes.toList with
      | [x], [T] => cClear Δ μ T (ρ x)
      | _, _ => .no
    | .builtin .append => match c.args.toList, c.argTypes.toList with
      | [x, y], [T, U] => cAppendAny Δ μ new T U (ρ x) (ρ y)
      | _, _ => .no
    | .value f => match ρ f with
      | .val (false, [.fn f caps]) => match Γ f with
        | some G => if c.args.toList.length = c.argTypes.toList.length ∧ capsOk μ caps = true then cCall Δ G μ new ((c.args.toList.map ρ).zip c.argTypes.toList ++ caps.map fun id => (lv (.ptr id 0), 0)) else .no
        | none => .no
      | _ => .no
    | _ => .no
  | _ => .no

/-! ### code -/
abbrev K := Exit → AS → Option Res
def putM (m : Mem) (wr : Mem) : Mem := wr.foldl (fun m p => m.put p.1 p.2) m
def putT (tm : List AV) (d : Option Tmp) (v : AV) : List AV := match d with | some t => tm.set t v | none => tm
def putA (φ : AS) (d : Option Tmp) (e : Eff) : AS := ⟨putT φ.tm d e.v, putM φ.mem e.wr⟩
def Mem.top (m : Mem) : Nat := m.foldl (fun a p => max a (p.1 + 1)) 0
def leafIds : Leaf → List Nat
  | .own id | .ptr id _ | .elt id _ _ _ | .sub id _ _ _ _ => [id]
  | .fn _ caps => caps
  | _ => []
def regIds (r : Reg) : List Nat := r.2.flatMap leafIds
def avIds : AV → List Nat
  | .val r => regIds r
  | .tup l => l.flatMap regIds
  | _ => []
/-- The chunks that an operation may look at. -/
def reachIds (μ : Mu) (ids : List Nat) : List Nat := ids ++ ids.flatMap fun id => match μ id with | some (.box ls) => ls.flatMap leafIds | _ => []
def opIds (o : Oper) (ρ : Operand → AV) : List Nat := o.op.operands.toList.flatMap fun x => avIds (ρ x)
/-- (the move of an address looks at nothing) -/
def lookIds (μ : Mu) (o : Oper) (ρ : Operand → AV) : List Nat := match o.op with
  | .move x => (match ρ x with
    | .val (false, [.ptr _ _]) => []
    | _ => reachIds μ (opIds o ρ))
  | _ => reachIds μ (opIds o ρ)
/-- What an operation did: its value and its writes; the chunks that it looked at. -/
structure Rec where
  e : Eff
  ids : List Nat
def wrOk (n : Nat) (wr : Mem) : Bool := wr.all fun p => Nat.blt p.1 n
def guardAt (ops : Array Oper) (tm : List AV) (j : Nat) : Option (Tmp × Bool) :=
  match (ops[j]?).bind (·.dst) with
  | some t => (isBool (tm.getD t .any)).map fun b => (t, b)
  | none => none
/-- Was the guard left out itself? -/
def guardUndef (ops : Array Oper) (tm : List AV) (j : Nat) : Bool :=
  match (ops[j]?).bind (·.dst) with
  | some t => match tm.getD t .any with
    | .undef => true
    | _ => false
  | none => false
def runOps (Δ : Tys) (Γ : Env) (ops : Array Oper) (base : Nat) : Nat → List Oper → AS → List Rec → (AS → List Rec → Option Res) → Option Res
  | _, [], φ, recs, k => k φ recs
  | i, o :: rest, φ, recs, k =>
    let next (φ : AS) (e : Eff) : Option Res := if wrOk (base + 16 * (i + 1)) e.wr = true then runOps Δ Γ ops base (i + 1) rest (putA φ o.dst e) (recs ++ [⟨e, lookIds φ.mem.get o (evalA φ.tm)⟩]) k else none
    let go (φ : AS) : Option Res := match comp Δ Γ (base + 16 * i) o (evalA φ.tm) φ.mem.get with
      | .no => none
      | .ok c dc e => @ite _ c dc (next φ e) none
      | .br t x y => if t = true then next φ x else next φ y
    match o.guard with
    | none => go φ
    | some (j, want) => match guardAt ops φ.tm j with
      | some (t, b) => if b = want then go ⟨φ.tm.set t (bv want), φ.mem⟩ else next ⟨φ.tm.set t (bv (!want)), φ.mem⟩ ⟨.undef, []⟩
      | none => if guardUndef ops φ.tm j = true then next φ ⟨.undef, []⟩ else none

/-! #### the look at a region that draws its order -/
/-- All that must have come up before operation i, of the edges that always bind. -/
def directs (o : Oper) : List Nat := (o.after.toList.filter fun e => Region.binds .any e).map (·.on)
def orAll (f : Nat → Nat) : List Nat → Nat
  | [] => 0
  | j :: l => Nat.lor (Nat.lor (Nat.shiftLeft 1 j) (f j)) (orAll f l)
/-- Who comes before whom, as bits. -/
def ancs : List Oper → List Nat → List Nat
  | [], acc => acc
  | o :: rest, acc => ancs rest (acc ++ [orAll (fun j => acc.getD j 0) (directs o)])
def hasA (an : List Nat) (i j : Nat) : Bool := Nat.testBit (an.getD i 0) j
def touchT (ops : Array Oper) (o : Oper) : List Tmp := o.dst.toList ++ o.looksAt ops
def touchM (r : Rec) : List Nat := r.ids ++ r.e.wr.map (·.1)
def apartT (ops : Array Oper) (x y : Oper) : Bool := match x.dst with | some d => !(touchT ops y).contains d | none => true
def apartM (x y : Rec) : Bool := x.e.wr.all fun p => !(touchM y).contains p.1
def okPair (ops : Array Oper) (an : List Nat) (recs : List Rec) (i j : Nat) : Bool :=
  hasA an i j ||
  match ops[i]?, ops[j]?, recs[i]?, recs[j]? with
  | some oi, some oj, some ri, some rj => apartT ops oi oj && apartT ops oj oi && apartM ri rj && apartM rj ri
  | _, _, _, _ => false
def okFresh (base : Nat) (an : List Nat) (recs : List Rec) (j : Nat) : Bool :=
  match recs[j]? with
  | some r => r.e.wr.all fun p => Nat.blt p.1 base || Nat.beq ((p.1 - base) / 16) j || hasA an j ((p.1 - base) / 16)
  | none => false
def okOne (ops : Array Oper) (base : Nat) (an : List Nat) (recs : List Rec) (i : Nat) : Bool :=
  (match ops[i]? with | some o => (directs o).all (fun j => Nat.blt j i) | none => false) && okFresh base an recs i && (List.range i).all fun j => okPair ops an recs i j
def okRegion (ops : Array Oper) (base : Nat) (recs : List Rec) : Bool :=
  let an := ancs ops.toList []
  (List.range ops.size).all fun i => okOne ops base an recs i

/-! #### loops: a state brought to the shape of another -/
def weakLeaf (μ : Mu) : Leaf → Leaf → Option (Leaf × List (Nat × Nat))
  | .dat x, .dat y => if x.t = y.t then some (.dat y, []) else none
  | .own a, .own b => some (.own a, [(a, b)])
  | .ptr a o, .ptr b o' => if o = o' then some (.ptr a o, [(a, b)]) else none
  | .nils, .nils => some (.nils, [])
  | .nilp, .nilp => some (.nilp, [])
  | .any, _ => some (.any, [])
  | .dat ⟨.slice t, _⟩, .own b => match μ b with
    | some (.rows _ t' ys true) => if t = t' then some (.dat ⟨.slice t', ys⟩, []) else none
    | _ => none
  | _, _ => none
end Go.Ab
