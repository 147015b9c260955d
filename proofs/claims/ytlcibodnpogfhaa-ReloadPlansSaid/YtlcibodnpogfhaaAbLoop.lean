/- Code ('Ab'): the interpreter over code; a loop's head, brought to one shape (definitions alone). -/
import Derived.Test.YtlcibodnpogfhaaAbExec
set_option linter.unusedVariables false
set_option linter.unusedSimpArgs false
set_option linter.unnecessarySimpa false
namespace Go.Ab
open Go.RowKit

/-! ### the shape of a state at a loop's head -/
inductive HL where
  | hole (t : Ty) | own (id : Nat) | ptr (id off : Nat) | nilp | fn (f : FuncId) (caps : List Nat) | any
inductive HV where
  | val (ag : Bool) (l : List HL) | any
inductive HC where
  | box (l : List HL) | rows (e : TypeId) (t : Ty) (frz : Bool)
structure Shape where
  tm : List HV
  mem : List (Nat × HC)
@[reducible] def Tup : List Ty → Type
  | [] => Unit
  | t :: ts => t.den × Tup ts
def Tup.list : (ts : List Ty) → Tup ts → List D
  | [], _ => []
  | t :: ts, d => ⟨t, d.1⟩ :: Tup.list ts d.2
def Tup.of : (ts : List Ty) → List D → Option (Tup ts)
  | [], [] => some ()
  | t :: ts, x :: l => (toDen t x).bind fun d => (Tup.of ts l).map fun r => (d, r)
  | _, _ => none
def HL.tys : HL → List Ty
  | .hole t => [t]
  | _ => []
def HV.tys : HV → List Ty
  | .val _ l => l.flatMap HL.tys
  | .any => []
def HC.tys : HC → List Ty
  | .box l => l.flatMap HL.tys
  | .rows _ t _ => [.slice t]
@[reducible] def Shape.tys (s : Shape) : List Ty := s.tm.flatMap HV.tys ++ s.mem.flatMap fun p => p.2.tys
def fillL : HL → List D → Leaf × List D
  | .hole _, d :: ds => (.dat d, ds)
  | .hole _, [] => (.any, [])
  | .own id, ds => (.own id, ds)
  | .ptr id off, ds => (.ptr id off, ds)
  | .nilp, ds => (.nilp, ds)
  | .fn f caps, ds => (.fn f caps, ds)
  | .any, ds => (.any, ds)
def fillLs : List HL → List D → List Leaf × List D
  | [], ds => ([], ds)
  | h :: hs, ds => let r := fillL h ds; let q := fillLs hs r.2; (r.1 :: q.1, q.2)
def fillV : HV → List D → AV × List D
  | .val ag l, ds => let r := fillLs l ds; (.val (ag, r.1), r.2)
  | .any, ds => (.any, ds)
def fillTm : List HV → List D → List AV × List D
  | [], ds => ([], ds)
  | h :: hs, ds => let r := fillV h ds; let q := fillTm hs r.2; (r.1 :: q.1, q.2)
def fillC : HC → List D → Chunk × List D
  | .box l, ds => let r := fillLs l ds; (.box r.1, r.2)
  | .rows e t f, d :: ds => (match toDen (.slice t) d with | some xs => .rows e t xs f | none => .gone, ds)
  | .rows _ _ _, [] => (.gone, [])
def fillMem : List (Nat × HC) → List D → Mem
  | [], _ => []
  | p :: l, ds => let r := fillC p.2 ds; (p.1, r.1) :: fillMem l r.2
def Shape.fill (s : Shape) (d : Tup s.tys) : AS := let r := fillTm s.tm (Tup.list s.tys d); ⟨r.1, fillMem s.mem r.2⟩

/-! ### a state that fits a shape -/
def pairsL : HL → Leaf → List (Nat × Nat)
  | .own b, .own a => [(b, a)]
  | .ptr b _, .ptr a _ => [(b, a)]
  | .fn _ bs, .fn _ cs => bs.zip cs
  | _, _ => []
def pairsLs : List HL → List Leaf → List (Nat × Nat)
  | h :: hs, l :: ls => pairsL h l ++ pairsLs hs ls
  | _, _ => []
def pairsTm : List HV → List AV → List (Nat × Nat)
  | .val _ hs :: rest, .val (_, ls) :: rest' => pairsLs hs ls ++ pairsTm rest rest'
  | _ :: rest, _ :: rest' => pairsTm rest rest'
  | _, _ => []
def renOf (p : List (Nat × Nat)) (b : Nat) : Nat := match p.find? (fun q => Nat.beq q.1 b) with | some q => q.2 | none => b
def pairsMem (μ : Mu) : List (Nat × HC) → List (Nat × Nat) → List (Nat × Nat)
  | [], p => p
  | (b, .box hs) :: l, p => match μ (renOf p b) with
    | some (.box ls) => pairsMem μ l (p ++ pairsLs hs ls)
    | _ => pairsMem μ l p
  | _ :: l, p => pairsMem μ l p
section
variable (ren : Nat → Nat) (keys : List Nat) (μ : Mu)
def capsB : List Nat → List Nat → Bool
  | [], [] => true
  | b :: bs, c :: cs => Nat.beq (ren b) c && (keys.contains b && capsB bs cs)
  | _, _ => false
def matchL : HL → Leaf → Option (List D)
  | .hole t, .dat x => if x.t = t then some [x] else none
  | .hole t, .own a => match μ a with
    | some (.rows _ t' xs true) => if t = .slice t' then some [⟨.slice t', xs⟩] else none
    | _ => none
  | .hole t, .sub a sz lo hi _ => match μ a with
    | some (.rows _ t' xs true) => if t = .slice t' ∧ t'.size = sz then some [⟨.slice t', (xs.take hi.toNat).drop lo.toNat⟩] else none
    | _ => none
  | .own b, .own a => if (Nat.beq (ren b) a && keys.contains b) = true then some [] else none
  | .ptr b off, .ptr a off' => if (Nat.beq (ren b) a && Nat.beq off off' && keys.contains b) = true then some [] else none
  | .nilp, .nilp => some []
  | .fn f bs, .fn f' cs => if (Nat.beq f f' && capsB ren keys bs cs) = true then some [] else none
  | .any, _ => some []
  | _, _ => none
def matchLs : List HL → List Leaf → Option (List D)
  | [], [] => some []
  | h :: hs, l :: ls => (matchL ren keys μ h l).bind fun x => (matchLs hs ls).bind fun y => some (x ++ y)
  | _, _ => none
def matchV : HV → AV → Option (List D)
  | .val ag hs, .val (ag', ls) => if ag = ag' then matchLs ren keys μ hs ls else none
  | .any, _ => some []
  | _, _ => none
def matchTm : List HV → List AV → Option (List D)
  | [], [] => some []
  | h :: hs, l :: ls => (matchV ren keys μ h l).bind fun x => (matchTm hs ls).bind fun y => some (x ++ y)
  | _, _ => none
def matchC : HC → Option Chunk → Option (List D)
  | .box hs, some (.box ls) => if (hs.all fun h => match h with | .any => false | _ => true) = true then matchLs ren keys μ hs ls else none
  | .rows e t f, some (.rows e' t' xs f') => if e = e' ∧ t = t' ∧ f = f' then some [⟨.slice t', xs⟩] else none
  | _, _ => none
def matchMem : List (Nat × HC) → Option (List D)
  | [] => some []
  | p :: l => (matchC ren keys μ p.2 (μ (ren p.1))).bind fun x => (matchMem l).bind fun y => some (x ++ y)
end
/-- Rows of one's own that are data from a loop's head on. -/
def frzL (μ : Mu) : HL → Leaf → Mem
  | .hole _, .own a => match μ a with
    | some (.rows e t xs false) => [(a, .rows e t xs true)]
    | _ => []
  | .hole _, .sub a _ _ _ _ => match μ a with
    | some (.rows e t xs false) => [(a, .rows e t xs true)]
    | _ => []
  | _, _ => []
def frzLs (μ : Mu) : List HL → List Leaf → Mem
  | h :: hs, l :: ls => frzL μ h l ++ frzLs μ hs ls
  | _, _ => []
def frzTm (μ : Mu) : List HV → List AV → Mem
  | .val _ hs :: rest, .val (_, ls) :: rest' => frzLs μ hs ls ++ frzTm μ rest rest'
  | _ :: rest, _ :: rest' => frzTm μ rest rest'
  | _, _ => []
def frzMem (ren : Nat → Nat) (μ : Mu) : List (Nat × HC) → Mem
  | [] => []
  | (b, .box hs) :: l => (match μ (ren b) with | some (.box ls) => frzLs μ hs ls | _ => []) ++ frzMem ren μ l
  | (b, .rows _ _ true) :: l => (match μ (ren b) with | some (.rows e t xs false) => [(ren b, .rows e t xs true)] | _ => []) ++ frzMem ren μ l
  | _ :: l => frzMem ren μ l
def Shape.frz (zs : List Nat) (s : Shape) (φ : AS) : AS :=
  let μ := φ.mem.get
  ⟨φ.tm, putM φ.mem (frzTm μ s.tm φ.tm ++ frzMem (renOf (pairsMem μ s.mem ((zs.map fun z => (z, z)) ++ pairsTm s.tm φ.tm))) μ s.mem)⟩
def Shape.fit (zs : List Nat) (s : Shape) (φ : AS) : Option (Tup s.tys) :=
  let μ := φ.mem.get
  let ren := renOf (pairsMem μ s.mem ((zs.map fun z => (z, z)) ++ pairsTm s.tm φ.tm))
  let keys := s.mem.map (·.1)
  if (nodupB keys && nodupB (keys.map ren) && zs.all (fun z => keys.contains z && Nat.beq (ren z) z)) = true then
    (matchTm ren keys μ s.tm φ.tm).bind fun x => (matchMem ren keys μ s.mem).bind fun y => Tup.of s.tys (x ++ y)
  else none

/-! ### code -/
structure LoopSpec where
  sh : Shape
  fuel : Tup sh.tys → Nat
def loopsIn : Code → Nat
  | .seq a b => loopsIn a + loopsIn b
  | .cond _ a b => loopsIn a + loopsIn b
  | .block _ a => loopsIn a
  | .loop a => loopsIn a + 1
  | _ => 0
def loopN {δ : Type} (F : δ → (δ → Option Res) → Option Res) : Nat → δ → Option Res
  | 0, _ => none
  | n + 1, d => F d (loopN F n)
def condSet (tm : List AV) (c : Operand) (b : Bool) : List AV := match c with | .tmp t => tm.set t (bv b) | _ => tm
def exec (Δ : Tys) (Γ : Env) (Λ : Nat → Option LoopSpec) (zs : List Nat) : Nat → Code → AS → K → Option Res
  | _, .skip, φ, k => k .normal φ
  | _, .region _ ops draw, φ, k => runOps Δ Γ ops φ.mem.top 0 ops.toList φ [] fun φ' recs => if draw = true then (if okRegion ops φ.mem.top recs = true then k .normal φ' else none) else k .normal φ'
  | n, .seq a b, φ, k => exec Δ Γ Λ zs n a φ fun e φ' => match e with | .normal => exec Δ Γ Λ zs (n + loopsIn a) b φ' k | e => k e φ'
  | n, .cond c a b, φ, k => match isBool (evalA φ.tm c) with
    | some t => if t = true then exec Δ Γ Λ zs n a ⟨condSet φ.tm c true, φ.mem⟩ k else exec Δ Γ Λ zs (n + loopsIn a) b ⟨condSet φ.tm c false, φ.mem⟩ k
    | none => none
  | n, .block i a, φ, k => exec Δ Γ Λ zs n a φ fun e φ' => match e with | .exit j => if j = i then k .normal φ' else k (.exit j) φ' | e => k e φ'
  | n, .loop a, φ, k => match Λ n with
    | some L => (L.sh.fit zs (L.sh.frz zs φ)).bind fun d0 => loopN (fun d again => exec Δ Γ Λ zs (n + 1) a (L.sh.fill d) fun e φ' => match e with | .normal => (L.sh.fit zs (L.sh.frz zs φ')).bind again | e => k e φ') (L.fuel d0) d0
    | none => none
  | _, .exit i, φ, k => k (.exit i) φ
  | _, .ret, φ, k => k .ret φ
  | _, _, _, _ => none

/-! ### functions -/
/-- Variables that are handed in (numbers from n on), with the rows in them (numbers from m on). -/
def enterBoxes : Nat → Nat → List (List Part) → Mem × Nat
  | _, m, [] => ([], m)
  | n, m, l :: ls => let b := backs m l; let r := enterBoxes (n + 1) b.2.2 ls; (b.2.1 ++ (n, .box b.1) :: r.1, r.2)
def enterArgs : Nat → Nat → List Arg → List AV × Mem × Nat
  | _, m, [] => ([], [], m)
  | n, m, .val (ag, l) :: as => let b := backs m l; let r := enterArgs n b.2.2 as; (.val (ag, b.1) :: r.1, b.2.1 ++ r.2.1, r.2.2)
  | n, m, .box l :: as => let b := enterBoxes n m [l]; let r := enterArgs (n + 1) b.2 as; (lv (.ptr n 0) :: r.1, b.1 ++ r.2.1, r.2.2)
  | n, m, .fn f ls :: as => let b := enterBoxes n m ls; let r := enterArgs (n + ls.length) b.2 as; (lv (.fn f (List.range' n ls.length)) :: r.1, b.1 ++ r.2.1, r.2.2)
def boxCount (as : List Arg) : Nat := (boxesIn as).length
def partOf (μ : Mu) : Leaf → Option (Part × List Nat)
  | .dat x => some ((none, x), [])
  | .cl x => some ((none, x), [])
  | .own id => match μ id with
    | some (.rows e t xs false) => some ((some e, ⟨.slice t, xs⟩), [id])
    | some (.rows _ t xs true) => some ((none, ⟨.slice t, xs⟩), [])
    | _ => none
  | .sub id sz lo hi pre => match μ id with
    | some (.rows _ t xs true) => if t.size = sz then some ((none, ⟨.slice t, (xs.take hi.toNat).drop lo.toNat⟩), []) else none
    | some (.rows e t xs false) => if t.size = sz ∧ pre = true then some ((some e, ⟨.slice t, xs.take hi.toNat⟩), [id]) else none
    | _ => none
  | _ => none
def partsOfL (μ : Mu) : List Leaf → Option (List Part × List Nat)
  | [] => some ([], [])
  | l :: ls => (partOf μ l).bind fun p => (partsOfL μ ls).bind fun q => some (p.1 :: q.1, p.2 ++ q.2)
def rvOf (μ : Mu) : Reg → Option (RV × List Nat)
  | (false, [l]) => (partOf μ l).map fun p => ((false, [p.1]), p.2)
  | (true, ls) => (partsOfL μ ls).map fun p => ((true, p.1), p.2)
  | _ => none
def resultAt (Δ : Tys) (φ : AS) : ResultVar → Option (RV × List Nat)
  | .tmp t => match φ.tm.getD t .any with
    | .val r => rvOf φ.mem.get r
    | _ => none
  | .cell a T => match φ.tm.getD a .any with
    | .val (false, [.ptr id off]) => match φ.mem.get id with
      | some (.box ls) => (cut Δ T off ls).bind (rvOf φ.mem.get)
      | _ => none
    | _ => none
def resultsAt (Δ : Tys) (φ : AS) : List ResultVar → Option (List RV × List Nat)
  | [] => some ([], [])
  | v :: l => (resultAt Δ φ v).bind fun p => (resultsAt Δ φ l).bind fun q => some (p.1 :: q.1, p.2 ++ q.2)
def boxAt (φ : AS) (id : Nat) : Option (List Part × List Nat) :=
  match φ.mem.get id with
  | some (.box ls) => partsOfL φ.mem.get ls
  | _ => none
def boxesAt (φ : AS) : List Nat → Option (List (List Part) × List Nat)
  | [] => some ([], [])
  | id :: l => (boxAt φ id).bind fun p => (boxesAt φ l).bind fun q => some (p.1 :: q.1, p.2 ++ q.2)
def datsOf : List Leaf → Option (List D)
  | [] => some []
  | .dat x :: ls => (datsOf ls).map fun l => x :: l
  | _ => none
/-- The address of a variable of the call's own that goes out. -/
def ptrAt (zs : List Nat) (φ : AS) : List ResultVar → Option (List D × Nat)
  | [.tmp t] => match φ.tm.getD t .any with
    | .val (false, [.ptr id 0]) => match φ.mem.get id with
      | some (.box ls) => if zs.contains id = true then none else (datsOf ls).map fun l => (l, id)
      | _ => none
    | _ => none
  | _ => none
def retAt (Δ : Tys) (rs : List ResultVar) (zs : List Nat) (φ : AS) : Option Res :=
  match ptrAt zs φ rs with
  | some (l, id) => (boxesAt φ zs).bind fun q => if nodupB (id :: q.2) = true then some ⟨.ptr l, q.1⟩ else none
  | none => (resultsAt Δ φ rs).bind fun p => (boxesAt φ zs).bind fun q =>
    if nodupB (p.2 ++ q.2) = true then some ⟨match p.1 with | [x] => .val x | l => .tup l, q.1⟩ else none
/-- Rows that go out as data. -/
def frzAt (μ : Mu) : List Bool → List Leaf → Mem
  | true :: ms, .own a :: ls => (match μ a with | some (.rows e t xs false) => [(a, .rows e t xs true)] | _ => []) ++ frzAt μ ms ls
  | true :: ms, .sub a _ _ _ _ :: ls => (match μ a with | some (.rows e t xs false) => [(a, .rows e t xs true)] | _ => []) ++ frzAt μ ms ls
  | _ :: ms, _ :: ls => frzAt μ ms ls
  | _, _ => []
def regAt (Δ : Tys) (φ : AS) : ResultVar → List Leaf
  | .tmp t => match φ.tm.getD t .any with
    | .val r => r.2
    | _ => []
  | .cell a T => match φ.tm.getD a .any with
    | .val (false, [.ptr id off]) => match φ.mem.get id with
      | some (.box ls) => match cut Δ T off ls with
        | some r => r.2
        | none => []
      | _ => []
    | _ => []
def retFrz (Δ : Tys) (φ : AS) : List ResultVar → List (List Bool) → Mem
  | r :: rs, m :: ms => frzAt φ.mem.get m (regAt Δ φ r) ++ retFrz Δ φ rs ms
  | _, _ => []
def AS.frz (φ : AS) (fz : Mem) : AS := ⟨φ.tm, putM φ.mem fz⟩
def retK (Δ : Tys) (rs : List ResultVar) (zs : List Nat) (mask : List (List Bool)) : K := fun e φ => match e with
  | .normal => retAt Δ rs zs (φ.frz (retFrz Δ φ rs mask))
  | .ret => retAt Δ rs zs (φ.frz (retFrz Δ φ rs mask))
  | _ => none
/-- A function's run: what it comes to, of these arguments. -/
def execF (Δ : Tys) (Γ : Env) (Λ : Nat → Option LoopSpec) (code : Code) (results : Array ResultVar) (ntmps : Nat) (mask : List (List Bool)) (as : List Arg) : Option Res :=
  let e := enterArgs 0 (boxCount as) as
  let zs := List.range (boxCount as)
  exec Δ Γ Λ zs 0 code ⟨e.1 ++ List.replicate (ntmps - as.length) .any, putM [] e.2.1⟩ (retK Δ results.toList zs mask)

/-! ### arguments of a form, taken apart at once -/
inductive AK where
  | val (ag : Bool) (fs : List (Option TypeId))
  | box (fs : List (Option TypeId))
  | fn (f : FuncId) (fss : List (List (Option TypeId)))
def flatParts : List (Option TypeId) → List Part → Option (List D)
  | f :: fs, p :: ps => if p.1 = f then (flatParts fs ps).map fun l => p.2 :: l else none
  | [], [] => some []
  | _, _ => none
def flatBoxes : List (List (Option TypeId)) → List (List Part) → Option (List D)
  | fs :: fss, l :: ls => (flatParts fs l).bind fun x => (flatBoxes fss ls).map fun y => x ++ y
  | [], [] => some []
  | _, _ => none
def flatArg : AK → Arg → Option (List D)
  | .val ag fs, .val (ag', l) => if ag' = ag then flatParts fs l else none
  | .box fs, .box l => flatParts fs l
  | .fn f fss, .fn f' ls => if f' = f then flatBoxes fss ls else none
  | _, _ => none
def flatArgs : List AK → List Arg → Option (List D)
  | k :: ks, a :: as => (flatArg k a).bind fun x => (flatArgs ks as).map fun y => x ++ y
  | [], [] => some []
  | _, _ => none
def unpack (ks : List AK) (tys : List Ty) (as : List Arg) : Option (Tup tys) := (flatArgs ks as).bind (Tup.of tys)
def packParts : List (Option TypeId) → List D → List Part × List D
  | f :: fs, d :: ds => let r := packParts fs ds; ((f, d) :: r.1, r.2)
  | _, ds => ([], ds)
def packBoxes : List (List (Option TypeId)) → List D → List (List Part) × List D
  | fs :: fss, ds => let r := packParts fs ds; let q := packBoxes fss r.2; (r.1 :: q.1, q.2)
  | [], ds => ([], ds)
def packArg : AK → List D → Arg × List D
  | .val ag fs, ds => let r := packParts fs ds; (.val (ag, r.1), r.2)
  | .box fs, ds => let r := packParts fs ds; (.box r.1, r.2)
  | .fn f fss, ds => let r := packBoxes fss ds; (.fn f r.1, r.2)
def packArgs : List AK → List D → List Arg
  | k :: ks, ds => let r := packArg k ds; r.1 :: packArgs ks r.2
  | [], _ => []
end Go.Ab
