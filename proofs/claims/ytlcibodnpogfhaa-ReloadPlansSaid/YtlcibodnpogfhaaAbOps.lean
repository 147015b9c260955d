/- One operation at a time: what its step says is what it does ('Ab'): the operations that write no memory. -/
import Derived.Test.YtlcibodnpogfhaaAbInv
import Derived.Laws.Slices
import Derived.Laws.StructEq
set_option linter.unusedVariables false
set_option linter.unusedSimpArgs false
set_option linter.unnecessarySimpa false
namespace Go.Ab
open Go.RowKit

/-! ### the types, as the program has them -/
def descOk : TypeDesc → TK → Bool
  | .int k, .int k' => k == k'
  | .bool, .bool => true
  | .string, .str => true
  | .slice e, .slice e' => e == e'
  | .pointer e, .ptr e' => e == e'
  | .struct fs, .struct gs => fs.toList.map (fun f => (f.offset, f.type)) == gs
  | .array n e, .array n' e' => n == n' && e == e'
  | .struct _, .other | .array _ _, .other => false
  | _, .other => true
  | _, _ => false
def zeroB : Ty → List Value → Option (List Value)
  | .int k, .int k' n :: l => if k = k' ∧ n = 0 then some l else none
  | .bool, .bool b :: l => if b = false then some l else none
  | .str, .string s :: l => if s.data.size = 0 then some l else none
  | .slice _, .slice none n c :: l => if n = 0 ∧ c = 0 then some l else none
  | .pair a b, l => (zeroB a l).bind (zeroB b)
  | .unit, l => some l
  | _, _ => none
theorem zeroB_is : ∀ {t : Ty} {l l' : List Value}, zeroB t l = some l' → l = t.zeros ++ l' := by
  intro t
  induction t with
  | int k =>
    intro l l' h
    match l, h with
    | .int k' n :: l, h =>
      simp only [zeroB] at h
      split at h
      · rename_i hh; obtain ⟨rfl, rfl⟩ := hh; simp at h; subst h; rfl
      · cases h
  | bool =>
    intro l l' h
    match l, h with
    | .bool b :: l, h =>
      simp only [zeroB] at h
      split at h
      · rename_i hh; subst hh; simp at h; subst h; rfl
      · cases h
  | str =>
    intro l l' h
    match l, h with
    | .string s :: l, h =>
      simp only [zeroB] at h
      split at h
      · rename_i hh
        simp at h; subst h
        have : s = ByteArray.empty := by
          obtain ⟨d⟩ := s
          have : d = #[] := Array.eq_empty_of_size_eq_zero hh
          subst this; rfl
        subst this; rfl
      · cases h
  | slice t _ =>
    intro l l' h
    match l, h with
    | .slice none n c :: l, h =>
      simp only [zeroB] at h
      split at h
      · rename_i hh; obtain ⟨rfl, rfl⟩ := hh; simp at h; subst h; rfl
      · cases h
  | pair a b iha ihb =>
    intro l l' h
    simp only [zeroB, Option.bind_eq_some_iff] at h
    obtain ⟨m, h1, h2⟩ := h
    rw [iha h1, ihb h2, Ty.zeros, List.append_assoc]
  | unit => intro l l' h; simp only [zeroB, Option.some.injEq] at h; subst h; rfl
def infoB (P : Program) (t : TypeId) (i : TI) : Bool :=
  match P.info? t, P.underlying t with
  | some inf, some d => inf.size == i.size && inf.bytes == i.bytes && descOk d i.k &&
    (match i.k with | .struct _ => !P.stoodInHeld t && !P.eqGuardType P.depth t && (P.fieldsOf t).toList.all (fun f => f.name != "_") | .int .u8 => (match inf.zero with | some (.int k n) => decide (k = .u8) && n == 0 | _ => false) | _ => true) &&
    (match i.ty with
     | none => true
     | some ty => ty.size == i.size && match inf.zero with
       | some z => (match zeroB ty z.cells.toList with | some [] => true | _ => false)
       | none => false)
  | _, _ => false
structure InfoOk (P : Program) (t : TypeId) (i : TI) : Prop where
  eq : ∀ gs, i.k = .struct gs → P.stoodInHeld t = false ∧ P.eqGuardType P.depth t = false ∧ ∀ f ∈ (P.fieldsOf t).toList, f.name ≠ "_"
  u8 : i.k = .int .u8 → ∃ inf, P.info? t = some inf ∧ inf.zero = some (.int .u8 0)
  und : ∃ d, P.underlying t = some d ∧ descOk d i.k = true
  size : ∃ inf, P.info? t = some inf ∧ inf.size = i.size ∧ inf.bytes = i.bytes ∧ ∀ ty, i.ty = some ty → ty.size = i.size ∧ ∃ z, inf.zero = some z ∧ z.cells.toList = ty.zeros
theorem infoB_is {P : Program} {t : TypeId} {i : TI} (h : infoB P t i = true) : InfoOk P t i := by
  unfold infoB at h
  split at h
  · rename_i inf d hi hd
    simp only [Bool.and_eq_true, beq_iff_eq] at h
    obtain ⟨⟨⟨⟨h1, h2⟩, h3⟩, h0⟩, h4⟩ := h
    refine ⟨fun gs hgs => ?_, fun hk => ?_, ⟨d, hd, h3⟩, inf, hi, h1, h2, fun ty hty => ?_⟩
    · rw [hgs] at h0
      simp only [Bool.and_eq_true, Bool.not_eq_true', List.all_eq_true, bne_iff_ne] at h0
      exact ⟨h0.1.1, h0.1.2, h0.2⟩
    · rw [hk] at h0
      simp only at h0
      refine ⟨inf, hi, ?_⟩
      cases hz : inf.zero with
      | none => rw [hz] at h0; cases h0
      | some z =>
        rw [hz] at h0
        cases z <;> simp at h0
        obtain ⟨rfl, rfl⟩ := h0
        rfl
    rw [hty] at h4
    simp only [Bool.and_eq_true, beq_iff_eq] at h4
    obtain ⟨h5, h6⟩ := h4
    refine ⟨h5, ?_⟩
    cases hz : inf.zero with
    | none => rw [hz] at h6; cases h6
    | some z =>
      rw [hz] at h6
      refine ⟨z, rfl, ?_⟩
      cases hzz : zeroB ty z.cells.toList with
      | none => simp [hzz] at h6
      | some l =>
        cases l with
        | nil => have := zeroB_is hzz; simpa using this
        | cons x l => simp [hzz] at h6
  · cases h
def TysOk (P : Program) (Δ : Tys) : Prop := ∀ t i, Δ.get t = some i → InfoOk P t i
theorem tysOk_of {P : Program} {Δ : Tys} (h : Δ.all (fun p => infoB P p.1 p.2) = true) : TysOk P Δ := by
  intro t i hg
  unfold Tys.get at hg
  cases hf : Δ.find? (fun p => p.1 == t) with
  | none => rw [hf] at hg; simp at hg
  | some p =>
    rw [hf] at hg
    simp at hg
    subst hg
    have h1 := List.find?_some hf
    have h2 := List.mem_of_find?_eq_some hf
    have h3 := List.all_eq_true.1 h p h2
    simp only [beq_iff_eq] at h1
    rw [h1] at h3
    exact infoB_is h3

/-! ### running -/
section
variable {P : Program} {o : Oper} {a : Act} {w : World}
/-- What the operation comes to, whatever follows. -/
def Goes (P : Program) (o : Oper) (a : Act) (w : World) (R : Value → World → Prop) : Prop :=
  ∀ (next : Act → World → Prop) (Q : Exit → Act → World → Prop), (∀ v w', R v w' → next (a.put o.dst v) w') → o.wp P a w next Q
theorem goes_value {v : Value} {w' : World} {R : Value → World → Prop} (h : (execOp a.eval o).run P w = .ok (.value v) w') (hR : R v w') : Goes P o a w R := by
  intro next Q hn
  unfold Oper.wp
  rw [h]
  exact hn v w' hR
theorem goes_skip {w' : World} {R : Value → World → Prop} (h : (execOp a.eval o).run P w = .ok .skip w') (hR : R undef w') : Goes P o a w R := by
  intro next Q hn
  unfold Oper.wp
  rw [h]
  exact hn undef w' hR
end
def muPut (μ : Mu) : Mem → Mu
  | [] => μ
  | p :: l => muPut (fun i => if i = p.1 then some p.2 else μ i) l
/-- Behind an operation: memory, and its value. -/
def After (w0 : World) (M S0 : Nat → Prop) (μ : Mu) (η : Nat → Value) (S : Nat → Prop) (w : World) (e : Eff) (v : Value) (w' : World) : Prop :=
  ∃ η' S', InvM w0 M S0 (muPut μ e.wr) η' S' w' ∧ Stay w w' S S' (dom μ) (dom (muPut μ e.wr)) η η' ∧ AVR w' S' (dom (muPut μ e.wr)) η' e.v v

section
variable {P : Program} {Δ : Tys} {w0 w : World} {M S0 S : Nat → Prop} {tm : List AV} {μ : Mu} {η : Nat → Value} {a : Act} {o : Oper}
theorem after_pure (hM : InvM w0 M S0 μ η S w) {x : AV} {v : Value} (h : AVR w S (dom μ) η x v) : After w0 M S0 μ η S w ⟨x, []⟩ v w :=
  ⟨η, S, hM, Stay.refl _ _ _ _, h⟩
theorem goes_pure (hM : InvM w0 M S0 μ η S w) {x : AV} {v : Value} (hrun : (execOp a.eval o).run P w = .ok (.value v) w) (h : AVR w S (dom μ) η x v) :
    Goes P o a w (After w0 M S0 μ η S w ⟨x, []⟩) := goes_value hrun (after_pure hM h)
theorem evalA_is (hI : InvX w0 M S0 tm μ η S a w) (x : Operand) : AVR w S (dom μ) η (evalA tm x) (a.eval x) := by
  cases x with
  | tmp t =>
    simp only [evalA, Act.eval]
    cases h : tm[t]? with
    | none => rw [List.getD_eq_getElem?_getD, h]; trivial
    | some v => rw [List.getD_eq_getElem?_getD, h]; exact hI.tmp t v h
  | const v =>
    simp only [evalA, Act.eval]
    unfold constAV
    split
    · rfl
    · rfl
    · rfl
    · rfl
    · rfl
    · trivial
  | func f => exact ⟨(fun id h => by simp at h), rfl⟩
  | global g => trivial
/-- A value that is told by its step is one of these. -/
inductive Told (w0 : World) (M S0 : Nat → Prop) (μ : Mu) (η : Nat → Value) (S : Nat → Prop) (P : Program) (o : Oper) (a : Act) (w : World) : Step → Prop where
  | no : Told w0 M S0 μ η S P o a w .no
  | ok {c : Prop} {dc : Decidable c} {e : Eff} (h : c → Goes P o a w (After w0 M S0 μ η S w e)) : Told w0 M S0 μ η S P o a w (.ok c dc e)
  | br {t : Bool} {x y : Eff} (h1 : t = true → Goes P o a w (After w0 M S0 μ η S w x)) (h2 : t = false → Goes P o a w (After w0 M S0 μ η S w y)) : Told w0 M S0 μ η S P o a w (.br t x y)
theorem told_pure {x : AV} (h : Goes P o a w (After w0 M S0 μ η S w ⟨x, []⟩)) : Told w0 M S0 μ η S P o a w (pureS x) := .ok fun _ => h

theorem isInt_is {x : AV} {k : IntKind} {n : Int} {v : Value} (h : isInt x = some (k, n)) (hx : AVR w S (dom μ) η x v) : v = .int k n := by
  unfold isInt at h
  split at h
  · simp only [Option.some.injEq, Prod.mk.injEq] at h
    obtain ⟨rfl, rfl⟩ := h
    simpa [AVR, RegR, LR, CR] using hx
  · cases h
theorem isBool_is {x : AV} {n : Bool} {v : Value} (h : isBool x = some n) (hx : AVR w S (dom μ) η x v) : v = .bool n := by
  unfold isBool at h
  split at h
  · simp only [Option.some.injEq] at h
    subst h
    simpa [AVR, RegR, LR, CR] using hx
  · cases h
theorem isStr_is {x : AV} {n : ByteArray} {v : Value} (h : isStr x = some n) (hx : AVR w S (dom μ) η x v) : v = .string n := by
  unfold isStr at h
  split at h
  · simp only [Option.some.injEq] at h
    subst h
    simpa [AVR, RegR, LR, CR] using hx
  · cases h
theorem avr_int (k : IntKind) (n : Int) : AVR w S (dom μ) η (iv k n) (.int k n) := rfl
theorem avr_bool (n : Bool) : AVR w S (dom μ) η (bv n) (.bool n) := rfl
theorem avr_str (n : ByteArray) : AVR w S (dom μ) η (sv n) (.string n) := rfl

/-! ### arithmetic -/
theorem told_binInt (hM : InvM w0 M S0 μ η S w) (op : BinOp) (T : TypeId) (k : IntKind) (m n : Int) (hop : op ≠ .shl ∧ op ≠ .shr)
    (hr : ∀ v, (binOp op T (.int k m) (.int k n)).run P w = .ok v w → (execOp a.eval o).run P w = .ok (.value v) w) :
    Told w0 M S0 μ η S P o a w (binInt op k m n) := by
  cases op with
  | add => exact told_pure (goes_pure hM (hr _ (by simp [binOp, Op.intArith])) (avr_int k _))
  | sub => exact told_pure (goes_pure hM (hr _ (by simp [binOp, Op.intArith])) (avr_int k _))
  | mul => exact told_pure (goes_pure hM (hr _ (by simp [binOp, Op.intArith])) (avr_int k _))
  | quo => exact .ok fun hc => goes_pure hM (hr _ (by have hc : n ≠ 0 := hc; simp [binOp, Op.intDiv, hc])) (avr_int k _)
  | rem => exact .ok fun hc => goes_pure hM (hr _ (by have hc : n ≠ 0 := hc; simp [binOp, Op.intDiv, hc])) (avr_int k _)
  | and => exact told_pure (goes_pure hM (hr _ (by simp only [binOp]; rw [if_neg (by simp)]; rfl)) (avr_int k _))
  | or => exact told_pure (goes_pure hM (hr _ (by simp only [binOp]; rw [if_neg (by simp)]; rfl)) (avr_int k _))
  | xor => exact told_pure (goes_pure hM (hr _ (by simp only [binOp]; rw [if_neg (by simp)]; rfl)) (avr_int k _))
  | andNot => exact told_pure (goes_pure hM (hr _ (by simp only [binOp]; rw [if_neg (by simp)]; rfl)) (avr_int k _))
  | eql => exact told_pure (goes_pure hM (hr _ (by simp [binOp, Op.intCmp])) (avr_bool _))
  | neq => exact told_pure (goes_pure hM (hr _ (by simp [binOp, Op.intCmp])) (avr_bool _))
  | lss => exact told_pure (goes_pure hM (hr _ (by simp [binOp, Op.intCmp])) (avr_bool _))
  | leq => exact told_pure (goes_pure hM (hr _ (by simp [binOp, Op.intCmp])) (avr_bool _))
  | gtr => exact told_pure (goes_pure hM (hr _ (by simp [binOp, Op.intCmp])) (avr_bool _))
  | geq => exact told_pure (goes_pure hM (hr _ (by simp [binOp, Op.intCmp])) (avr_bool _))
  | shl => exact absurd rfl hop.1
  | shr => exact absurd rfl hop.2
theorem told_binShift (hM : InvM w0 M S0 μ η S w) (op : BinOp) (T : TypeId) (k k' : IntKind) (m n : Int) (hop : op = .shl ∨ op = .shr)
    (hr : ∀ v, (binOp op T (.int k m) (.int k' n)).run P w = .ok v w → (execOp a.eval o).run P w = .ok (.value v) w) :
    Told w0 M S0 μ η S P o a w (binShift op k m n) := by
  rcases hop with rfl | rfl
  · exact .ok fun hc => goes_pure hM (hr _ (by have hc : 0 ≤ n := hc; have hc' : ¬ n < 0 := by omega
                                               simp [binOp, Op.shift, hc'])) (avr_int k _)
  · exact .ok fun hc => goes_pure hM (hr _ (by have hc : 0 ≤ n := hc; have hc' : ¬ n < 0 := by omega
                                               simp [binOp, Op.shift, hc'])) (avr_int k _)
theorem told_binStr (hM : InvM w0 M S0 μ η S w) (op : BinOp) (T : TypeId) (x y : ByteArray)
    (hr : ∀ v, (binOp op T (.string x) (.string y)).run P w = .ok v w → (execOp a.eval o).run P w = .ok (.value v) w) :
    Told w0 M S0 μ η S P o a w (binStr op x y) := by
  cases op with
  | add =>
    refine .ok fun hc => ?_
    have hc : x.size + y.size ≤ 9223372036854775807 := hc
    have hc' : ¬ ((x.size + y.size : Nat) : Int) > IntKind.i64.max := by simp [IntKind.max, IntKind.signed, IntKind.bits]; omega
    exact goes_pure hM (hr (.string (x ++ y)) (by simp only [binOp, Op.stringOp, if_neg hc']; rfl)) (avr_str _)
  | eql => exact told_pure (goes_pure hM (hr _ rfl) (avr_bool _))
  | neq => exact told_pure (goes_pure hM (hr _ rfl) (avr_bool _))
  | lss => exact told_pure (goes_pure hM (hr _ rfl) (avr_bool _))
  | leq => exact told_pure (goes_pure hM (hr _ rfl) (avr_bool _))
  | gtr => exact told_pure (goes_pure hM (hr _ rfl) (avr_bool _))
  | geq => exact told_pure (goes_pure hM (hr _ rfl) (avr_bool _))
  | sub => exact .no
  | mul => exact .no
  | quo => exact .no
  | rem => exact .no
  | and => exact .no
  | or => exact .no
  | xor => exact .no
  | andNot => exact .no
  | shl => exact .no
  | shr => exact .no
theorem run_equalIn_bool (d : Nat) {T : TypeId} (x y : Bool) (h : P.underlying T = some .bool) : (Op.equalIn (d + 1) T (.bool x) (.bool y)).run P w = .ok (x == y) w := by
  simp [Op.equalIn, run_underlying h]
theorem run_equal_bool {T : TypeId} (x y : Bool) (h : P.underlying T = some .bool) : (Op.equal T (.bool x) (.bool y)).run P w = .ok (x == y) w := run_equalIn_bool 9999 x y h
theorem tys_bool {P : Program} {Δ : Tys} (hΔ : TysOk P Δ) {T : TypeId} (h : kindOf Δ T = some .bool) : P.underlying T = some .bool := by
  unfold kindOf at h
  cases hg : Δ.get T with
  | none => rw [hg] at h; simp at h
  | some i =>
    rw [hg] at h
    simp at h
    obtain ⟨d, hd, hk⟩ := (hΔ T i hg).und
    rw [h] at hk
    cases d <;> simp [descOk] at hk
    exact hd
theorem run_pureguard {α : Type} (x : Sem α) : (do (pure () : Sem Unit); x) = x := rfl
theorem run_isAgg {T : TypeId} {i : TI} (h : InfoOk P T i) (w : World) : (isAgg T).run P w = .ok i.k.isAgg w := by
  obtain ⟨d, hd, hk⟩ := h.und
  unfold isAgg
  rw [Sem.run_bind, run_underlying hd]
  cases hki : i.k <;> rw [hki] at hk <;> cases d <;> simp [descOk, TK.isAgg] at hk ⊢ <;> simp [Result.andThen]
theorem run_sizeOf {T : TypeId} {i : TI} (h : InfoOk P T i) (w : World) : (sizeOf T).run P w = .ok i.size w := by
  obtain ⟨inf, hi, hs, _⟩ := h.size
  simp [sizeOf, typeInfo, hi, hs]
/-- What is cut out of a row of parts, of values. -/
theorem cut_is {T : TypeId} {off : Nat} {ls : List Leaf} {r : Reg} (hc : cut Δ T off ls = some r) {cs : List Value} (hf : F2 (LR w S (dom μ) η) ls cs) :
    ∃ i, Δ.get T = some i ∧ off + i.size ≤ cs.length ∧ ((i.k.isAgg = true ∧ RegR w S (dom μ) η r (.agg ((cs.drop off).take i.size).toArray)) ∨ (i.k.isAgg = false ∧ ∃ v, cs[off]? = some v ∧ RegR w S (dom μ) η r v)) := by
  unfold cut at hc
  split at hc
  · rename_i i hi
    split at hc
    · rename_i hle
      refine ⟨i, hi, by rw [← hf.length]; exact hle, ?_⟩
      split at hc
      · rename_i hag
        simp only [Option.some.injEq] at hc; subst hc
        exact .inl ⟨hag, _, rfl, by simpa using (hf.drop off).take i.size⟩
      · rename_i hag
        split at hc
        · rename_i l hl
          simp only [Option.some.injEq] at hc; subst hc
          refine .inr ⟨by simpa using hag, ?_⟩
          have hl' : ls[off]? = some l := by rw [← hl, List.head?_drop]
          obtain ⟨v, hv, hr⟩ := hf.get off l hl'
          exact ⟨v, hv, hr⟩
        · cases hc
    · cases hc
  · cases hc
theorem run_part_cut (hΔ : TysOk P Δ) {T : TypeId} {off : Nat} {ls : List Leaf} {r : Reg} (hc : cut Δ T off ls = some r) {cs : Array Value} (hf : F2 (LR w S (dom μ) η) ls cs.toList) : ∃ v, (part T cs off).run P w = .ok v w ∧ RegR w S (dom μ) η r v := by
  obtain ⟨i, hi, hle, hcase⟩ := cut_is hc hf
  rcases hcase with ⟨hag, hreg⟩ | ⟨hag, v, hcv, hreg⟩
  · refine ⟨_, ?_, hreg⟩
    simp only [part, Sem.run_bind, run_isAgg (hΔ T i hi), hag, Result.andThen, run_sizeOf (hΔ T i hi), Sem.run_pure, if_true]
    congr 2
    apply Array.ext'
    simp
  · refine ⟨v, ?_, hreg⟩
    have hcv' : cs[off]? = some v := by rw [← Array.getElem?_toList]; exact hcv
    simp [part, Sem.run_bind, run_isAgg (hΔ T i hi), hag, Result.andThen, hcv']
theorem eqScal_is (hΔ : TysOk P Δ) {T : TypeId} {i : TI} (hi : Δ.get T = some i) {r r' : Reg} {b : Bool} (h : eqScal i.k r r' = some b) {v v' : Value} (hv : RegR w S (dom μ) η r v) (hv' : RegR w S (dom μ) η r' v') (d : Nat) :
    (Op.equalIn (d + 1) T v v').run P w = .ok b w := by
  obtain ⟨td, hd1, hd2⟩ := (hΔ T i hi).und
  unfold eqScal at h
  split at h
  · rename_i k0 k n k' m hik
    split at h
    · rename_i hk
      subst hk
      simp only [Option.some.injEq] at h
      have e1 : v = .int k n := by simpa [RegR, LR, CR] using hv
      have e2 : v' = .int k m := by simpa [RegR, LR, CR] using hv'
      rw [hik] at hd2
      cases td <;> simp [descOk] at hd2
      rw [e1, e2, ← h]
      exact run_equalIn_int w d T k _ n m hd1
    · cases h
  · rename_i n m hik
    simp only [Option.some.injEq] at h
    have e1 : v = .bool n := by simpa [RegR, LR, CR] using hv
    have e2 : v' = .bool m := by simpa [RegR, LR, CR] using hv'
    rw [hik] at hd2
    cases td <;> simp [descOk] at hd2
    rw [e1, e2, ← h]
    exact run_equalIn_bool d n m hd1
  · rename_i n m hik
    simp only [Option.some.injEq] at h
    have e1 : v = .string n := by simpa [RegR, LR, CR] using hv
    have e2 : v' = .string m := by simpa [RegR, LR, CR] using hv'
    rw [hik] at hd2
    cases td <;> simp [descOk] at hd2
    rw [e1, e2, ← h]
    exact run_equalIn_string w d T n m hd1
  · cases h
theorem eqFs_is (hΔ : TysOk P Δ) {f : TypeId → Reg → Reg → Option Bool} {d : Nat} (hf : ∀ T r r' b v v', f T r r' = some b → RegR w S (dom μ) η r v → RegR w S (dom μ) η r' v' → (Op.equalIn d T v v').run P w = .ok b w)
    {ls ms : List Leaf} {cs ds : Array Value} (h1 : F2 (LR w S (dom μ) η) ls cs.toList) (h2 : F2 (LR w S (dom μ) η) ms ds.toList) :
    ∀ (fs : List Field) (b : Bool), (∀ g ∈ fs, g.name ≠ "_") → eqFs Δ f ls ms (fs.map fun g => (g.offset, g.type)) = some b → (Op.eqFields d cs ds fs).run P w = .ok b w
  | [], b, _, h => by
    simp only [List.map_nil, eqFs, Option.some.injEq] at h
    subst h
    rfl
  | g :: fs, b, hn, h => by
    simp only [List.map_cons, eqFs] at h
    split at h
    · rename_i r r' hr hr'
      simp only [Option.bind_eq_some_iff, Option.map_eq_some_iff] at h
      obtain ⟨b1, e1, b2, e2, rfl⟩ := h
      obtain ⟨v, g1, g2⟩ := run_part_cut (P := P) hΔ hr h1
      obtain ⟨v', g3, g4⟩ := run_part_cut (P := P) hΔ hr' h2
      have ih := eqFs_is hΔ hf h1 h2 fs b2 (fun g hg => hn g (by simp [hg])) e2
      have hname : g.name ≠ "_" := hn g (by simp)
      simp only [Op.eqFields, if_pos hname, Sem.run_bind, g1, g3, Result.andThen_ok, hf _ _ _ _ _ _ e1 g2 g4]
      cases b1 with
      | true => simpa using ih
      | false => rfl
    · cases h
theorem eqAt_is (hΔ : TysOk P Δ) : ∀ (n d : Nat) (T : TypeId) (r r' : Reg) (b : Bool) (v v' : Value), n ≤ d → eqAt Δ n T r r' = some b → RegR w S (dom μ) η r v → RegR w S (dom μ) η r' v' → (Op.equalIn d T v v').run P w = .ok b w
  | 0, _, _, _, _, _, _, _, _, h, _, _ => by simp [eqAt] at h
  | n + 1, 0, _, _, _, _, _, _, hd, _, _, _ => by omega
  | n + 1, d + 1, T, r, r', b, v, v', hd, h, hv, hv' => by
    simp only [eqAt] at h
    split at h
    · rename_i fs _ _ _ hg
      split at h
      · rename_i ls ms
        obtain ⟨cs, rfl, h1⟩ := hv
        obtain ⟨ds, rfl, h2⟩ := hv'
        obtain ⟨td, hd1, hd2⟩ := (hΔ T _ hg).und
        obtain ⟨q1, q2, q3⟩ := (hΔ T _ hg).eq fs rfl
        cases td with
        | struct gs =>
          simp only [descOk, beq_iff_eq] at hd2
          have hfo : P.fieldsOf T = gs := by simp [Program.fieldsOf, hd1]
          rw [hfo] at q3
          rw [run_equalIn_struct w d T cs ds (by rw [hfo]; exact hd1) q1, hfo]
          rw [← hd2] at h
          exact eqFs_is hΔ (fun T r r' b v v' g1 g2 g3 => eqAt_is hΔ n d T r r' b v v' (by omega) g1 g2 g3) h1 h2 gs.toList b q3 h
        | _ => simp [descOk] at hd2
      · cases h
    · rename_i k _ _ _ hg; exact eqScal_is hΔ hg h hv hv' d
    · rename_i hg; exact eqScal_is hΔ hg h hv hv' d
    · rename_i hg; exact eqScal_is hΔ hg h hv hv' d
    · cases h
theorem told_binAgg (hM : InvM w0 M S0 μ η S w) (op : BinOp) (T U : TypeId) (x y : Operand) (ho : o.op = .binOp op T x y U) {xa ya : AV}
    (hx : AVR w S (dom μ) η xa (a.eval x)) (hy : AVR w S (dom μ) η ya (a.eval y)) (hΔ : TysOk P Δ) : Told w0 M S0 μ η S P o a w (cBinAgg Δ op T xa ya) := by
  unfold cBinAgg
  split
  · rename_i ls ms gs hk
    obtain ⟨cs, e1, h1⟩ := hx
    obtain ⟨ds, e2, h2⟩ := hy
    have hgd : P.eqGuardType P.depth T = false := by
      unfold kindOf at hk
      cases hg : Δ.get T with
      | none => rw [hg] at hk; simp at hk
      | some i =>
        rw [hg] at hk
        simp only [Option.map_some, Option.some.injEq] at hk
        exact ((hΔ T i hg).eq gs hk).2.1
    split
    · rename_i b heq
      have hr := eqAt_is (P := P) hΔ 8 10000 T _ _ b (.agg cs) (.agg ds) (by omega) heq ⟨cs, rfl, h1⟩ ⟨ds, rfl, h2⟩
      refine told_pure (goes_pure hM ?_ (avr_bool b))
      simp only [execOp, ho, e1, e2, Sem.run_bind, run_eqGuard_agg w _ T x y cs ds hgd, Result.andThen_ok, run_eql_struct w T cs ds, hr]
      rfl
    · rename_i b heq
      have hr := eqAt_is (P := P) hΔ 8 10000 T _ _ b (.agg cs) (.agg ds) (by omega) heq ⟨cs, rfl, h1⟩ ⟨ds, rfl, h2⟩
      refine told_pure (goes_pure hM ?_ (avr_bool (!b)))
      simp only [execOp, ho, e1, e2, Sem.run_bind, run_eqGuard_agg w _ T x y cs ds hgd, Result.andThen_ok, run_neq_struct w T cs ds, hr]
      rfl
    · exact .no
  · exact .no
theorem told_bin (hM : InvM w0 M S0 μ η S w) (op : BinOp) (T U : TypeId) (x y : Operand) (ho : o.op = .binOp op T x y U) {xa ya : AV}
    (hx : AVR w S (dom μ) η xa (a.eval x)) (hy : AVR w S (dom μ) η ya (a.eval y)) (hΔ : TysOk P Δ) :
    Told w0 M S0 μ η S P o a w (cBin Δ op T xa ya) := by
  have hagg : Told w0 M S0 μ η S P o a w (cBinAgg Δ op T xa ya) := told_binAgg hM op T U x y ho hx hy hΔ
  have hex : ∀ v, (∀ cs ds, a.eval x = .agg cs → a.eval y = .agg ds → False) → (a.eval x = .nilIface → False) → (binOp op T (a.eval x) (a.eval y)).run P w = .ok v w → (execOp a.eval o).run P w = .ok (.value v) w := by
    intro v h1 h2 h
    have hg : (eqGuard op T x y (a.eval x) (a.eval y)).run P w = .ok () w := by
      have key : ∀ op : BinOp, (op = .eql ∨ op = .neq) → (eqGuard op T x y (a.eval x) (a.eval y)).run P w = .ok () w := by
        intro op hop
        unfold eqGuard
        rcases hop with rfl | rfl <;>
        · simp only [Bool.not_true, Bool.false_eq_true, if_false]
          split
          · rename_i e _; exact (h2 e).elim
          · rename_i e1 e2; exact (h1 _ _ e1 e2).elim
          · rfl
      cases op <;> first | exact key _ (.inl rfl) | exact key _ (.inr rfl) | rfl
    simp only [execOp, ho, Sem.run_bind, hg, Result.andThen, h]
    rfl
  unfold cBin
  split
  · rename_i k m k' n h1 h2
    have e1 := isInt_is h1 hx
    have e2 := isInt_is h2 hy
    rw [e1, e2] at hex
    have hr := fun v => hex v (fun cs ds h => by cases h) (fun h => by cases h)
    split
    · exact told_binShift hM .shl T k k' m n (.inl rfl) hr
    · exact told_binShift hM .shr T k k' m n (.inr rfl) hr
    · rename_i op' h3 h4
      split
      · rename_i hk; subst hk
        exact told_binInt hM _ T k m n ⟨h3, h4⟩ hr
      · exact .no
  · split
    · rename_i s1 s2 h1 h2
      have e1 := isStr_is h1 hx
      have e2 := isStr_is h2 hy
      rw [e1, e2] at hex
      exact told_binStr hM op T s1 s2 (fun v => hex v (fun cs ds h => by cases h) (fun h => by cases h))
    · split
      · rename_i b1 b2 h1 h2 hk
        have e1 := isBool_is h1 hx
        have e2 := isBool_is h2 hy
        have hT' := tys_bool hΔ hk
        rw [e1, e2] at hex
        exact told_pure (goes_pure hM (hex _ (fun cs ds h => by cases h) (fun h => by cases h) (by simp only [binOp, Sem.run_bind, run_equal_bool _ _ hT', Result.andThen]; rfl)) (avr_bool _))
      · rename_i b1 b2 h1 h2 hk
        have e1 := isBool_is h1 hx
        have e2 := isBool_is h2 hy
        have hT' := tys_bool hΔ hk
        rw [e1, e2] at hex
        exact told_pure (goes_pure hM (hex _ (fun cs ds h => by cases h) (fun h => by cases h) (by simp only [binOp, Sem.run_bind, run_equal_bool _ _ hT', Result.andThen]; rfl)) (avr_bool _))
      · exact hagg

/-! ### other operations that only read -/
theorem told_move (hM : InvM w0 M S0 μ η S w) (x : Operand) (ho : o.op = .move x ∨ o.op = .assign x) {xa : AV} (hx : AVR w S (dom μ) η xa (a.eval x)) :
    Told w0 M S0 μ η S P o a w (pureS xa) :=
  told_pure (goes_pure hM (by rcases ho with ho | ho <;> simp [execOp, ho]) hx)
theorem told_pick (hM : InvM w0 M S0 μ η S w) (c x y : Operand) (ho : o.op = .pick c x y) {ca xa ya : AV} {t : Bool} (hc : AVR w S (dom μ) η ca (a.eval c)) (hct : isBool ca = some t)
    (hx : AVR w S (dom μ) η xa (a.eval x)) (hy : AVR w S (dom μ) η ya (a.eval y)) : Told w0 M S0 μ η S P o a w (.br t ⟨xa, []⟩ ⟨ya, []⟩) := by
  have e := isBool_is hct hc
  refine .br (fun ht => ?_) (fun ht => ?_)
  · subst ht; exact goes_pure hM (by simp [execOp, ho, e, asBool]) hx
  · subst ht; exact goes_pure hM (by simp [execOp, ho, e, asBool]) hy
theorem told_un (hM : InvM w0 M S0 μ η S w) (op : UnOp) (T : TypeId) (x : Operand) (ho : o.op = .unOp op T x) {xa : AV} (hx : AVR w S (dom μ) η xa (a.eval x)) :
    Told w0 M S0 μ η S P o a w (cUn op xa) := by
  unfold cUn
  split
  · rename_i b h
    exact told_pure (goes_pure hM (by simp [execOp, ho, isBool_is h hx, Op.unary]) (avr_bool _))
  · rename_i k n h
    exact told_pure (goes_pure hM (by simp only [execOp, ho, isInt_is h hx, Op.unary, Op.intArith]; rfl) (avr_int k _))
  · exact .no
theorem told_conv (hM : InvM w0 M S0 μ η S w) (hΔ : TysOk P Δ) (s d : TypeId) (x : Operand) (ho : o.op = .convert s d x) (hs : (P.underlying s).isSome = true) {xa : AV} (hx : AVR w S (dom μ) η xa (a.eval x)) :
    Told w0 M S0 μ η S P o a w (cConv Δ d xa) := by
  unfold cConv
  split
  · rename_i k n k' _ _ _ h hg
    obtain ⟨u, hu⟩ := Option.isSome_iff_exists.1 hs
    obtain ⟨u', hu', hk⟩ := (hΔ d _ hg).und
    have : u' = .int k' := by cases u' <;> simp [descOk] at hk; rw [hk]
    subst this
    exact told_pure (goes_pure hM (by simp [execOp, ho, isInt_is h hx, convert, run_underlying hu, run_underlying hu', Conv.intToInt]) (avr_int k' _))
  · exact .no
theorem told_extract (hM : InvM w0 M S0 μ η S w) (x : Operand) (j : Nat) (ho : o.op = .extract x j) {xa : AV} (hx : AVR w S (dom μ) η xa (a.eval x)) :
    Told w0 M S0 μ η S P o a w (cExtract xa j) := by
  unfold cExtract
  split
  · rename_i l
    split
    · rename_i r hr
      obtain ⟨vs, hv, hf⟩ := hx
      obtain ⟨v, hv2, hr2⟩ := hf.get j r hr
      refine told_pure (goes_pure hM ?_ (show AVR w S (dom μ) η (.val r) v from hr2))
      have : vs[j]? = some v := by rw [← Array.getElem?_toList]; exact hv2
      simp [execOp, ho, hv, Instr.extract, this]
    · exact .no
  · exact .no
theorem told_nil (hM : InvM w0 M S0 μ η S w) (x : Operand) (ho : o.op = .nilCheck x) {xa : AV} (hx : AVR w S (dom μ) η xa (a.eval x)) :
    Told w0 M S0 μ η S P o a w (cNil xa) := by
  unfold cNil
  split
  · rename_i id off
    have hx' := hx
    obtain ⟨hd, b, h1, h2⟩ := hx
    exact told_pure (goes_pure hM (v := a.eval x) (by simp [execOp, ho, h2]) hx')
  · rename_i y off
    have hx' := hx
    obtain ⟨b, ofs, cs, h1, _⟩ := hx
    exact told_pure (goes_pure hM (v := a.eval x) (by simp [execOp, ho, h1]) hx')
  · rename_i id sz i off
    have hx' := hx
    obtain ⟨_, _, b, oo, n, c, _, h1⟩ := hx
    exact told_pure (goes_pure hM (v := a.eval x) (by simp [execOp, ho, h1]) hx')
  · exact .no
theorem told_index (hM : InvM w0 M S0 μ η S w) (T : TypeId) (x j : Operand) (ho : o.op = .index T x j) (hT : P.underlying T = some .string) {xa ja : AV} (hx : AVR w S (dom μ) η xa (a.eval x)) (hj : AVR w S (dom μ) η ja (a.eval j)) :
    Told w0 M S0 μ η S P o a w (cIndex xa ja) := by
  unfold cIndex
  split
  · rename_i s k i h1 h2
    refine .ok fun hc => ?_
    obtain ⟨h0, hlt⟩ : 0 ≤ i ∧ i < s.size := hc
    have hin : i.toNat < s.size := by omega
    refine goes_pure hM (v := .int .u8 ((s.data.getD i.toNat 0).toNat)) ?_ (avr_int .u8 _)
    have hb : s[i.toNat]? = some (s[i.toNat]'hin) := by simp [hin]
    have hb2 : s.data.getD i.toNat 0 = s[i.toNat]'hin := by
      have : i.toNat < s.data.size := hin
      unfold Array.getD; rw [dif_pos this]; rfl
    simp [execOp, ho, isStr_is h1 hx, isInt_is h2 hj, Instr.index, asIntOf, run_underlying hT, h0, hb, hb2]
  · exact .no
end
end Go.Ab
