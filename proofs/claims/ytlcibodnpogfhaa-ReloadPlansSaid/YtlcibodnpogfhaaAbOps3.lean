/- One operation at a time ('Ab'): memory that changes: what is left, and what is new. -/
import Derived.Test.YtlcibodnpogfhaaAbOps2
import Derived.Maps.AppendAt
set_option linter.unusedVariables false
set_option linter.unusedSimpArgs false
set_option linter.unnecessarySimpa false
namespace Go.Ab
open Go.RowKit
section
variable {P : Program} {Δ : Tys} {w0 w w' : World} {M S0 S : Nat → Prop} {tm : List AV} {μ μ' : Mu} {η η' : Nat → Value} {a : Act} {o : Oper}

theorem muPut_one (μ : Mu) (id : Nat) (c : Chunk) : muPut μ [(id, c)] = fun i => if i = id then some c else μ i := rfl
theorem dom_put1 {μ : Mu} {id : Nat} {c : Chunk} : ∀ i, dom μ i → dom (fun i => if i = id then some c else μ i) i := by
  intro i hi
  unfold dom at *
  by_cases h : i = id
  · simp [h]
  · simp only [if_neg h]; exact hi
theorem dom_put : ∀ (l : Mem) {μ : Mu} (i : Nat), dom μ i → dom (muPut μ l) i
  | [], _, _, h => h
  | _ :: l, _, i, h => dom_put l i (dom_put1 i h)
theorem Frame0.alloc {w0 w : World} {M : Nat → Prop} (h : Frame0 M w0 w) (ob : Obj) : Frame0 M w0 (w.alloc ob) :=
  ⟨h.os, h.tape, h.output, Nat.le_trans h.size (by simp), fun k hk hm => (Below.heap_alloc w ob k (Nat.lt_of_lt_of_le hk h.size)).trans (h.block k hk hm)⟩
/-- A live chunk's block: it is there; not among those that are read; of the call's own, or of those that it may write. -/
theorem live_blk {id : Nat} {c : Chunk} (hM : InvM w0 M S0 μ η S w) (hid : μ id = some c) (hl : c.live = true) {k : Nat} (hk : blk (η id) = some k) : k < w.heap.size ∧ ¬ S k ∧ (w0.heap.size ≤ k ∨ M k) := by
  have h := hM.chunk id c hid
  match c, h, hl with
  | .box ls, ⟨b, T, cs, h1, h2, _, _, h5, h6⟩, _ =>
    have : b = k := by simpa [h1, blk] using hk
    subst this
    exact ⟨(Array.getElem?_eq_some_iff.1 h2).1, h5, h6⟩
  | .rows e t xs false, ⟨cells, h1, _, h3⟩, _ =>
    refine ⟨?_, h3 k hk⟩
    rcases h1.2 with ⟨hh, _⟩ | ⟨g, cap, cur, hh, _, hg, _⟩
    · simp [hh, blk] at hk
    · have : g = k := by simpa [hh, blk] using hk
      subst this
      exact (Array.getElem?_eq_some_iff.1 hg).1
/-- Memory behind a change: old chunks whose blocks stay, and new ones apart from all others. -/
theorem inv_upd (hM : InvM w0 M S0 μ η S w) (hfr : Frame0 M w0 w') (hsz : w.heap.size ≤ w'.heap.size) (hst : Stay w w' S S (dom μ) (dom μ') η η')
    (hc : ∀ i c, μ' i = some c → (μ i = some c ∧ (c.live = true → ∀ k, blk (η i) = some k → w'.heap[k]? = w.heap[k]?)) ∨
      (ChunkR w' S (dom μ') η' w0.heap.size M i c ∧ (c.live = true → ∀ k, blk (η' i) = some k → ∀ j cj, j ≠ i → μ' j = some cj → cj.live = true → blk (η' j) ≠ some k))) :
    InvM w0 M S0 μ' η' S w' := by
  refine ⟨hfr, hM.sub, fun b hb => Nat.lt_of_lt_of_le (hM.lt b hb) hsz, hM.from_, fun i c hi => ?_, fun i j ci cj k hi hj hli hlj hij hki hkj => ?_⟩
  · rcases hc i c hi with ⟨h1, h2⟩ | ⟨h1, _⟩
    · exact ChunkR_stay hst (show dom μ i by simp [dom, h1]) h2 (fun hl k hk => (live_blk hM h1 hl hk).2.1) (hM.chunk i c h1)
    · exact h1
  · rcases hc i ci hi with ⟨h1, _⟩ | ⟨_, h1⟩
    · rcases hc j cj hj with ⟨h2, _⟩ | ⟨_, h2⟩
      · rw [hst.η i (by simp [dom, h1])] at hki
        rw [hst.η j (by simp [dom, h2])] at hkj
        exact hM.apart i j ci cj k h1 h2 hli hlj hij hki hkj
      · exact h2 hlj k hkj i ci hij hi hli hki
    · exact h1 hli k hki j cj (Ne.symm hij) hj hlj hkj
/-- A new variable, or a new row. -/
theorem inv_new (hM : InvM w0 M S0 μ η S w) {new : Nat} (hnew : μ new = none) (hfr : Frame0 M w0 w') (hsz : w.heap.size ≤ w'.heap.size) (hold : ∀ k, k < w.heap.size → w'.heap[k]? = w.heap[k]?)
    {c : Chunk} {v : Value} (hblk : ∀ k, blk v = some k → w.heap.size ≤ k)
    (hc : ∀ η' Dm', Stay w w' S S (dom μ) Dm' η η' → η' new = v → ChunkR w' S Dm' η' w0.heap.size M new c) :
    ∃ η', η' new = v ∧ InvM w0 M S0 (muPut μ [(new, c)]) η' S w' ∧ Stay w w' S S (dom μ) (dom (muPut μ [(new, c)])) η η' := by
  let η' : Nat → Value := fun i => if i = new then v else η i
  have hne : ∀ i, dom μ i → i ≠ new := fun i hi e => by subst e; simp [dom, hnew] at hi
  have hst : Stay w w' S S (dom μ) (dom (muPut μ [(new, c)])) η η' :=
    ⟨fun _ h => h, fun b hb => hold b (hM.lt b hb), dom_put _, fun i hi => by simp [η', hne i hi]⟩
  refine ⟨η', by simp [η'], inv_upd hM hfr hsz hst fun i ci hi => ?_, hst⟩
  rw [muPut_one] at hi
  by_cases he : i = new
  · subst he
    simp only [if_true, Option.some.injEq] at hi
    subst hi
    refine .inr ⟨hc η' _ hst (by simp [η']), fun _ k hk j cj hj hcj hlj hkj => ?_⟩
    rw [muPut_one] at hcj
    simp only [if_neg hj] at hcj
    simp only [η', if_neg hj] at hkj
    simp only [η', if_true] at hk
    have h1 := (live_blk hM hcj hlj hkj).1
    have h2 := hblk k hk
    omega
  · simp only [if_neg he] at hi
    exact .inl ⟨hi, fun hl k hk => hold k (live_blk hM hi hl hk).1⟩
theorem inv_alloc (hM : InvM w0 M S0 μ η S w) {new : Nat} (hnew : μ new = none) {ls : List Leaf} {cs : Array Value} {T : TypeId} (hf : F2 (LR w S (dom μ) η) ls cs.toList) (hp : ls.all plainLeaf = true) :
    After w0 M S0 μ η S w ⟨lv (.ptr new 0), [(new, .box ls)]⟩ (.pointer (some ⟨w.heap.size, 0, none⟩)) (w.alloc (.cells cs T)) := by
  have hnS : ¬ S w.heap.size := fun h => Nat.lt_irrefl _ (hM.lt _ h)
  obtain ⟨η', h1, h2, h3⟩ := inv_new hM hnew (c := .box ls) (hM.frame.alloc (.cells cs T)) (by simp) (fun k hk => Below.heap_alloc w _ k hk) (v := .pointer (some ⟨w.heap.size, 0, none⟩))
    (fun k hk => by simp [blk] at hk; omega)
    (fun η' Dm' hst hv => ⟨w.heap.size, T, cs, hv, heap_alloc_new w _, hf.imp fun _ _ => LR_stay hst, hp, hnS, .inl hM.frame.size⟩)
  exact ⟨η', S, h2, h3, by simp [dom, muPut_one], w.heap.size, h1, rfl⟩
/-- A row of the call's own that holds nothing yet. -/
theorem inv_empty (hM : InvM w0 M S0 μ η S w) {new : Nat} (hnew : μ new = none) (e : TypeId) (t : Ty) :
    After w0 M S0 μ η S w ⟨lv (.own new), [(new, .rows e t [] false)]⟩ (.slice none 0 0) w := by
  obtain ⟨η', h1, h2, h3⟩ := inv_new hM hnew (c := .rows e t [] false) hM.frame (Nat.le_refl _) (fun k hk => rfl) (v := .slice none 0 0) (fun k hk => by simp [blk] at hk)
    (fun η' Dm' hst hv => ⟨[], by rw [hv]; exact World.ownsRow_nil w 0 e t.size, ⟨[], rfl, .nil⟩, fun k hk => by rw [hv] at hk; simp [blk] at hk⟩)
  exact ⟨η', S, h2, h3, by simp [dom, muPut_one], h1.symm, rfl⟩
theorem plain_one {l : Leaf} {v : Value} (hl : plainLeaf l = true) (h : LR w S (dom μ) η l v) : v.oneCell' = true := by
  cases l with
  | dat x => exact CR_one h v (by simp)
  | own id => exact h.2.2
  | ptr id off => obtain ⟨_, b, _, rfl⟩ := h; rfl
  | elt id sz i off => obtain ⟨_, _, b, oo, n, c, _, rfl⟩ := h; rfl
  | dpt x off => obtain ⟨b, oo, cs, rfl, _⟩ := h; rfl
  | cl x => exact CR_one h.1 v (by simp)
  | kn x b => exact CR_one h.1 v (by simp)
  | nils => simp [plainLeaf] at hl
  | nilp => have h : v = _ := h; subst h; rfl
  | fn f caps => have h2 := h.2; subst h2; rfl
  | sub id sz lo hi pre => obtain ⟨_, _, _, A, n, c, A', c', _, _, rfl, _⟩ := h; rfl
  | any => simp [plainLeaf] at hl
theorem cells_one {v : Value} (h : v.oneCell' = true) : v.cells = #[v] := by
  cases v <;> simp [Value.oneCell'] at h <;> rfl
theorem told_movenil (hM : InvM w0 M S0 μ η S w) {new : Nat} (hnew : μ new = none) (x : Operand) (ho : o.op = .move x ∨ o.op = .assign x) {xa : AV} (hx : AVR w S (dom μ) η xa (a.eval x)) :
    Told w0 M S0 μ η S P o a w (cMove Δ new o.type xa) := by
  unfold cMove
  split
  · split
    · have hv : a.eval x = .slice none 0 0 := hx
      exact .ok fun _ => goes_value (by rcases ho with ho | ho <;> simp [execOp, ho, hv]) (inv_empty hM hnew _ _)
    · split
      · rename_i t _
        have hv : a.eval x = .slice none 0 0 := hx
        refine told_move hM x ho (xa := lv (.dat ⟨.slice t, []⟩)) ?_
        show CR w S (.slice t) [a.eval x] []
        rw [hv]
        exact ⟨none, 0, rfl, Nat.le_refl _, by decide, fun i x hx => by simp at hx⟩
      · exact .no
    · exact .no
  · exact told_move hM x ho hx
theorem isReg_is {xa : AV} {r : Reg} (h : isReg xa = some r) : xa = .val r := by
  unfold isReg at h
  split at h
  · simp only [Option.some.injEq] at h; rw [h]
  · cases h
theorem told_box (hM : InvM w0 M S0 μ η S w) {new : Nat} (hnew : μ new = none) (T : TypeId) (x : Operand) (ho : o.op = .box T x) {xa : AV} (hx : AVR w S (dom μ) η xa (a.eval x)) :
    Told w0 M S0 μ η S P o a w (cBox new xa) := by
  have hexec : (execOp a.eval o).run P w = .ok (.value (.pointer (some ⟨w.heap.size, 0, none⟩))) (w.alloc (.cells (a.eval x).cells T)) := by
    simp [execOp, ho, Instr.box, newVar, newRow]
  unfold cBox
  split
  · rename_i ls h1
    rw [isReg_is h1] at hx
    split
    · rename_i hp
      obtain ⟨cs, hv, hf⟩ := hx
      refine .ok fun _ => goes_value hexec ?_
      rw [hv]
      exact inv_alloc hM hnew hf hp
    · exact .no
  · rename_i l h1
    rw [isReg_is h1] at hx
    split
    · rename_i hp
      have hx1 : LR w S (dom μ) η l (a.eval x) := hx
      refine .ok fun _ => goes_value hexec ?_
      rw [cells_one (plain_one hp hx1)]
      exact inv_alloc hM hnew (.cons hx1 .nil) (by simp [hp])
    · exact .no
  · exact .no
/-- A register's leaves, and its cells. -/
theorem regLeaves_is {r : Reg} {ls : List Leaf} (h : regLeaves r = some ls) (hp : ls.all plainLeaf = true) {v : Value} (hv : RegR w S (dom μ) η r v) : F2 (LR w S (dom μ) η) ls v.cells.toList := by
  unfold regLeaves at h
  split at h
  · simp only [Option.some.injEq] at h; subst h
    obtain ⟨cs, rfl, hf⟩ := hv
    exact hf
  · simp only [Option.some.injEq] at h; subst h
    have hv1 : LR w S (dom μ) η _ v := hv
    rw [cells_one (plain_one (by simpa using hp) hv1)]
    exact .cons hv1 .nil
  · cases h
theorem plains_one {ls : List Leaf} {cs : List Value} (hp : ls.all plainLeaf = true) (h : F2 (LR w S (dom μ) η) ls cs) : ∀ v ∈ cs, v.oneCell' = true := by
  intro v hv
  obtain ⟨i, hi⟩ := List.getElem?_of_mem hv
  obtain ⟨l, hl, hr⟩ := h.get' i v hi
  exact plain_one (List.all_eq_true.1 hp l (List.mem_of_getElem? hl)) hr
theorem Frame0.setRow {w0 w : World} {M : Nat → Prop} (h : Frame0 M w0 w) (b : Nat) (cs : Array Value) (hb : w0.heap.size ≤ b ∨ M b) : Frame0 M w0 (w.setRow b cs) :=
  ⟨h.os, h.tape, h.output, by simpa using h.size, fun k hk hm => by
    rw [setRow_other w b k cs (fun e => by subst e; rcases hb with hb | hb; omega; exact hm hb)]
    exact h.block k hk hm⟩
/-! ### lengths, the lesser, the greater -/
/-- A row's header. -/
theorem rows_head (hM : InvM w0 M S0 μ η S w) {id : Nat} {e : TypeId} {t : Ty} {xs : List t.den} {f : Bool} (hid : μ id = some (.rows e t xs f)) : ∃ A c, η id = .slice A xs.length c := by
  have hch := hM.chunk id _ hid
  cases f with
  | true =>
    obtain ⟨A, c, h1, _⟩ := hch
    simp only [List.cons.injEq, and_true] at h1
    exact ⟨A, c, h1⟩
  | false =>
    obtain ⟨cells, hown, _⟩ := hch
    rcases hown.2 with ⟨h1, h2⟩ | ⟨g, cap, cur, h1, _⟩
    · exact ⟨none, 0, by rw [h1, h2]⟩
    · exact ⟨_, cap, h1⟩
theorem sliceOf_len (hM : InvM w0 M S0 μ η S w) {l : Leaf} {t : Ty} {xs : List t.den} (h : sliceOf μ l = some ⟨.slice t, xs⟩) {v : Value} (hv : LR w S (dom μ) η l v) : ∃ A c, v = .slice A xs.length c := by
  unfold sliceOf at h
  split at h
  · rename_i t' xs'
    simp only [Option.some.injEq, D.mk.injEq, Ty.slice.injEq] at h
    obtain ⟨rfl, h⟩ := h
    have := eq_of_heq h
    subst this
    obtain ⟨A, c, h1, _⟩ := hv
    simp only [List.cons.injEq, and_true] at h1
    exact ⟨A, c, h1⟩
  · rename_i t' xs'
    simp only [Option.some.injEq, D.mk.injEq, Ty.slice.injEq] at h
    obtain ⟨rfl, h⟩ := h
    have := eq_of_heq h
    subst this
    obtain ⟨A, c, h1, _⟩ := hv.1
    simp only [List.cons.injEq, and_true] at h1
    exact ⟨A, c, h1⟩
  · rename_i t' xs' _
    simp only [Option.some.injEq, D.mk.injEq, Ty.slice.injEq] at h
    obtain ⟨rfl, h⟩ := h
    have := eq_of_heq h
    subst this
    obtain ⟨A, c, h1, _⟩ := hv.1
    simp only [List.cons.injEq, and_true] at h1
    exact ⟨A, c, h1⟩
  · rename_i id
    split at h
    · rename_i e t' xs' fz hid
      simp only [Option.some.injEq, D.mk.injEq, Ty.slice.injEq] at h
      obtain ⟨rfl, h⟩ := h
      have := eq_of_heq h
      subst this
      have hch := hM.chunk id _ hid
      rw [hv.2.1]
      cases fz with
      | true =>
        obtain ⟨A, c, h1, _⟩ := hch
        simp only [List.cons.injEq, and_true] at h1
        exact ⟨A, c, h1⟩
      | false =>
        obtain ⟨cells, hown, _⟩ := hch
        rcases hown.2 with ⟨h1, h2⟩ | ⟨g, cap, cur, h1, _⟩
        · exact ⟨none, 0, by rw [h1, h2]⟩
        · exact ⟨_, cap, h1⟩
    · cases h
  · rename_i id sz lo hi _
    split at h
    · rename_i e t' xs' fz hid
      split at h
      · simp only [Option.some.injEq, D.mk.injEq, Ty.slice.injEq] at h
        obtain ⟨rfl, h⟩ := h
        have := eq_of_heq h
        subst this
        obtain ⟨A, c, h1⟩ := rows_head hM hid
        obtain ⟨_, h0, hlh, A2, n, c2, A', c', e1, e2, e3, _⟩ := hv
        rw [h1] at e1
        simp only [Value.slice.injEq] at e1
        obtain ⟨_, e4, _⟩ := e1
        refine ⟨A', c', ?_⟩
        rw [e3]
        simp only [List.length_drop, List.length_take]
        congr 1
        omega
      · cases h
    · cases h
  · cases h
theorem tys_str (hΔ : TysOk P Δ) {T : TypeId} {s b : Nat} {ty : Option Ty} (h : Δ.get T = some ⟨.str, s, b, ty⟩) : P.underlying T = some .string := by
  obtain ⟨d, hd, hk⟩ := (hΔ T _ h).und
  cases d <;> simp [descOk] at hk
  exact hd
theorem told_len (hM : InvM w0 M S0 μ η S w) (hΔ : TysOk P Δ) (T : TypeId) (x : Operand) (c : Call) (ho : o.op = .call c) (hc : c.callee = .builtin .len) (ha : c.args = #[x]) (hT : c.argTypes = #[T])
    {xa : AV} (hx : AVR w S (dom μ) η xa (a.eval x)) : Told w0 M S0 μ η S P o a w (cLen Δ μ T xa) := by
  have hexec : ∀ n : Int, (Builtin.len_ #[T] o.type #[a.eval x]).run P w = .ok (goInt n) w → (execOp a.eval o).run P w = .ok (.value (.int .i64 n)) w := by
    intro n h
    simp [execOp, ho, resolve, hc, ha, hT, invoke, builtin, h, goInt]
  unfold cLen
  split
  · rename_i hTs
    split
    · rename_i s hs
      refine told_pure (goes_pure hM (hexec s.size ?_) (avr_int .i64 _))
      simp [Builtin.len_, run_underlying (tys_str hΔ hTs), isStr_is hs hx, goInt]
    · exact .no
  · rename_i e _ _ _ l hTs
    split
    · rename_i t xs hsl
      obtain ⟨A, cp, hv⟩ := sliceOf_len hM hsl hx
      refine told_pure (goes_pure hM (hexec xs.length ?_) (avr_int .i64 _))
      simp [Builtin.len_, run_underlying (tys_slice hΔ hTs), hv, goInt]
    · exact .no
  · exact .no
theorem told_min (hM : InvM w0 M S0 μ η S w) (c : Call) (ho : o.op = .call c) (hc : c.callee = .builtin .min) {ρ : Operand → AV} (hρ : ∀ x, AVR w S (dom μ) η (ρ x) (a.eval x)) :
    Told w0 M S0 μ η S P o a w (cMinMax minK (c.args.toList.map ρ)) := by
  obtain ⟨cal, ⟨args⟩, tys⟩ := c
  simp only at hc
  subst hc
  match args with
  | [] => exact .no
  | [x] => exact .no
  | [x, y] =>
    simp only [List.map_cons, List.map_nil, cMinMax]
    split
    · rename_i k m k' n h1 h2
      refine told_pure (goes_pure hM ?_ (avr_int k _))
      simp [execOp, ho, resolve, invoke, builtin, Builtin.min_, isInt_is h1 (hρ x), isInt_is h2 (hρ y), Builtin.min2, minK]
    · exact .no
  | [x, y, z] =>
    simp only [List.map_cons, List.map_nil, cMinMax]
    split
    · rename_i k m k' n k'' q h1 h2 h3
      refine told_pure (goes_pure hM ?_ (avr_int k _))
      simp [execOp, ho, resolve, invoke, builtin, Builtin.min_, isInt_is h1 (hρ x), isInt_is h2 (hρ y), isInt_is h3 (hρ z), Builtin.min2, minK]
      rfl
    · exact .no
  | _ :: _ :: _ :: _ :: _ => exact .no
theorem told_max (hM : InvM w0 M S0 μ η S w) (c : Call) (ho : o.op = .call c) (hc : c.callee = .builtin .max) {ρ : Operand → AV} (hρ : ∀ x, AVR w S (dom μ) η (ρ x) (a.eval x)) :
    Told w0 M S0 μ η S P o a w (cMinMax maxK (c.args.toList.map ρ)) := by
  obtain ⟨cal, ⟨args⟩, tys⟩ := c
  simp only at hc
  subst hc
  match args with
  | [] => exact .no
  | [x] => exact .no
  | [x, y] =>
    simp only [List.map_cons, List.map_nil, cMinMax]
    split
    · rename_i k m k' n h1 h2
      refine told_pure (goes_pure hM ?_ (avr_int k _))
      simp [execOp, ho, resolve, invoke, builtin, Builtin.max_, isInt_is h1 (hρ x), isInt_is h2 (hρ y), Builtin.max2, maxK]
    · exact .no
  | [x, y, z] =>
    simp only [List.map_cons, List.map_nil, cMinMax]
    split
    · rename_i k m k' n k'' q h1 h2 h3
      refine told_pure (goes_pure hM ?_ (avr_int k _))
      simp [execOp, ho, resolve, invoke, builtin, Builtin.max_, isInt_is h1 (hρ x), isInt_is h2 (hρ y), isInt_is h3 (hρ z), Builtin.max2, maxK]
      rfl
    · exact .no
  | _ :: _ :: _ :: _ :: _ => exact .no
end
end Go.Ab
