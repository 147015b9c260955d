/- One operation at a time ('Ab'): structs, arrays and rows that are put together or made. -/
import Derived.Test.YtlcibodnpogfhaaAbCall3
import Derived.Laws.Tables
import Derived.Laws.MakeOwn
import Derived.Laws.OwnMore
import Derived.Great.BuildSlice
set_option linter.unusedVariables false
set_option linter.unusedSimpArgs false
set_option linter.unnecessarySimpa false
namespace Go.Ab
open Go.RowKit
section
variable {P : Program} {Δ : Tys} {w0 w w' : World} {M S0 S : Nat → Prop} {tm : List AV} {μ μ' : Mu} {η η' : Nat → Value} {a : Act} {o : Oper}

/-! ### cells that are set one by one -/
theorem fold_set (off : Nat) : ∀ (vs : List Value) (k : Nat) (cs : Array Value), off + k + vs.length ≤ cs.size →
    ((vs.zipIdx k).foldl (fun cs p => cs.setIfInBounds (off + p.2) p.1) cs).toList = cs.toList.take (off + k) ++ vs ++ cs.toList.drop (off + k + vs.length)
  | [], k, cs, _ => by simp
  | v :: vs, k, cs, h => by
    simp only [List.length_cons] at h
    rw [List.zipIdx_cons, List.foldl_cons]
    rw [fold_set off vs (k + 1) (cs.setIfInBounds (off + k) v) (by simp; omega)]
    apply List.ext_getElem?
    intro i
    simp only [Array.toList_setIfInBounds, List.getElem?_append, List.length_append, List.length_take, List.getElem?_take, List.getElem?_drop, List.getElem?_set, List.length_set, List.length_cons, Array.length_toList]
    have hlen : off + k < cs.size := by omega
    by_cases h1 : i < off + k
    · have a1 : i < min (off + (k + 1)) cs.size := by omega
      have a2 : i < min (off + k) cs.size := by omega
      have a3 : i < min (off + (k + 1)) cs.size + vs.length := by omega
      have a4 : i < min (off + k) cs.size + (vs.length + 1) := by omega
      have a5 : i < off + (k + 1) := by omega
      have a6 : ¬ off + k = i := by omega
      simp [a1, a2, a3, a4, a5, a6, h1]
    · by_cases h2 : i = off + k
      · subst h2
        have a1 : off + k < min (off + (k + 1)) cs.size := by omega
        have a3 : off + k < min (off + (k + 1)) cs.size + vs.length := by omega
        have a2 : ¬ off + k < min (off + k) cs.size := by omega
        have a4 : off + k < min (off + k) cs.size + (vs.length + 1) := by omega
        have a5 : off + k < off + (k + 1) := by omega
        have a6 : off + k - min (off + k) cs.size = 0 := by omega
        simp [a1, a2, a3, a4, a5, a6, hlen]
      · by_cases h3 : i < off + k + (vs.length + 1)
        · have a1 : ¬ i < min (off + (k + 1)) cs.size := by omega
          have a3 : i < min (off + (k + 1)) cs.size + vs.length := by omega
          have a2 : ¬ i < min (off + k) cs.size := by omega
          have a4 : i < min (off + k) cs.size + (vs.length + 1) := by omega
          have a6 : i - min (off + k) cs.size = (i - min (off + (k + 1)) cs.size) + 1 := by omega
          simp [a1, a2, a3, a4, a6]
        · have a3 : ¬ i < min (off + (k + 1)) cs.size + vs.length := by omega
          have a4 : ¬ i < min (off + k) cs.size + (vs.length + 1) := by omega
          have a5 : ¬ (off + k = off + k + (vs.length + 1) + (i - (min (off + k) cs.size + (vs.length + 1)))) := by omega
          have a6 : off + (k + 1) + vs.length + (i - (min (off + (k + 1)) cs.size + vs.length)) = off + k + (vs.length + 1) + (i - (min (off + k) cs.size + (vs.length + 1))) := by omega
          simp only [a3, a4, if_false, a6, if_neg a5]
theorem set_cells (off : Nat) (v cs : Array Value) (h : off + v.size ≤ cs.size) :
    (v.zipIdx.foldl (fun cs (p : Value × Nat) => cs.setIfInBounds (off + p.2) p.1) cs).toList = cs.toList.take off ++ v.toList ++ cs.toList.drop (off + v.toList.length) := by
  rw [← Array.foldl_toList, Array.toList_zipIdx]
  have := fold_set off v.toList 0 cs (by simpa using h)
  simpa using this
theorem fill_step (place : Nat → Option (Nat × Nat)) (cs : Array Value) (i : Nat) (v : Value) (rest : List (Nat × Value)) (off size : Nat) (hp : place i = some (off, size)) (hs : v.cells.size = size) (hle : off + v.cells.size ≤ cs.size) :
    ∃ cs' : Array Value, cs'.toList = cs.toList.take off ++ v.cells.toList ++ cs.toList.drop (off + v.cells.toList.length) ∧ Instr.fill place cs ((i, v) :: rest) = Instr.fill place cs' rest := by
  refine ⟨v.cells.zipIdx.foldl (fun cs (p : Value × Nat) => cs.setIfInBounds (off + p.2) p.1) cs, set_cells off v.cells cs hle, ?_⟩
  simp only [Instr.fill, hp]
  have : ¬ (v.cells.size ≠ size ∨ off + v.cells.size > cs.size) := by omega
  have h2 : (decide (v.cells.size ≠ size) || decide (off + v.cells.size > cs.size)) = false := by simpa using this
  simp only [h2]
  rfl

/-! ### structs and arrays -/
theorem partLeaves_is {T : TypeId} {v : AV} {vs : List Leaf} (h : partLeaves Δ T v = some vs) (hp : vs.all plainLeaf = true) {x : Value} (hx : AVR w S (dom μ) η v x) : F2 (LR w S (dom μ) η) vs x.cells.toList := by
  unfold partLeaves at h
  split at h
  · split at h
    · rename_i t _
      simp only [Option.some.injEq] at h
      subst h
      have hx : x = .slice none 0 0 := hx
      subst hx
      refine .cons ?_ .nil
      exact ⟨none, 0, rfl, Nat.le_refl _, by decide, fun i y hy => by simp at hy⟩
    · cases h
  · simp only [Option.bind_eq_some_iff] at h
    obtain ⟨r, h1, h2⟩ := h
    rw [isReg_is h1] at hx
    exact regLeaves_is h2 hp hx
theorem fillA_is {place : Nat → Option (Nat × Nat)} {T : TypeId} (hplace : ∀ i off size T', placeOf Δ T i = some (off, size, T') → place i = some (off, size)) :
    ∀ {ps : List (Nat × AV)} {ls ls' : List Leaf} {cs : Array Value} {xs : List (Nat × Value)} (_ : fillA Δ T ls ps = some ls') (_ : F2 (LR w S (dom μ) η) ls cs.toList) (_ : F2 (fun (p : Nat × AV) (q : Nat × Value) => p.1 = q.1 ∧ AVR w S (dom μ) η p.2 q.2) ps xs),
      ∃ cs', Instr.fill place cs xs = some cs' ∧ F2 (LR w S (dom μ) η) ls' cs'.toList
  | [], ls, ls', cs, xs, h, hf, hx => by
    simp only [fillA, Option.some.injEq] at h
    subst h
    cases hx
    exact ⟨cs, rfl, hf⟩
  | (i, v) :: ps, ls, ls', cs, (i', x) :: xs, h, hf, .cons hx hxs => by
    obtain ⟨hi, hv⟩ := hx
    simp only at hi
    subst hi
    simp only [fillA] at h
    split at h
    · rename_i off size T' hpl
      split at h
      · rename_i vs hvs
        split at h
        · rename_i hc
          obtain ⟨h1, h2, h3⟩ := hc
          have hfv := partLeaves_is hvs h3 hv
          have hl1 : vs.length = x.cells.size := by rw [hfv.length]; exact Array.length_toList
          have hl2 : ls.length = cs.size := by rw [hf.length]; exact Array.length_toList
          obtain ⟨cs1, e1, e2⟩ := fill_step place cs i x xs off size (hplace i off size T' hpl) (by omega) (by omega)
          have hf1 : F2 (LR w S (dom μ) η) (splice ls off vs) cs1.toList := by
            rw [e1, splice, hl1, Array.length_toList]
            exact ((hf.take off).append hfv).append (hf.drop _)
          obtain ⟨cs2, g1, g2⟩ := fillA_is hplace h hf1 hxs
          exact ⟨cs2, by rw [e2]; exact g1, g2⟩
        · cases h
      · cases h
    · cases h
theorem parts_avr {ρ : Operand → AV} (hρ : ∀ x, AVR w S (dom μ) η (ρ x) (a.eval x)) : ∀ (ps : List (Nat × Operand)), F2 (fun (p : Nat × AV) (q : Nat × Value) => p.1 = q.1 ∧ AVR w S (dom μ) η p.2 q.2) (ps.map fun p => (p.1, ρ p.2)) (ps.map fun p => (p.1, a.eval p.2))
  | [] => .nil
  | p :: ps => .cons ⟨rfl, hρ p.2⟩ (parts_avr hρ ps)
theorem mapM_info (hΔ : TysOk P Δ) : ∀ (fs : List Field), (∀ f ∈ fs, (Δ.get f.type).isSome = true) → fs.mapM (fun f => (P.info? f.type).map fun i => (f.offset, i.size)) = some (fs.map fun f => (f.offset, ((Δ.get f.type).map TI.size).getD 0))
  | [], _ => rfl
  | f :: fs, h => by
    obtain ⟨i, hi⟩ := Option.isSome_iff_exists.1 (h f (by simp))
    obtain ⟨inf, h1, h2, _⟩ := (hΔ f.type i hi).size
    simp [List.mapM_cons, h1, mapM_info hΔ fs fun g hg => h g (by simp [hg]), hi, h2]
/-! ### zero values -/
theorem zeros_parts (w : World) (S : Nat → Prop) : ∀ t : Ty, F2 (fun (x : D) v => CR w S x.t [v] x.d ∧ ∀ t', x.t = .slice t' → v = .slice none 0 0) (parts t t.dflt) t.zeros
  | .int k => .cons ⟨rfl, fun t' h => by cases h⟩ .nil
  | .bool => .cons ⟨rfl, fun t' h => by cases h⟩ .nil
  | .str => .cons ⟨rfl, fun t' h => by cases h⟩ .nil
  | .slice t => .cons ⟨CR_zero w S (.slice t), fun t' h => rfl⟩ .nil
  | .pair a b => F2.append (zeros_parts w S a) (zeros_parts w S b)
  | .unit => .nil
theorem zeroPart_is {f : Option TypeId} {x : D} {v : Value} {ok : Nat → Prop} (h : CR w S x.t [v] x.d) (hn : ∀ t', x.t = .slice t' → v = .slice none 0 0) : PartR w S ok (zeroPart f x) v ∧ blk v = none ∨ (zeroPart f x = (none, x)) := by
  unfold zeroPart
  split
  · rename_i e t
    have := hn t rfl
    subst this
    exact .inl ⟨⟨[], World.ownsRow_nil w 0 e t.size, ⟨[], rfl, .nil⟩, fun k hk => by simp [blk] at hk⟩, rfl⟩
  · exact .inr rfl
theorem zipZero_is {ok : Nat → Prop} : ∀ {fs : List (Option TypeId)} {xs : List D} {vs : List Value}, F2 (fun (x : D) v => CR w S x.t [v] x.d ∧ ∀ t', x.t = .slice t' → v = .slice none 0 0) xs vs → F2 (PartR w S ok) (zipZero fs xs) vs ∧ ownBlks (zipZero fs xs) vs = []
  | [], [], _, .nil => ⟨.nil, rfl⟩
  | _ :: _, [], _, .nil => ⟨.nil, rfl⟩
  | [], x :: xs, v :: vs, .cons h1 h2 => by
    obtain ⟨g1, g2⟩ := zipZero_is (fs := []) (ok := ok) h2
    exact ⟨.cons h1.1 g1, g2⟩
  | f :: fs, x :: xs, v :: vs, .cons h1 h2 => by
    obtain ⟨g1, g2⟩ := zipZero_is (fs := fs) (ok := ok) h2
    have e : zipZero (f :: fs) (x :: xs) = zeroPart f x :: zipZero fs xs := rfl
    rw [e]
    rcases zeroPart_is (f := f) (ok := ok) h1.1 h1.2 with ⟨h3, h4⟩ | h3
    · refine ⟨.cons h3 g1, ?_⟩
      rw [ownBlks_cons, g2, List.append_nil]
      obtain ⟨o, y⟩ := zeroPart f x
      cases o <;> simp [ownBlks, h4]
    · rw [h3]
      exact ⟨.cons h1.1 g1, g2⟩
theorem after_add {mem : Mem} {m N : Nat} {bs : List Nat} {η1 : Nat → Value} {e : AV} {wr : Mem} {v : Value} (a1 : Added w0 M S0 S w μ η mem m N bs η1) (h : After w0 M S0 (muPut μ mem) η1 S w ⟨e, wr⟩ v w') : After w0 M S0 μ η S w ⟨e, mem ++ wr⟩ v w' := by
  obtain ⟨η', S', h1, h2, h3⟩ := h
  refine ⟨η', S', ?_, ?_, ?_⟩
  · show InvM w0 M S0 (muPut μ (mem ++ wr)) η' S' w'
    rw [muPut_append]; exact h1
  · show Stay w w' S S' (dom μ) (dom (muPut μ (mem ++ wr))) η η'
    rw [muPut_append]; exact a1.stay.trans h2
  · show AVR w' S' (dom (muPut μ (mem ++ wr))) η' e v
    rw [muPut_append]; exact h3
theorem zero_added (hM : InvM w0 M S0 μ η S w) {new : Nat} (hfree : ∀ i, new ≤ i → i < new + 16 → μ i = none) {fs : List (Option TypeId)} {t : Ty} (hle : Nat.ble (backs new (zipZero fs (parts t t.dflt))).2.2 (new + 15) = true) :
    ∃ η1, Added w0 M S0 S w μ η (backs new (zipZero fs (parts t t.dflt))).2.1 (backs new (zipZero fs (parts t t.dflt))).2.2 (new + 16) [] η1 ∧ F2 (LR w S (dom (muPut μ (backs new (zipZero fs (parts t t.dflt))).2.1)) η1) (backs new (zipZero fs (parts t t.dflt))).1 t.zeros := by
  have hle := Nat.le_of_ble_eq_true hle
  obtain ⟨g1, g2⟩ := zipZero_is (fs := fs) (ok := fun k => w0.heap.size ≤ k ∨ M k) (zeros_parts w S t)
  obtain ⟨η1, a1, r1⟩ := add_parts (N := new + 16) hM hfree (by omega) g1 (by rw [g2]; exact .nil) (fun k hk => by rw [g2] at hk; simp at hk)
  rw [g2] at a1
  exact ⟨η1, a1, r1⟩
theorem told_alloc (hM : InvM w0 M S0 μ η S w) (hΔ : TysOk P Δ) {new : Nat} (hfree : ∀ i, new ≤ i → i < new + 16 → μ i = none) (T : TypeId) (ho : o.op = .alloc T) :
    Told w0 M S0 μ η S P o a w (cAlloc Δ new T) := by
  unfold cAlloc
  split
  · rename_i ls hls
    unfold zeroParts at hls
    cases hg : Δ.get T with
    | none => rw [hg] at hls; simp at hls
    | some i =>
      rw [hg] at hls
      cases hty : i.ty with
      | none => simp [hty] at hls
      | some t =>
        simp [hty] at hls
        subst hls
        split
        · rename_i hle
          obtain ⟨inf, hi, hs, hb, hz⟩ := (hΔ T i hg).size
          obtain ⟨hsz, z, hz1, hz2⟩ := hz t hty
          obtain ⟨η1, a1, r1⟩ := zero_added hM hfree hle
          have hle := Nat.le_of_ble_eq_true hle
          have hnew := a1.free _ (Nat.le_refl _) (by omega)
          refine .ok fun _ => goes_value (v := .pointer (some ⟨w.heap.size, 0, none⟩)) (w' := w.alloc (.cells z.cells T)) ?_ (after_add a1 (inv_alloc a1.inv hnew (by rw [hz2]; exact r1) (backs_plain _ _)))
          simp [execOp, ho, Instr.alloc, zeroValue, typeInfo, hi, hz1, newVar, newRow]
        · exact .no
  · exact .no
theorem told_build (hM : InvM w0 M S0 μ η S w) (hΔ : TysOk P Δ) {new : Nat} (hfree : ∀ i, new ≤ i → i < new + 16 → μ i = none) (T : TypeId) (ps : Array (Nat × Operand)) (ho : o.op = .build T ps) {ρ : Operand → AV} (hρ : ∀ x, AVR w S (dom μ) η (ρ x) (a.eval x)) :
    Told w0 M S0 μ η S P o a w (cBuild Δ new T (ps.toList.map fun p => (p.1, ρ p.2))) := by
  unfold cBuild
  split
  · rename_i hfields
    split
    · rename_i ls hls
      split
      · rename_i ls' hfill
        unfold zeroParts at hls
        cases hg : Δ.get T with
        | none => rw [hg] at hls; simp at hls
        | some i =>
          rw [hg] at hls
          cases hty : i.ty with
          | none => simp [hty] at hls
          | some t =>
            simp [hty] at hls
            subst hls
            by_cases hle : Nat.ble (backs new (zipZero (elemFlags Δ 8 T) (parts t t.dflt))).2.2 (new + 15) = true
            case neg => rw [if_neg hle]; exact .no
            rw [if_pos hle]
            obtain ⟨inf, hi, hs, hb, hz⟩ := (hΔ T i hg).size
            obtain ⟨hsz, z, hz1, hz2⟩ := hz t hty
            obtain ⟨d, hd, hk⟩ := (hΔ T i hg).und
            obtain ⟨η1, a1, r1⟩ := zero_added hM hfree hle
            have hf : F2 (LR w S (dom (muPut μ (backs new (zipZero (elemFlags Δ 8 T) (parts t t.dflt))).2.1)) η1) (backs new (zipZero (elemFlags Δ 8 T) (parts t t.dflt))).1 z.cells.toList := by
              rw [hz2]; exact r1
            have hps := parts_avr (fun x => AVR_stay a1.stay (hρ x)) ps.toList
            have key : ∃ cs', P.built T (ps.toList.map fun p => (p.1, a.eval p.2)) = some cs' ∧ F2 (LR w S (dom (muPut μ (backs new (zipZero (elemFlags Δ 8 T) (parts t t.dflt))).2.1)) η1) ls' cs'.toList := by
              unfold fieldsOk at hfields
              rw [hg] at hfields
              obtain ⟨ik, isz, iby, ity⟩ := i
              cases ik with
              | struct gs =>
                simp only at hfields
                cases d with
                | struct fields =>
                  simp only [descOk, beq_iff_eq] at hk
                  have hall : ∀ f ∈ fields.toList, (Δ.get f.type).isSome = true := by
                    intro f hf
                    exact List.all_eq_true.1 hfields (f.offset, f.type) (by rw [← hk]; exact List.mem_map.2 ⟨f, hf, rfl⟩)
                  have hm := mapM_info hΔ fields.toList hall
                  simp only [Program.built, hi, hd, hz1, hm]
                  refine fillA_is (T := T) (fun i off size T' hpl => ?_) hfill hf hps
                  unfold placeOf at hpl
                  rw [hg] at hpl
                  simp only [← hk, List.getElem?_map] at hpl
                  cases hff : fields.toList[i]? with
                  | none => rw [hff] at hpl; simp at hpl
                  | some f =>
                    rw [hff] at hpl
                    simp only [Option.map_some, Option.bind_some, Option.map_eq_some_iff, Prod.mk.injEq] at hpl
                    obtain ⟨j, hj, rfl, rfl, rfl⟩ := hpl
                    have hff' : fields[i]? = some f := by rw [← Array.getElem?_toList]; exact hff
                    simp [hff', hj]
                | _ => simp [descOk] at hk
              | array n e =>
                simp only at hfields
                cases d with
                | array n' e' =>
                  simp only [descOk, Bool.and_eq_true, beq_iff_eq] at hk
                  obtain ⟨rfl, rfl⟩ := hk
                  obtain ⟨j, hj⟩ := Option.isSome_iff_exists.1 hfields
                  obtain ⟨inf2, h1, h2, _⟩ := (hΔ _ j hj).size
                  simp only [Program.built, hi, hd, hz1, h1]
                  refine fillA_is (T := T) (fun i off size T' hpl => ?_) hfill hf hps
                  unfold placeOf at hpl
                  rw [hg] at hpl
                  simp only [Option.map_eq_some_iff, Prod.mk.injEq] at hpl
                  obtain ⟨j', hj', rfl, rfl, rfl⟩ := hpl
                  rw [hj] at hj'
                  cases hj'
                  simp [h2]
                | _ => simp [descOk] at hk
              | _ => simp at hfields
            obtain ⟨cs', hbuilt, hf'⟩ := key
            refine .ok fun _ => goes_value (v := .agg cs') (w' := w) ?_ ⟨η1, S, a1.inv, a1.stay, cs', rfl, hf'⟩
            have hrun := run_build (P := P) w T (ps.map fun p => (p.1, a.eval p.2)) cs' (by rw [Array.toList_map]; exact hbuilt)
            have hfun : (fun (x : Nat × Operand) => match x with | (i, x) => (i, a.eval x)) = fun p => (p.1, a.eval p.2) := rfl
            simp [execOp, ho, hfun, hrun]
      · exact .no
    · exact .no
  · exact .no
end
end Go.Ab
