/- One operation at a time ('Ab'): rows that are put together or made. -/
import Derived.Test.YtlcibodnpogfhaaAbOps5
set_option linter.unusedVariables false
set_option linter.unusedSimpArgs false
set_option linter.unnecessarySimpa false
namespace Go.Ab
open Go.RowKit
section
variable {P : Program} {Δ : Tys} {w0 w w' : World} {M S0 S : Nat → Prop} {tm : List AV} {μ μ' : Mu} {η η' : Nat → Value} {a : Act} {o : Oper}
theorem toDen_eq {t : Ty} {x : D} {d : t.den} (h : toDen t x = some d) : x = ⟨t, d⟩ := by
  unfold toDen at h
  split at h
  · rename_i ht
    subst ht
    simp only [Option.some.injEq] at h
    subst h
    rfl
  · cases h
theorem CR_join : ∀ {t : Ty} {l : List D} {d : t.den} {rest : List D} {cs : List Value}, joinUp t l = some (d, rest) → F2 (fun (x : D) v => CR w S x.t [v] x.d) l cs →
    ∃ c1 c2, cs = c1 ++ c2 ∧ CR w S t c1 d ∧ F2 (fun (x : D) v => CR w S x.t [v] x.d) rest c2 := by
  have one : ∀ {t : Ty} {l : List D} {d : t.den} {rest : List D} {cs : List Value} (x : D) (l' : List D), l = x :: l' → (toDen t x).map (fun d => (d, l')) = some (d, rest) → F2 (fun (x : D) v => CR w S x.t [v] x.d) l cs →
      ∃ c1 c2, cs = c1 ++ c2 ∧ CR w S t c1 d ∧ F2 (fun (x : D) v => CR w S x.t [v] x.d) rest c2 := by
    intro t l d rest cs x l' hl h hf
    subst hl
    simp only [Option.map_eq_some_iff, Prod.mk.injEq] at h
    obtain ⟨d', h1, rfl, rfl⟩ := h
    cases hf with
    | @cons _ v _ cs' g1 g2 =>
      have hx := toDen_eq h1
      subst hx
      exact ⟨[v], cs', rfl, g1, g2⟩
  intro t
  induction t with
  | int k =>
    intro l d rest cs h hf
    cases l with
    | nil => simp [joinUp] at h
    | cons x l => exact one x l rfl h hf
  | bool =>
    intro l d rest cs h hf
    cases l with
    | nil => simp [joinUp] at h
    | cons x l => exact one x l rfl h hf
  | str =>
    intro l d rest cs h hf
    cases l with
    | nil => simp [joinUp] at h
    | cons x l => exact one x l rfl h hf
  | slice t _ =>
    intro l d rest cs h hf
    cases l with
    | nil => simp [joinUp] at h
    | cons x l => exact one x l rfl h hf
  | pair t1 t2 ih1 ih2 =>
    intro l d rest cs h hf
    simp only [joinUp, Option.bind_eq_some_iff, Option.some.injEq, Prod.mk.injEq] at h
    obtain ⟨p, h1, q, h2, rfl, rfl⟩ := h
    obtain ⟨c1, c2, rfl, g1, g2⟩ := ih1 (d := p.1) (rest := p.2) h1 hf
    obtain ⟨c3, c4, rfl, g3, g4⟩ := ih2 (d := q.1) (rest := q.2) h2 g2
    exact ⟨c1 ++ c3, c4, by simp, ⟨c1, c3, rfl, g1, g3⟩, g4⟩
  | unit =>
    intro l d rest cs h hf
    simp only [joinUp, Option.some.injEq, Prod.mk.injEq] at h
    obtain ⟨_, rfl⟩ := h
    exact ⟨[], cs, rfl, rfl, hf⟩
theorem elem_is {t : Ty} {r : RV} {d : t.den} (h : joinUp t (r.2.map (·.2)) = some (d, [])) {v : Value} (hv : ArgD w S (.val r) v) (hpos : 0 < t.size) : CR w S t v.cells.toList d := by
  obtain ⟨ag, ps⟩ := r
  obtain ⟨h1, h2⟩ := hv
  have h3 : F2 (fun (x : D) v => CR w S x.t [v] x.d) (ps.map (·.2)) (partsOf ag v) := by
    simp only at h2
    generalize partsOf ag v = vs at h2
    clear h h1
    induction h2 with
    | nil => exact .nil
    | cons g1 _ ih => exact .cons g1.2 ih
  obtain ⟨c1, c2, e, g1, g2⟩ := CR_join h h3
  cases g2
  simp only [List.append_nil] at e
  cases ag with
  | true =>
    obtain ⟨cs, rfl⟩ := h1 rfl
    simp only [partsOf] at e
    rw [show (Value.agg cs).cells = cs from rfl, e]; exact g1
  | false =>
    simp only [partsOf] at e
    subst e
    have hone := CR_one g1 v (by simp)
    rw [cells_one hone]; exact g1
theorem elems_is {t : Ty} (hpos : 0 < t.size) : ∀ {as : List Arg} {xs : List t.den} {vs : List Value}, elemsOf t as = some xs → F2 (ArgD w S) as vs → F2 (fun x (v : Value) => CR w S t v.cells.toList x) xs vs
  | [], xs, vs, h, hv => by
    simp only [elemsOf, Option.some.injEq] at h
    subst h
    cases hv
    exact .nil
  | .val r :: as, xs, v :: vs, h, .cons h1 h2 => by
    simp only [elemsOf, Option.bind_eq_some_iff] at h
    obtain ⟨p, hp, h⟩ := h
    split at h
    · rename_i hp2
      simp only [Option.map_eq_some_iff] at h
      obtain ⟨l, hl, rfl⟩ := h
      refine .cons (elem_is (d := p.1) ?_ h1 hpos) (elems_is hpos hl h2)
      rw [hp, ← hp2]
    · cases h
  | .box _ :: _, _, _, h, _ => by simp [elemsOf] at h
  | .fn _ _ :: _, _, _, h, _ => by simp [elemsOf] at h
theorem fill_flat (sz : Nat) : ∀ (ps : List (Nat × Value)) (k : Nat) (cs : Array Value), (∀ (j : Nat) (p : Nat × Value), ps[j]? = some p → p.1 = k + j ∧ p.2.cells.size = sz) → (k + ps.length) * sz ≤ cs.size →
    ∃ cs', Instr.fill (fun i => some (i * sz, sz)) cs ps = some cs' ∧ cs'.size = cs.size ∧ cs'.toList = cs.toList.take (k * sz) ++ (ps.map fun p => p.2.cells.toList).flatten ++ cs.toList.drop ((k + ps.length) * sz)
  | [], k, cs, _, _ => ⟨cs, rfl, rfl, by simp⟩
  | (i, v) :: ps, k, cs, h, hle => by
    obtain ⟨hi, hs⟩ := h 0 (i, v) rfl
    simp only [Nat.add_zero] at hi hs
    subst hi
    have hle' : (i + 1 + ps.length) * sz ≤ cs.size := by simpa [Nat.add_assoc, Nat.add_comm 1] using hle
    have hk1 : (i + 1) * sz ≤ cs.size := Nat.le_trans (Nat.mul_le_mul_right sz (by omega)) hle'
    have hk2 : i * sz + sz ≤ cs.size := by rw [← Nat.succ_mul]; exact hk1
    obtain ⟨cs1, e1, e2⟩ := fill_step (fun i => some (i * sz, sz)) cs i v ps (i * sz) sz rfl hs (by omega)
    have hlenv : v.cells.toList.length = sz := by rw [Array.length_toList]; exact hs
    have hsz1 : cs1.size = cs.size := by
      rw [← Array.length_toList, e1]
      simp only [List.length_append, List.length_take, List.length_drop, hlenv, Array.length_toList]
      omega
    obtain ⟨cs2, g1, g2, g3⟩ := fill_flat sz ps (i + 1) cs1 (fun j p hp => by
      obtain ⟨q1, q2⟩ := h (j + 1) p (by simpa using hp)
      exact ⟨by omega, q2⟩) (by omega)
    refine ⟨cs2, by rw [e2]; exact g1, by omega, ?_⟩
    rw [g3, e1, hlenv]
    have t1 : (cs.toList.take (i * sz)).length = i * sz := by simp; omega
    have h1 : (cs.toList.take (i * sz) ++ v.cells.toList ++ cs.toList.drop (i * sz + sz)).take ((i + 1) * sz) = cs.toList.take (i * sz) ++ v.cells.toList := by
      rw [List.take_append_of_le_length (by simp [hlenv, Nat.succ_mul]; omega), List.take_of_length_le (by simp [hlenv, Nat.succ_mul]; omega)]
    have h2 : (cs.toList.take (i * sz) ++ v.cells.toList ++ cs.toList.drop (i * sz + sz)).drop ((i + 1 + ps.length) * sz) = cs.toList.drop ((i + 1 + ps.length) * sz) := by
      have hm : (i + 1 + ps.length) * sz = i * sz + sz + ps.length * sz := by rw [Nat.add_mul, Nat.succ_mul]
      have hl : (cs.toList.take (i * sz) ++ v.cells.toList).length = i * sz + sz := by rw [List.length_append, t1, hlenv]
      rw [hm, ← hl, List.drop_append, hl]
      have : List.drop (i * sz + sz + ps.length * sz) (cs.toList.take (i * sz) ++ v.cells.toList) = [] := List.drop_eq_nil_of_le (by rw [hl]; omega)
      rw [this, List.nil_append, List.drop_drop]
      congr 1
      omega
    have e4 : (i + ((i, v) :: ps).length) * sz = (i + 1 + ps.length) * sz := by
      simp only [List.length_cons]
      congr 1
      omega
    rw [h1, h2, e4]
    simp only [List.map_cons, List.flatten_cons, List.append_assoc]
theorem idxOk_is : ∀ {ps : List (Nat × AV)} {n : Nat}, idxOk n ps = true → ∀ j p, ps[j]? = some p → p.1 = n + j
  | [], _, _, j, p, h => by simp at h
  | q :: ps, n, h, j, p, hp => by
    simp only [idxOk, Bool.and_eq_true] at h
    cases j with
    | zero =>
      simp only [List.getElem?_cons_zero, Option.some.injEq] at hp
      subst hp
      exact Nat.eq_of_beq_eq_true h.1
    | succ j =>
      simp only [List.getElem?_cons_succ] at hp
      have := idxOk_is h.2 j p hp
      omega
/-- A new row, after others were frozen. -/
theorem after_row (hM : InvM w0 M S0 μ η S w) {new : Nat} (hnew : μ new = none) {fz : Mem} {S1 : Nat → Prop} (i1 : InvM w0 M S0 (muPut μ fz) η S1 w) (s1 : Stay w w S S1 (dom μ) (dom (muPut μ fz)) η η) (f1 : Fz μ (muPut μ fz))
    {e : TypeId} {t : Ty} {xs : List t.den} {cs : Array Value} {cells : List Value} {n c : Nat} (hn : n = xs.length) (hown : (w.alloc (.cells cs e)).ownsRow 0 e t.size (.slice (some ⟨w.heap.size, 0, none⟩) n c) n cells) (hrows : RowsR w S1 t xs cells) :
    After w0 M S0 μ η S w ⟨lv (.own new), fz ++ [(new, .rows e t xs false)]⟩ (.slice (some ⟨w.heap.size, 0, none⟩) n c) (w.alloc (.cells cs e)) := by
  subst hn
  have hnew1 : muPut μ fz new = none := by
    rcases f1 new with h | ⟨_, _, _, h, _⟩
    · rw [h]; exact hnew
    · rw [hnew] at h; cases h
  obtain ⟨η', h1, h2, h3⟩ := inv_new i1 hnew1 (c := .rows e t xs false) (i1.frame.alloc (.cells cs e)) (by simp) (fun k hk => Below.heap_alloc w _ k hk) (v := .slice (some ⟨w.heap.size, 0, none⟩) xs.length c)
    (fun k hk => by simp [blk] at hk; omega)
    (fun η' Dm' hst hv => ⟨cells, by rw [hv]; exact hown, RowsR_stay (fun _ h => h) (fun b hb => Below.heap_alloc w _ b (i1.lt b hb)) hrows, fun k hk => by
      rw [hv] at hk
      simp only [blk, Option.some.injEq] at hk
      subst hk
      exact ⟨fun h => Nat.lt_irrefl _ (i1.lt _ h), .inl i1.frame.size⟩⟩)
  refine ⟨η', S1, ?_, ?_, ?_⟩
  · show InvM w0 M S0 (muPut μ (fz ++ [(new, .rows e t xs false)])) η' S1 _
    rw [muPut_append]; exact h2
  · show Stay w _ S S1 (dom μ) (dom (muPut μ (fz ++ [(new, .rows e t xs false)]))) η η'
    rw [muPut_append]; exact s1.trans h3
  · show AVR _ S1 (dom (muPut μ (fz ++ [(new, .rows e t xs false)]))) η' (lv (.own new)) _
    rw [muPut_append]
    exact ⟨by simp [dom, muPut_one], h1.symm, rfl⟩
theorem told_buildSlice (hM : InvM w0 M S0 μ η S w) (hΔ : TysOk P Δ) {new : Nat} (hnew : μ new = none) (T : TypeId) (n : Nat) (ps : Array (Nat × Operand)) (ho : o.op = .buildSlice T n ps) {ρ : Operand → AV} (hρ : ∀ x, AVR w S (dom μ) η (ρ x) (a.eval x)) :
    Told w0 M S0 μ η S P o a w (cBuildSlice Δ μ new T n (ps.toList.map fun p => (p.1, ρ p.2))) := by
  unfold cBuildSlice
  split
  · rename_i e _ _ _ hT
    split
    · rename_i t ei hty hei
      split
      · rename_i hc
        obtain ⟨hidx, hlen, hsz, hpos, hmax⟩ := hc
        split
        · rename_i as fz ids hto
          split
          · rename_i xs hxs
            refine .ok fun _ => ?_
            have hargs : F2 (fun (x : AV × TypeId) v => AVR w S (dom μ) η x.1 v) ((ps.toList.map fun p => (p.1, ρ p.2)).map fun p => (p.2, e)) (ps.toList.map fun p => a.eval p.2) := by
              generalize ps.toList = l
              induction l with
              | nil => exact .nil
              | cons p l ih => exact .cons (hρ p.2) ih
            obtain ⟨S1, i1, s1, f1, c1, _⟩ := toArgs_is hM (Fz.refl μ) hto hargs
            have hel := elems_is hpos hxs c1
            have hxl : xs.length = n := by rw [hel.length, ← hlen]; simp
            rw [hei, Option.bind_some] at hty
            obtain ⟨inf, hi, hs1, hb1, hz1⟩ := (hΔ e ei hei).size
            obtain ⟨hts, z, hz2, hz3⟩ := hz1 t hty
            have hexec : ∀ cs' : Array Value, (Instr.buildSlice T n (ps.map fun p => (p.1, a.eval p.2))).run P w = .ok (.slice (some ⟨w.heap.size, 0, none⟩) n n) (w.alloc (.cells cs' e)) → (execOp a.eval o).run P w = .ok (.value (.slice (some ⟨w.heap.size, 0, none⟩) n n)) (w.alloc (.cells cs' e)) := by
              intro cs' h
              have hfun : (fun (x : Nat × Operand) => match x with | (i, x) => (i, a.eval x)) = fun p => (p.1, a.eval p.2) := rfl
              simp [execOp, ho, hfun, h]
            have hlenps : ps.toList.length = n := by rw [← hlen]; simp
            obtain ⟨cs', hfill, hsz', hcs'⟩ := fill_flat t.size (ps.toList.map fun p => (p.1, a.eval p.2)) 0 ((Array.range (n * t.size)).map (z.cells[· % z.cells.size]!)) (fun j p hp => by
              rw [List.getElem?_map, Option.map_eq_some_iff] at hp
              obtain ⟨q, hq, rfl⟩ := hp
              have h1 := idxOk_is hidx j (q.1, ρ q.2) (by rw [List.getElem?_map, hq]; rfl)
              obtain ⟨x, _, hx⟩ := hel.get' j (a.eval q.2) (by rw [List.getElem?_map, hq]; rfl)
              refine ⟨h1, ?_⟩
              rw [← Array.length_toList]; exact CR_len hx) (by simp [hlenps])
            have hflat : cs'.toList = ((ps.toList.map fun p => a.eval p.2).map fun v => v.cells.toList).flatten := by
              rw [hcs']
              have : List.drop ((0 + (ps.toList.map fun p => (p.1, a.eval p.2)).length) * t.size) ((Array.range (n * t.size)).map (z.cells[· % z.cells.size]!)).toList = [] := List.drop_eq_nil_of_le (by simp [hlenps])
              rw [this]
              simp [List.map_map, Function.comp_def]
            have hsize' : cs'.size = n * t.size := by rw [hsz']; simp
            have hrows : RowsR w S1 t xs cs'.toList := by
              refine ⟨_, hflat, ?_⟩
              generalize (ps.toList.map fun p => a.eval p.2) = vs at hel
              clear hflat hxl hxs
              induction hel with
              | nil => exact .nil
              | cons h1 _ ih => exact .cons h1 ih
            have hrun : (Instr.buildSlice T n (ps.map fun p => (p.1, a.eval p.2))).run P w = .ok (.slice (some ⟨w.heap.size, 0, none⟩) n n) (w.alloc (.cells cs' e)) := by
              have hsize : inf.size = t.size := by omega
              by_cases hn : n = 0
              · subst hn
                have hps : ps = #[] := by
                  apply Array.ext'
                  exact List.length_eq_zero_iff.1 hlenps
                subst hps
                have hcs0 : cs' = #[] := Array.eq_empty_of_size_eq_zero (by rw [hsize']; simp)
                subst hcs0
                simp [Instr.buildSlice, run_underlying (tys_slice hΔ hT), sizeOf, typeInfo, hi, Instr.fill, newRow]
                congr 2
                exact Array.eq_empty_of_size_eq_zero (by simp)
              · refine run_buildSlice (P := P) w T e n _ cs' inf z (tys_slice hΔ hT) hi hz2 (by rw [hsize]; omega) (by rw [hsize]; exact Nat.mul_ne_zero hn (by omega)) ?_
                rw [hsize, Array.toList_map]
                exact hfill
            refine goes_value (hexec cs' hrun) (after_row hM hnew i1 s1 f1 (n := n) hxl.symm (World.ownsRow_lit w cs' n (Nat.zero_le _) ?_ hsize') hrows)
            have h1 : n ≤ n * t.size := Nat.le_mul_of_pos_right n hpos
            simp only [maxLen]; omega
          · exact .no
        · exact .no
      · exact .no
    · exact .no
  · exact .no
theorem made_take {z : Array Value} {sz l c : Nat} (hz : z.size = sz) (hpos : 0 < sz) (hlc : l ≤ c) : (madeCells z (c * sz)).toList.take (l * sz) = (List.replicate l z.toList).flatten := by
  have hflen : (List.replicate l z.toList).flatten.length = l * sz := by simp [hz]
  apply List.ext_getElem?
  intro j
  have hle : l * sz ≤ c * sz := Nat.mul_le_mul_right sz hlc
  by_cases hj : j < l * sz
  · have hr : j % sz < sz := Nat.mod_lt _ hpos
    have hq : j / sz < l := Nat.div_lt_of_lt_mul (by rw [Nat.mul_comm]; exact hj)
    have hzj : z.toList[j % sz]? = some (z[j % sz]!) := by
      rw [Array.getElem?_toList, Array.getElem?_eq_getElem (by omega)]
      simp [getElem!_pos, hz, hr]
    have h1 := flat_get (sz := sz) (css := List.replicate l z.toList) (j / sz) z.toList (j % sz) _ (fun c hc => by
      rw [(List.mem_replicate.1 hc).2, Array.length_toList]; exact hz) (by rw [List.getElem?_replicate, if_pos hq]) hzj
    have hjj : j / sz * sz + j % sz = j := by rw [Nat.mul_comm]; exact Nat.div_add_mod j sz
    rw [hjj] at h1
    rw [h1, List.getElem?_take, if_pos hj]
    have hjc : j < c * sz := by omega
    simp [madeCells, hjc, hz]
  · rw [List.getElem?_take, if_neg hj]
    exact (List.getElem?_eq_none (by rw [hflen]; omega)).symm
theorem told_makeSlice (hM : InvM w0 M S0 μ η S w) (hΔ : TysOk P Δ) {new : Nat} (hnew : μ new = none) (T : TypeId) (x y : Operand) (ho : o.op = .makeSlice T x y) {xa ya : AV} (hx : AVR w S (dom μ) η xa (a.eval x)) (hy : AVR w S (dom μ) η ya (a.eval y)) :
    Told w0 M S0 μ η S P o a w (cMakeSlice Δ new T xa ya) := by
  unfold cMakeSlice
  split
  · rename_i e _ _ _ k1 l k2 c hT hl hc
    split
    · rename_i t ei hty hei
      split
      · rename_i hcond
        obtain ⟨hsz, hpos⟩ := hcond
        refine .ok fun hb => ?_
        obtain ⟨h0, hlc, hbytes, h63⟩ := hb
        rw [hei, Option.bind_some] at hty
        obtain ⟨inf, hi, hs1, hb1, hz1⟩ := (hΔ e ei hei).size
        obtain ⟨hts, z, hz2, hz3⟩ := hz1 t hty
        have hzs : z.cells.size = t.size := by rw [← Array.length_toList, hz3]; exact CR_len (CR_zero w S t)
        have hsize : inf.size = t.size := by omega
        have hrun := run_make (P := P) w T e inf z (tys_slice hΔ hT) hi hz2 k1 k2 l c h0 hlc (by rw [hb1]; exact hbytes) h63
        rw [hsize] at hrun
        have hexec : (execOp a.eval o).run P w = .ok (.value (.slice (some ⟨w.heap.size, 0, none⟩) l.toNat c.toNat)) (w.alloc (.cells (madeCells z.cells (c.toNat * t.size)) e)) := by
          simp [execOp, ho, isInt_is hl hx, isInt_is hc hy, hrun]
        have hlc' : l.toNat ≤ c.toNat := by omega
        have htake := made_take (z := z.cells) hzs hpos hlc'
        refine goes_value hexec (after_row (xs := List.replicate l.toNat t.dflt) (fz := []) hM hnew hM (Stay.refl _ _ _ _) (Fz.refl μ) (n := l.toNat) (by simp) (cells := (List.replicate l.toNat z.cells.toList).flatten) ⟨?_, .inr ⟨w.heap.size, c.toNat, _, rfl, Nat.zero_le _, heap_alloc_new w _, hlc', ?_, size_madeCells _ _, htake⟩⟩ ?_)
        · simp [hzs]
        · simp only [maxLen]; omega
        · refine ⟨_, rfl, ?_⟩
          have hone : CR w S t z.cells.toList t.dflt := by rw [hz3]; exact CR_zero w S t
          generalize l.toNat = n
          induction n with
          | zero => exact .nil
          | succ n ih => exact .cons hone ih
      · exact .no
    · exact .no
  · exact .no
end
end Go.Ab
