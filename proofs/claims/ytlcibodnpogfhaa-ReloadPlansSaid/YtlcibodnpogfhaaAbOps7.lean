/- The steps of append to a slice without room, of append of a string's bytes, and of conversions between strings and bytes ('Ab'). -/
import Derived.Test.YtlcibodnpogfhaaAbOps6
import Derived.Lib.ConvBytes
import Derived.Lib.AppendStr
import Derived.Laws.BytesArg
set_option linter.unusedVariables false
set_option linter.unusedSimpArgs false
set_option linter.unnecessarySimpa false
namespace Go.Ab
open Go.RowKit Go.Lib
section
variable {P : Program} {Δ : Tys} {w0 w w' : World} {M S0 S : Nat → Prop} {tm : List AV} {μ μ' : Mu} {η η' : Nat → Value} {a : Act} {o : Oper}
/-- New blocks alone, that are only read from then on. -/
theorem inv_grow (hM : InvM w0 M S0 μ η S w) (h1 : w'.os = w.os) (h2 : w'.tape = w.tape) (h3 : w'.output = w.output) (hsz : w.heap.size ≤ w'.heap.size) (hold : ∀ k, k < w.heap.size → w'.heap[k]? = w.heap[k]?) :
    InvM w0 M S0 μ η (fun b => S b ∨ (w.heap.size ≤ b ∧ b < w'.heap.size)) w' ∧ Stay w w' S (fun b => S b ∨ (w.heap.size ≤ b ∧ b < w'.heap.size)) (dom μ) (dom μ) η η := by
  have hst : Stay w w' S (fun b => S b ∨ (w.heap.size ≤ b ∧ b < w'.heap.size)) (dom μ) (dom μ) η η := ⟨fun _ h => .inl h, fun b hb => hold b (hM.lt b hb), fun _ h => h, fun _ _ => rfl⟩
  refine ⟨⟨⟨h1.trans hM.frame.os, h2.trans hM.frame.tape, h3.trans hM.frame.output, Nat.le_trans hM.frame.size hsz, fun k hk hm => ?_⟩, fun b hb => .inl (hM.sub b hb), fun b hb => ?_, fun b hb => ?_, fun i c hi => ?_, hM.apart⟩, hst⟩
  · rw [hold k (Nat.lt_of_lt_of_le hk hM.frame.size)]; exact hM.frame.block k hk hm
  · rcases hb with hb | hb
    · exact Nat.lt_of_lt_of_le (hM.lt b hb) hsz
    · exact hb.2
  · rcases hb with hb | hb
    · exact hM.from_ b hb
    · exact .inr (.inl (Nat.le_trans hM.frame.size hb.1))
  · refine ChunkR_stay hst (show dom μ i by simp [dom, hi]) (fun hl k hk => hold k (live_blk hM hi hl hk).1) (fun hl k hk hs => ?_) (hM.chunk i c hi)
    rcases hs with hs | hs
    · exact (live_blk hM hi hl hk).2.1 hs
    · have := (live_blk hM hi hl hk).1
      omega
theorem told_moveAny (hM : InvM w0 M S0 μ η S w) {new : Nat} (hnew : μ new = none) (x : Operand) (ho : o.op = .move x ∨ o.op = .assign x) {xa : AV} (hx : AVR w S (dom μ) η xa (a.eval x)) :
    Told w0 M S0 μ η S P o a w (cMoveAny Δ μ new o.type xa) := by
  unfold cMoveAny
  split
  · unfold cMoveRo
    split
    · exact told_movenil hM hnew x ho hx
    · rename_i l hl
      split
      · rename_i z fz hz
        refine .ok fun _ => ?_
        obtain ⟨S', i1, s1, _, c1⟩ := leafD_is hM (Fz.refl μ) hz (show LR w S (dom μ) η l (a.eval x) from hx)
        exact goes_value (v := a.eval x) (w' := w) (by rcases ho with ho | ho <;> simp [execOp, ho]) ⟨η, S', i1, s1, c1⟩
      · exact .no
    · exact .no
  · exact told_movenil hM hnew x ho hx
theorem bin_exec (op : BinOp) (T U : TypeId) (x y : Operand) (ho : o.op = .binOp op T x y U) (v : Value) (h1 : ∀ cs ds, a.eval x = .agg cs → a.eval y = .agg ds → False) (h2 : a.eval x = .nilIface → False)
    (h : (binOp op T (a.eval x) (a.eval y)).run P w = .ok v w) : (execOp a.eval o).run P w = .ok (.value v) w := by
  have hg : (eqGuard op T x y (a.eval x) (a.eval y)).run P w = .ok () w := by
    have key : ∀ op : BinOp, (op = .eql ∨ op = .neq) → (eqGuard op T x y (a.eval x) (a.eval y)).run P w = .ok () w := by
      intro op hop
      unfold eqGuard
      rcases hop with rfl | rfl <;>
      · simp only [Bool.not_true, Bool.false_eq_true, if_false]
        split
        · rename_i e _; exact (h2 e).elim
        · rename_i e1 e2; exact (h1 _ _ e1 e2).elim
        · rfl
    cases op <;> first | exact key _ (.inl rfl) | exact key _ (.inr rfl) | rfl
  simp only [execOp, ho, Sem.run_bind, hg, Result.andThen, h]
  rfl
theorem run_eq_nil {T e : TypeId} (hu : P.underlying T = some (.slice e)) (A : Option Addr) (n c : Nat) (w : World) : (Op.equal T (.slice A n c) (.slice none 0 0)).run P w = .ok A.isNone w := by
  have e : Op.equal T (.slice A n c) (.slice none 0 0) = Op.equalIn (9999 + 1) T (.slice A n c) (.slice none 0 0) := rfl
  rw [e, Op.equalIn]
  cases A <;> simp only [Sem.run_bind, run_underlying hu, Result.andThen] <;> rfl
theorem told_binNil (hM : InvM w0 M S0 μ η S w) (hΔ : TysOk P Δ) (op : BinOp) (T U : TypeId) (x y : Operand) (ho : o.op = .binOp op T x y U) {xa ya : AV}
    (hx : AVR w S (dom μ) η xa (a.eval x)) (hy : AVR w S (dom μ) η ya (a.eval y)) (hn : isNilsV ya = true) : Told w0 M S0 μ η S P o a w (cBinNil Δ op T xa) := by
  have hyv : a.eval y = .slice none 0 0 := by
    unfold isNilsV at hn
    split at hn
    · exact hy
    · cases hn
  have run : ∀ {A n c}, a.eval x = .slice A n c → ∀ {e}, kindOf Δ T = some (.slice e) → (op = .eql → (execOp a.eval o).run P w = .ok (.value (.bool A.isNone)) w) ∧ (op = .neq → (execOp a.eval o).run P w = .ok (.value (.bool (!A.isNone))) w) := by
    intro A n c hv e hk
    have hu : P.underlying T = some (.slice e) := by
      unfold kindOf at hk
      cases hg : Δ.get T with
      | none => rw [hg] at hk; cases hk
      | some i =>
        rw [hg] at hk
        simp only [Option.map_some, Option.some.injEq] at hk
        obtain ⟨d, hd, hkk⟩ := (hΔ T i hg).und
        rw [hk] at hkk
        cases d <;> simp [descOk] at hkk
        subst hkk; exact hd
    refine ⟨fun hop => ?_, fun hop => ?_⟩ <;> subst hop
    · exact bin_exec .eql T U x y ho _ (fun cs ds h => by rw [hv] at h; cases h) (fun h => by rw [hv] at h; cases h) (by rw [hv, hyv]; simp only [binOp, Sem.run_bind, run_eq_nil hu, Result.andThen]; rfl)
    · exact bin_exec .neq T U x y ho _ (fun cs ds h => by rw [hv] at h; cases h) (fun h => by rw [hv] at h; cases h) (by rw [hv, hyv]; simp only [binOp, Sem.run_bind, run_eq_nil hu, Result.andThen]; rfl)
  unfold cBinNil
  split
  · rename_i z b hk
    obtain ⟨_, A, n, c, hv, hb⟩ := (show LR w S (dom μ) η (.kn z b) (a.eval x) from hx)
    split
    · exact told_pure (goes_pure hM (hb ▸ (run hv hk).1 rfl) (avr_bool _))
    · exact told_pure (goes_pure hM (hb ▸ (run hv hk).2 rfl) (avr_bool _))
    · exact .no
  · rename_i t xs hk
    obtain ⟨A, c, hv, _, _, hrow⟩ := (show CR w S (.slice t) [a.eval x] xs from hx)
    simp only [List.cons.injEq, and_true] at hv
    have hA : 0 < xs.length → A.isNone = false := fun hl => by
      obtain ⟨b, oo, cs, hA, _⟩ := hrow 0 _ (List.getElem?_eq_getElem hl)
      rw [hA]; rfl
    split
    · refine .ok fun hc => goes_pure hM (v := .bool false) ?_ (avr_bool _)
      have := (run hv hk).1 rfl
      rwa [hA hc] at this
    · refine .ok fun hc => goes_pure hM (v := .bool true) ?_ (avr_bool _)
      have := (run hv hk).2 rfl
      rwa [hA hc] at this
    · exact .no
  · exact .no
theorem run_append_zero (t ty e : TypeId) (i : TypeInfo) (ht : P.underlying t = some (.slice e)) (hi : P.info? e = some i) (A B : Option Addr) (n cap c : Nat) (hn : n ≤ cap) (w : World) :
    (Builtin.append_ #[t, t] ty #[.slice A n cap, .slice B 0 c]).run P w = .ok (.slice A n cap) w := by
  have hf : (Builtin.firstCells i.size 0 (.slice B 0 c)).run P w = .ok #[] w := by
    cases B with
    | none => exact run_firstCells_none w i.size 0 0 c
    | some b => exact run_firstCells_some w i.size 0 b 0 c [] (by simp) (fun j v h => by simp at h)
  cases A <;> simp [Builtin.append_, run_underlying ht, sizeOf, typeInfo, hi, Builtin.lenOf, hn, hf, storeCells]
/-- What was put together reads as it should. -/
theorem CR_made {t : Ty} {xs : List t.den} {css : List (List Value)} {S' : Nat → Prop} {g cap : Nat} {cur : Array Value} {e : TypeId} (hg : w'.heap[g]? = some (.cells cur e (0, 0))) (hS : S' g)
    (hf : F2 (fun x cs => CR w' S' t cs x) xs css) (hcur : cur.toList.take css.flatten.length = css.flatten) (h1 : xs.length ≤ cap) (h2 : cap ≤ maxLen) : CR w' S' (.slice t) [.slice (some ⟨g, 0, none⟩) xs.length cap] xs := by
  refine ⟨some ⟨g, 0, none⟩, cap, rfl, h1, h2, fun i x hx => ?_⟩
  obtain ⟨cs, hcr, hcell⟩ := rows_at (cells := css.flatten) ⟨css, rfl, hf⟩ hx
  refine ⟨g, 0, cs, rfl, hS, hcr, CR_len hcr, fun j u hu => ?_⟩
  have h3 := hcell j u hu
  rw [← hcur, List.getElem?_take] at h3
  split at h3
  · simp only [World.cell?, hg, Nat.zero_add]
    rw [← Array.getElem?_toList]
    simpa using h3
  · cases h3
theorem told_append_cl (hM : InvM w0 M S0 μ η S w) (hΔ : TysOk P Δ) (T : TypeId) (x y : Operand) (c : Call) (ho : o.op = .call c) (hc : c.callee = .builtin .append) (ha : c.args = #[x, y]) (hT : c.argTypes = #[T, T])
    {xa ya : AV} (hx : AVR w S (dom μ) η xa (a.eval x)) (hy : AVR w S (dom μ) η ya (a.eval y)) : Told w0 M S0 μ η S P o a w (cAppendCl Δ μ T xa ya) := by
  have hexec : ∀ v' w', (Builtin.append_ #[T, T] o.type #[a.eval x, a.eval y]).run P w = .ok v' w' → (execOp a.eval o).run P w = .ok (.value v') w' := by
    intro v' w' h
    simp [execOp, ho, resolve, hc, ha, hT, invoke, builtin, h]
  unfold cAppendCl
  split
  · rename_i t xs l e _ _ _ hTT
    split
    · rename_i t' ys ei hsl hei
      split
      · rename_i htt
        subst htt
        split
        · rename_i hcond
          obtain ⟨hsz, hpos, hzero⟩ := hcond
          refine .ok fun hb => ?_
          obtain ⟨hbytes, h63⟩ := hb
          have hxl : CR w S (.slice t') [a.eval x] xs ∧ ∃ A n, a.eval x = .slice A n n := hx
          obtain ⟨hcr, A0, n0, hA0⟩ := hxl
          obtain ⟨A, cx, cssx, hvx, hfx, hlx, hnonex, hcx⟩ := sliceOf_cells (l := .dat ⟨.slice t', xs⟩) hM rfl (show LR w S (dom μ) η (.dat ⟨.slice t', xs⟩) (a.eval x) from hcr)
          obtain ⟨B, cy, css, hvy, hfy, hly, hnone, hcy⟩ := sliceOf_cells hM hsl (show LR w S (dom μ) η l (a.eval y) from hy)
          have hcap : cx = xs.length := by rw [hvx] at hA0; cases hA0; rfl
          obtain ⟨inf, hinf, hs1, hb1, hz1⟩ := (hΔ e ei hei).size
          obtain ⟨ty, hty⟩ := Option.isSome_iff_exists.1 hzero
          obtain ⟨hts, z, hz2, hz3⟩ := hz1 ty hty
          by_cases hye : ys.length = 0
          · have hy0 : ys = [] := List.eq_nil_of_length_eq_zero hye
            subst hy0
            refine goes_value (v := a.eval x) (w' := w) (hexec _ _ ?_) ⟨η, S, hM, Stay.refl _ _ _ _, ?_⟩
            · rw [hvx, hvy, hcap]
              exact run_append_zero T o.type e inf (tys_slice hΔ hTT) hinf A B xs.length xs.length cy (Nat.le_refl _) w
            · show CR w S (.slice t') [a.eval x] (xs ++ [])
              rw [List.append_nil]; exact hcr
          · cases B with
            | none => exact absurd (congrArg List.length (hnone rfl)) hye
            | some ad =>
              let cap := grownCap w (xs.length + ys.length) xs.length e
              let cur : Array Value := cssx.flatten.toArray ++ css.flatten.toArray ++ Builtin.zeroCells z.cells (cap - (xs.length + ys.length))
              let w1 := w.drew.alloc (.cells cur e)
              have hrun : (Builtin.append_ #[T, T] o.type #[a.eval x, a.eval y]).run P w = .ok (.slice (some ⟨w.heap.size, 0, none⟩) (xs.length + ys.length) cap) w1 := by
                rw [hvx, hvy, hcap]
                cases A with
                | none =>
                  have h0 : xs = [] := hnonex rfl
                  subst h0
                  have hc0 : cssx = [] := by cases hfx; rfl
                  subst hc0
                  have := run_append_nil (P := P) w T o.type e inf z (tys_slice hΔ hTT) hinf hz2 ad ys.length cy css.flatten (by rw [hly, hs1, hsz]) (hcy ad rfl) (by omega) (by simp only [List.length_nil, Nat.zero_add] at h63; omega) (by simp only [List.length_nil, Nat.zero_add] at hbytes; rw [hb1]; omega)
                  simpa [w1, cur, cap] using this
                | some ad0 =>
                  exact run_append_grow (P := P) w T o.type e inf z (tys_slice hΔ hTT) hinf hz2 ad0 xs.length xs.length cssx.flatten (by rw [hlx, hs1, hsz]) (hcx ad0 rfl) ad ys.length cy css.flatten (by rw [hly, hs1, hsz]) (hcy ad rfl) (by omega) (by omega)
                    (by rw [hb1]; exact growslice_fits (by omega) hbytes)
              obtain ⟨i1, s1⟩ := inv_grow (w' := w1) hM rfl rfl rfl (by simp [w1]) (fun k hk => heap_alloc_old w.drew _ k hk)
              refine goes_value (hexec _ _ hrun) ⟨η, _, i1, s1, ?_⟩
              have hnew : w1.heap[w.heap.size]? = some (.cells cur e (0, 0)) := heap_alloc_new w.drew _
              have := CR_made (t := t') (xs := xs ++ ys) (css := cssx ++ css) (S' := fun b => S b ∨ (w.heap.size ≤ b ∧ b < w1.heap.size)) (cap := cap) hnew (.inr ⟨Nat.le_refl _, by simp [w1]⟩)
                ((hfx.append hfy).imp fun _ _ h => CR_stay s1.s s1.w h) (by simp only [cur, Array.toList_append, List.flatten_append]; exact List.take_left) (by rw [List.length_append]; exact grownCap_ge _ _ _ _) (grownCap_le_maxLen _ _ _ _ (by simp only [maxLen]; omega))
              rw [List.length_append] at this
              exact this
        · exact .no
      · exact .no
    · exact .no
  · exact .no
theorem kind_get {T : TypeId} {k : TK} (h : kindOf Δ T = some k) : ∃ s b ty, Δ.get T = some ⟨k, s, b, ty⟩ := by
  unfold kindOf at h
  cases hg : Δ.get T with
  | none => rw [hg] at h; cases h
  | some i =>
    rw [hg] at h
    simp only [Option.map_some, Option.some.injEq] at h
    subst h
    exact ⟨i.size, i.bytes, i.ty, rfl⟩
theorem kind_str (hΔ : TysOk P Δ) {T : TypeId} (h : kindOf Δ T = some .str) : P.underlying T = some .string := by
  obtain ⟨s, b, ty, hg⟩ := kind_get h
  exact tys_str hΔ hg
theorem kind_int (hΔ : TysOk P Δ) {T : TypeId} {k : IntKind} (h : kindOf Δ T = some (.int k)) : P.underlying T = some (.int k) := by
  obtain ⟨s, b, ty, hg⟩ := kind_get h
  obtain ⟨u', hu', hk⟩ := (hΔ T _ hg).und
  have : u' = .int k := by cases u' <;> simp [descOk] at hk; rw [hk]
  subst this
  exact hu'
theorem kind_slice (hΔ : TysOk P Δ) {T e : TypeId} (h : kindOf Δ T = some (.slice e)) : P.underlying T = some (.slice e) := by
  obtain ⟨s, b, ty, hg⟩ := kind_get h
  exact tys_slice hΔ hg
theorem bytesOfStr_cells (s : ByteArray) : strCells s = (bytesOfStr s).map (Value.int .u8) := by simp [strCells, bytesOfStr]
theorem bytes_F2 (S' : Nat → Prop) (w : World) : ∀ l : List Int, F2 (fun x cs => CR w S' (.int .u8) cs x) l (l.map fun n => [Value.int .u8 n])
  | [] => .nil
  | n :: l => .cons rfl (bytes_F2 S' w l)
theorem bytes_flat (l : List Int) : (l.map fun n => [Value.int .u8 n]).flatten = l.map (Value.int .u8) := by
  induction l with
  | nil => rfl
  | cons n l ih => simp [ih]
theorem bytesOfStr_length (s : ByteArray) : (bytesOfStr s).length = s.size := by simp [bytesOfStr]
theorem append_str_own (t u ty e : TypeId) (i : TypeInfo) (ht : P.underlying t = some (.slice e)) (hu : P.underlying u = some .string) (hi : P.info? e = some i) (hz : i.zero = some (.int .u8 0)) (hsize : i.size = 1) (hby : i.bytes = 1)
    (v : Value) (n : Nat) (xs : List Value) (hown : w.ownsRow 0 e 1 v n xs) (s : ByteArray) (h63 : n + s.size ≤ maxLen) (hbytes : n + s.size ≤ 140737488355328) :
    ∃ v' w', (Builtin.append_ #[t, u] ty #[v, .string s]).run P w = .ok v' w' ∧ w'.ownsRow 0 e 1 v' (n + s.size) (xs ++ strCells s) ∧ w.grownBy w' v.ownBlock ∧ (v'.ownBlock = v.ownBlock ∨ v'.ownBlock = some w.heap.size) := by
  obtain ⟨v', w', h1, h2, h3, h4⟩ := run_append_own_string (P := P) w 0 t u ty e i ht hu hi hz hsize hby v n xs hown s h63 hbytes (Nat.zero_le _)
  refine ⟨v', w', h1, h2, h3, ?_⟩
  have hsmall : n + s.size ≤ 9223372036854775807 := by simp only [maxLen] at h63; omega
  rcases hown.2 with ⟨e1, e2⟩ | ⟨g, cap, cur, e1, _, hg, hnc, _, hcs, _⟩
  · subst e1; subst e2
    by_cases hm : s.size = 0
    · left; rw [h4.2 ⟨rfl, hm⟩]
    · have hr := run_append_nil_string (P := P) w t u ty e i (.int .u8 0) ht hu hi hz s (by omega) (by omega) (by rw [hby]; omega)
      rw [hr] at h1
      cases h1
      right; rfl
  · subst e1
    by_cases hroom : n + s.size ≤ cap
    · have hr := run_append_room_string (P := P) w t u ty e i ht hu hi hsize g n cap cur hg s hroom (by rw [show cur.size = cap by simpa using hcs]; exact hroom)
      rw [hr] at h1
      cases h1
      left; rfl
    · have hr := run_append_grow_string (P := P) w t u ty e i (.int .u8 0) ht hu hi hz ⟨g, 0, none⟩ n cap xs (by rw [hsize]; exact hown.1) (hown.cells (g := g) rfl) s (by omega) (by omega) (by rw [hby]; exact growslice_fits (by omega) (by omega))
      rw [hr] at h1
      cases h1
      right; rfl
theorem told_append_str (hM : InvM w0 M S0 μ η S w) (hΔ : TysOk P Δ) {new : Nat} (hnew : μ new = none) (T U : TypeId) (x y : Operand) (c : Call) (ho : o.op = .call c) (hc : c.callee = .builtin .append) (ha : c.args = #[x, y]) (hT : c.argTypes = #[T, U])
    {xa ya : AV} (hx : AVR w S (dom μ) η xa (a.eval x)) (hy : AVR w S (dom μ) η ya (a.eval y)) : Told w0 M S0 μ η S P o a w (cAppendStr Δ μ new T U xa ya) := by
  have hexec : ∀ v' w', (Builtin.append_ #[T, U] o.type #[a.eval x, a.eval y]).run P w = .ok v' w' → (execOp a.eval o).run P w = .ok (.value v') w' := by
    intro v' w' h
    simp [execOp, ho, resolve, hc, ha, hT, invoke, builtin, h]
  unfold cAppendStr
  split
  · rename_i id s e _ _ _ hstr hTT hUU
    split
    · rename_i e' xs hid hei
      split
      · rename_i hee
        subst hee
        refine .ok fun hbytes => ?_
        obtain ⟨hd, hv, hone⟩ := hx
        obtain ⟨cells, hown, hrows, hblk⟩ := hM.chunk id _ hid
        have hys : a.eval y = .string s := isStr_is hstr hy
        obtain ⟨inf, hinf, hs1, hb1, _⟩ := (hΔ e' _ hei).size
        obtain ⟨inf', hinf', hz2⟩ := (hΔ e' _ hei).u8 rfl
        have : inf' = inf := by rw [hinf] at hinf'; exact (Option.some.inj hinf').symm
        subst this
        have hbytes : xs.length + s.size ≤ 140737488355328 := hbytes
        obtain ⟨v', w', hrun, hown', hg, hvb⟩ := append_str_own (P := P) T U o.type e' inf' (tys_slice hΔ hTT) (kind_str hΔ hUU) hinf hz2 hs1 hb1 (η id) xs.length cells hown s (by simp only [maxLen]; omega) hbytes
        rw [← hv, ← hys] at hrun
        have hf := bytes_F2 S w (bytesOfStr s)
        refine own_grown (t := .int .u8) (ys := bytesOfStr s) hM hnew hid hd hown hrows hblk (fun k hk => (hblk k hk).1) hf (hexec _ _ hrun) ?_ hg hvb
        rw [bytes_flat, bytesOfStr_length, ← bytesOfStr_cells]
        exact hown'
      · exact .no
    · exact .no
  · exact .no
theorem fold_bytes (xs : List Int) : xs.foldl (fun r n => r.push (UInt8.ofNat n.toNat)) ByteArray.empty = strOfBytes xs := by
  rw [foldl_push_bytes]
  simp [strOfBytes, ByteArray.empty, ByteArray.emptyWithCapacity]
  try rfl
theorem run_to_string (w : World) (s d e : TypeId) (hs : P.underlying s = some (.slice e)) (he : P.underlying e = some (.int .u8)) (hd : P.underlying d = some .string) (ad : Addr) (c : Nat) (xs : List Int)
    (h : ∀ (j : Nat) (v : Value), (xs.map (Value.int .u8))[j]? = some v → w.cell? (ad.add j) = some v) : (convert s d (.slice (some ad) xs.length c)).run P w = .ok (.string (strOfBytes xs)) w := by
  have hl : (loadCells ad xs.length).run P w = .ok (xs.map (Value.int .u8)).toArray w := by
    have := run_loadCells_list (P := P) w ad (xs.map (Value.int .u8)) h
    simpa using this
  rw [run_convert_bytes_string w s d e _ _ c hs he hd, run_bytesToString w ad _ c xs hl, fold_bytes]
/-- string(bytes) -/
theorem told_toStr (hM : InvM w0 M S0 μ η S w) (hΔ : TysOk P Δ) (s d : TypeId) (x : Operand) (ho : o.op = .convert s d x) (hd : P.underlying d = some .string) {xa : AV} (hx : AVR w S (dom μ) η xa (a.eval x)) :
    Told w0 M S0 μ η S P o a w (cToStr Δ μ s xa) := by
  unfold cToStr
  split
  · rename_i e _ _ _ l hT
    split
    · rename_i xs hk hsl
      obtain ⟨A, c, css, hv, hf, hl, hnone, hcell⟩ := sliceOf_cells hM hsl (show LR w S (dom μ) η l (a.eval x) from hx)
      have hu8 : P.underlying e = some (.int .u8) := kind_int hΔ hk
      refine told_pure (goes_pure hM (v := .string (strOfBytes xs)) ?_ (avr_str _))
      have hflat : css.flatten = xs.map (Value.int .u8) := by
        clear hv hl hnone hcell hsl
        induction hf with
        | nil => rfl
        | cons h1 _ ih => simp only [List.flatten_cons, List.map_cons]; rw [show _ = [_] from h1, ih]; rfl
      have hrun : (convert s d (a.eval x)).run P w = .ok (.string (strOfBytes xs)) w := by
        rw [hv]
        cases A with
        | none =>
          have h0 : xs = [] := hnone rfl
          subst h0
          exact run_convert_bytes_nil w s e (tys_slice hΔ hT) hu8 0 c d hd
        | some ad =>
          exact run_to_string w s d e (tys_slice hΔ hT) hu8 hd ad c xs (fun j v hj => hcell ad rfl j v (by rw [hflat]; exact hj))
      simp [execOp, ho, hrun]
    · exact .no
  · exact .no
/-- []byte(string) -/
theorem told_toBytes (hM : InvM w0 M S0 μ η S w) (hΔ : TysOk P Δ) (s d e : TypeId) (x : Operand) (ho : o.op = .convert s d x) (hd : P.underlying d = some (.slice e)) {xa : AV} (hx : AVR w S (dom μ) η xa (a.eval x)) :
    Told w0 M S0 μ η S P o a w (cToBytes Δ s e xa) := by
  unfold cToBytes
  split
  · rename_i b hs hb he
    refine .ok fun hc => ?_
    have hv := isStr_is hb hx
    have hrun := run_convert_string_bytes (P := P) w s d e b (kind_str hΔ hs) hd (kind_int hΔ he)
    obtain ⟨i1, s1⟩ := inv_grow (w' := bytesWorld w e b) hM rfl rfl rfl (by rw [bytesWorld_size]; omega) (bytesWorld_at_old w e b)
    refine goes_value (v := .slice (some ⟨w.heap.size, 0, none⟩) b.size (grownCap w b.size 0 e)) (w' := bytesWorld w e b) (by simp [execOp, ho, hv, hrun]) ⟨η, _, i1, s1, ?_⟩
    show CR (bytesWorld w e b) _ (.slice (.int .u8)) [_] (bytesOfStr b)
    have hc : b.size ≤ 9223372036854775807 := hc
    refine ⟨some ⟨w.heap.size, 0, none⟩, grownCap w b.size 0 e, by rw [bytesOfStr_length], by rw [bytesOfStr_length]; exact grownCap_ge _ _ _ _, grownCap_le_maxLen _ _ _ _ (by simp only [maxLen]; omega), fun i n hn => ?_⟩
    refine ⟨w.heap.size, 0, [.int .u8 n], rfl, .inr ⟨Nat.le_refl _, by rw [bytesWorld_size]; omega⟩, rfl, rfl, fun j u hu => ?_⟩
    have hi : i < b.size := by rw [← bytesOfStr_length]; exact (List.getElem?_eq_some_iff.1 hn).1
    have hj : j = 0 := by have := (List.getElem?_eq_some_iff.1 hu).1; simp at this; exact this
    subst hj
    simp only [List.getElem?_cons_zero, Option.some.injEq] at hu
    subst hu
    have := bytesWorld_cell w e b i hi
    simp only [Nat.zero_add, Ty.size, Nat.mul_one, Nat.add_zero]
    rw [this]
    simp only [bytesOfStr, List.getElem?_map, Option.map_eq_some_iff] at hn
    obtain ⟨c, h1, h2⟩ := hn
    simp [List.getD, h1, h2]
  · exact .no
theorem freeze_heap (w : World) (g n : Nat) {cur : Array Value} {e : TypeId} (hg : w.heap[g]? = some (.cells cur e (0, 0))) :
    (w.freeze ⟨g, n, none⟩ 1).heap[g]? = some (.cells cur e (n, n + 1)) ∧ (∀ k, k ≠ g → (w.freeze ⟨g, n, none⟩ 1).heap[k]? = w.heap[k]?) ∧ (w.freeze ⟨g, n, none⟩ 1).heap.size = w.heap.size := by
  refine ⟨?_, fun k hk => ?_, ?_⟩
  · simp [World.freeze, Array.getElem?_modify, hg]
  · simp [World.freeze, Array.getElem?_modify, Ne.symm hk]
  · simp [World.freeze]
theorem told_mark (hM : InvM w0 M S0 μ η S w) (hΔ : TysOk P Δ) (s d : TypeId) (x : Operand) (ho : o.op = .convert s d x) {xa : AV} (hx : AVR w S (dom μ) η xa (a.eval x)) : Told w0 M S0 μ η S P o a w (cMark Δ μ s d xa) := by
  unfold cMark
  split
  · rename_i e id hk
    split
    · rename_i e' xs hke hid
      split
      · rename_i hcond
        obtain ⟨rfl, hpos⟩ := hcond
        refine .ok fun _ => ?_
        obtain ⟨hd, hv, hone⟩ := hx
        obtain ⟨cells, hown, ⟨css, rfl, hf⟩, hblk⟩ := hM.chunk id _ hid
        rcases hown.2 with ⟨_, h2⟩ | ⟨g, cap, cur, h1, _, hg, hnc, hcm, hcs, htake⟩
        · omega
        have hbk : blk (η id) = some g := by rw [h1]; rfl
        obtain ⟨f1, f2, f3⟩ := freeze_heap w g cur.size hg
        have hsh : w.shape? g = some (e', cur.size) := by unfold World.shape?; rw [hg]
        have hrun : (convert s s (a.eval x)).run P w = .ok (a.eval x) (w.freeze ⟨g, cur.size, none⟩ 1) := by
          rw [hv, h1]
          simp [convert, run_underlying (kind_slice hΔ hk), run_underlying (kind_int hΔ hke), markStringish, hsh]
        let S' : Nat → Prop := fun b => S b ∨ b = g
        have hgS : ¬ S g := (hblk g hbk).1
        have hst : Stay w (w.freeze ⟨g, cur.size, none⟩ 1) S S' (dom μ) (dom (muPut μ [(id, .gone)])) η η := ⟨fun _ h => .inl h, fun b hb => f2 b (fun e => hgS (e ▸ hb)), dom_put _, fun _ _ => rfl⟩
        refine goes_value (v := a.eval x) (w' := w.freeze ⟨g, cur.size, none⟩ 1) (by simp [execOp, ho, hrun]) ⟨η, S', ⟨⟨hM.frame.os, hM.frame.tape, hM.frame.output, by rw [f3]; exact hM.frame.size, fun k hk hm => ?_⟩, fun b hb => .inl (hM.sub b hb), fun b hb => ?_, fun b hb => ?_, fun i c hi => ?_, fun i j ci cj k hi hj hli hlj hij => ?_⟩, hst, ?_⟩
        · rw [f2 k (fun e => ?_)]
          · exact hM.frame.block k hk hm
          · subst e
            rcases (hblk k hbk).2 with h | h
            · omega
            · exact hm h
        · rw [f3]
          rcases hb with hb | hb
          · exact hM.lt b hb
          · subst hb; exact (live_blk hM hid rfl hbk).1
        · rcases hb with hb | hb
          · exact hM.from_ b hb
          · subst hb; exact .inr (hblk _ hbk).2
        · rw [muPut_one] at hi
          by_cases he : i = id
          · simp only [if_pos he, Option.some.injEq] at hi
            subst hi
            trivial
          · simp only [if_neg he] at hi
            refine ChunkR_stay hst (show dom μ i by simp [dom, hi]) (fun hl k hk => f2 k (fun e => ?_)) (fun hl k hk hs => ?_) (hM.chunk i c hi)
            · subst e; exact hM.apart i id c _ k hi hid hl rfl he hk hbk
            · rcases hs with hs | hs
              · exact (live_blk hM hi hl hk).2.1 hs
              · subst hs; exact hM.apart i id c _ k hi hid hl rfl he hk hbk
        · rw [muPut_one] at hi hj
          by_cases hei : i = id
          · simp only [if_pos hei, Option.some.injEq] at hi
            subst hi
            simp [Chunk.live] at hli
          · by_cases hej : j = id
            · simp only [if_pos hej, Option.some.injEq] at hj
              subst hj
              simp [Chunk.live] at hlj
            · simp only [if_neg hei] at hi
              simp only [if_neg hej] at hj
              exact hM.apart i j ci cj k hi hj hli hlj hij
        · show CR (w.freeze ⟨g, cur.size, none⟩ 1) S' (.slice (.int .u8)) [a.eval x] xs
          rw [hv, h1]
          refine ⟨some ⟨g, 0, none⟩, cap, rfl, hnc, hcm, fun i n hn => ?_⟩
          obtain ⟨cs, hcr, hcell⟩ := rows_at (cells := css.flatten) ⟨css, rfl, hf⟩ hn
          refine ⟨g, 0, cs, rfl, .inr rfl, CR_stay hst.s hst.w hcr, CR_len hcr, fun j u hu => ?_⟩
          have h3 := hown.cells (g := g) (by simp [h1, Value.ownBlock]) _ u (hcell j u hu)
          rw [Addr.add_lit] at h3
          simp only [World.cell?, hg] at h3
          simp only [World.cell?, f1]
          exact h3
      · exact .no
    · exact .no
  · exact .no

/-! ### a store into an element of a row of one's own -/
theorem F2.of_map {α β γ : Type} {R : α → β → Prop} {f : γ → α} : ∀ {xs : List γ} {ys : List β}, F2 R (xs.map f) ys → F2 (fun x y => R (f x) y) xs ys
  | [], _, h => by cases h; exact .nil
  | _ :: _, _, h => by cases h with | cons a b => exact .cons a (F2.of_map b)
theorem regD_cells {r : Reg} {ds : List D} {fz : Mem} {S1 Dm : Nat → Prop} {ty : TypeId} (hds : regD Δ μ ty r = some (ds, fz)) {v : Value} (h : RegR w S1 Dm η (r.1, ds.map .dat) v) : F2 (fun (x : D) u => CR w S1 x.t [u] x.d) ds v.cells.toList := by
  obtain ⟨ag, ls⟩ := r
  cases ag with
  | true =>
    obtain ⟨cs, rfl, hf⟩ := h
    exact F2.of_map hf
  | false =>
    match ds, h with
    | [x], h =>
      have h : CR w S1 x.t [v] x.d := h
      rw [cells_one (CR_one h v (by simp))]
      exact .cons h .nil
theorem splice_take {α : Type} (cur vs : List α) (p N : Nat) (h1 : p + vs.length ≤ N) (h2 : N ≤ cur.length) :
    (cur.take p ++ vs ++ cur.drop (p + vs.length)).take N = (cur.take N).take p ++ vs ++ (cur.take N).drop (p + vs.length) := by
  have t1 : (cur.take p).length = p := by simp; omega
  rw [List.take_append, List.take_of_length_le (by simp only [List.length_append, t1]; omega), List.take_take, Nat.min_eq_left (by omega), List.length_append, t1, List.drop_take]
theorem flatten_set {α : Type} {sz : Nat} : ∀ (css : List (List α)) (i : Nat) (c vs : List α) (off : Nat), (∀ c ∈ css, c.length = sz) → css[i]? = some c → off + vs.length ≤ sz →
    (css.set i (c.take off ++ vs ++ c.drop (off + vs.length))).flatten = css.flatten.take (i * sz + off) ++ vs ++ css.flatten.drop (i * sz + off + vs.length)
  | [], i, c, vs, off, _, h, _ => by simp at h
  | c0 :: css, 0, c, vs, off, hl, h, hle => by
    simp only [List.getElem?_cons_zero, Option.some.injEq] at h
    subst h
    have h0 : c0.length = sz := hl c0 (by simp)
    rw [List.set_cons_zero, List.flatten_cons, List.flatten_cons, Nat.zero_mul, Nat.zero_add, List.take_append_of_le_length (by omega), List.drop_append_of_le_length (by omega)]
    simp only [List.append_assoc]
  | c0 :: css, i + 1, c, vs, off, hl, h, hle => by
    simp only [List.getElem?_cons_succ] at h
    have h0 : c0.length = sz := hl c0 (by simp)
    have ih := flatten_set css i c vs off (fun c hc => hl c (List.mem_cons_of_mem _ hc)) h hle
    rw [List.set_cons_succ, List.flatten_cons, List.flatten_cons, ih]
    have e : (i + 1) * sz + off = c0.length + (i * sz + off) := by rw [h0, Nat.succ_mul]; omega
    have e2 : (i + 1) * sz + off + vs.length = c0.length + (i * sz + off + vs.length) := by rw [h0, Nat.succ_mul]; omega
    rw [e2, e, List.take_length_add_append, List.drop_length_add_append]
    simp only [List.append_assoc]
theorem row_len {S1 : Nat → Prop} {t : Ty} {xs : List t.den} {css : List (List Value)} (hf : F2 (fun x cs => CR w S1 t cs x) xs css) : ∀ c ∈ css, c.length = t.size := fun c hc => by
  obtain ⟨q, hq⟩ := List.getElem?_of_mem hc
  obtain ⟨y, _, hyr⟩ := hf.get' q c hq
  exact CR_len hyr
theorem flat_len {α : Type} {sz : Nat} : ∀ m : List (List α), (∀ c ∈ m, c.length = sz) → m.flatten.length = m.length * sz
  | [], _ => by simp
  | a :: m, h => by rw [List.flatten_cons, List.length_append, h a (by simp), flat_len m fun c hc => h c (List.mem_cons_of_mem _ hc), List.length_cons, Nat.succ_mul]; omega
theorem flat_take {α : Type} {sz : Nat} (css : List (List α)) (l : Nat) (hall : ∀ c ∈ css, c.length = sz) (hl : l ≤ css.length) : (css.take l).flatten = css.flatten.take (l * sz) ∧ (css.drop l).flatten = css.flatten.drop (l * sz) := by
  have e : css.flatten = (css.take l).flatten ++ (css.drop l).flatten := by rw [← List.flatten_append, List.take_append_drop]
  have h1 : (css.take l).flatten.length = l * sz := by
    rw [flat_len _ fun c hc => hall c (List.mem_of_mem_take hc), List.length_take, Nat.min_eq_left hl]
  have h2 : ((css.take l).flatten ++ (css.drop l).flatten).take (css.take l).flatten.length = (css.take l).flatten := List.take_left
  have h3 : ((css.take l).flatten ++ (css.drop l).flatten).drop (css.take l).flatten.length = (css.drop l).flatten := List.drop_left
  rw [h1, ← e] at h2 h3
  exact ⟨h2.symm, h3.symm⟩
/-- Elements of a row of one's own are written anew. -/
theorem after_write (hM : InvM w0 M S0 μ η S w) {id : Nat} {e : TypeId} {t : Ty} {xs ys : List t.den} {l b c : Nat} {cur : Array Value} {zs : List (List Value)} (hid : μ id = some (.rows e t xs false)) (hη : η id = .slice (some ⟨b, 0, none⟩) xs.length c)
    (hg : w.heap[b]? = some (.cells cur e (0, 0))) (hz : F2 (fun x cs => CR w S t cs x) ys zs) (hl : l + ys.length ≤ xs.length) {v : Value} {x : AV} (hx : ∀ w' S' Dm' η', AVR w' S' Dm' η' x v) :
    After w0 M S0 μ η S w ⟨x, [(id, .rows e t (xs.take l ++ ys ++ xs.drop (l + ys.length)) false)]⟩ v (w.setRow b (cur.toList.take (l * t.size) ++ zs.flatten ++ cur.toList.drop (l * t.size + zs.flatten.length)).toArray) := by
  obtain ⟨cells, hown, hrows, hbl⟩ := hM.chunk id _ hid
  obtain ⟨hcl, hown2⟩ := hown
  rcases hown2 with ⟨h1, _⟩ | ⟨g, cap, cur', hv', hg0, hg', hnc, hcm, hcs, htake⟩
  · rw [hη] at h1; simp at h1
  · rw [hη] at hv'
    simp only [Value.slice.injEq, Option.some.injEq, Addr.mk.injEq, and_true, true_and] at hv'
    obtain ⟨hbg, hcc⟩ := hv'
    subst hbg
    subst hcc
    rw [hg] at hg'
    simp only [Option.some.injEq, Obj.cells.injEq] at hg'
    obtain ⟨hcur, _⟩ := hg'
    subst hcur
    obtain ⟨hnS, hbM⟩ := hbl b (by simp [hη, blk])
    obtain ⟨css, rfl, hcss⟩ := hrows
    have hall := row_len hcss
    have hallz := row_len hz
    have hzl : zs.flatten.length = ys.length * t.size := by rw [flat_len _ hallz, hz.length]
    have hcl2 : css.length = xs.length := hcss.length.symm
    have ht := flat_take css l hall (by omega)
    have hd := flat_take css (l + ys.length) hall (by omega)
    have hfl : (css.take l ++ zs ++ css.drop (l + ys.length)).flatten = css.flatten.take (l * t.size) ++ zs.flatten ++ css.flatten.drop (l * t.size + zs.flatten.length) := by
      rw [List.flatten_append, List.flatten_append, ht.1, hd.2, hzl, Nat.add_mul]
    have hN : l * t.size + ys.length * t.size ≤ xs.length * t.size := by rw [← Nat.add_mul]; exact Nat.mul_le_mul_right _ hl
    have hN2 : xs.length * t.size ≤ c * t.size := Nat.mul_le_mul_right _ hnc
    have hxl : (xs.take l ++ ys ++ xs.drop (l + ys.length)).length = xs.length := by simp only [List.length_append, List.length_take, List.length_drop]; omega
    generalize hw' : w.setRow b (cur.toList.take (l * t.size) ++ zs.flatten ++ cur.toList.drop (l * t.size + zs.flatten.length)).toArray = w'
    have hoth : ∀ k, k ≠ b → w'.heap[k]? = w.heap[k]? := fun k hk => by rw [← hw']; exact setRow_other w b k _ hk
    have hst' : Stay w w' S S (dom μ) (dom (muPut μ [(id, .rows e t (xs.take l ++ ys ++ xs.drop (l + ys.length)) false)])) η η :=
      ⟨fun _ h => h, fun k hk => hoth k (fun e => by subst e; exact hnS hk), dom_put _, fun _ _ => rfl⟩
    refine ⟨η, S, inv_upd hM (by rw [← hw']; exact hM.frame.setRow b _ hbM) (by rw [← hw']; simp) hst' fun j cj hj => ?_, hst', hx _ _ _ _⟩
    rw [muPut_one] at hj
    by_cases he : j = id
    · subst he
      simp only [if_true, Option.some.injEq] at hj
      subst hj
      refine .inr ⟨⟨(css.take l ++ zs ++ css.drop (l + ys.length)).flatten, ⟨?_, .inr ⟨b, c, (cur.toList.take (l * t.size) ++ zs.flatten ++ cur.toList.drop (l * t.size + zs.flatten.length)).toArray, by rw [hxl]; exact hη, Nat.zero_le _, ?_, by rw [hxl]; exact hnc, hcm, ?_, ?_⟩⟩, ⟨_, rfl, ?_⟩, fun k hk => ?_⟩, fun _ k hk q cq hq hcq hlq hkq => ?_⟩
      · rw [hfl, hxl]
        simp only [List.length_append, List.length_take, List.length_drop, hcl, hzl]
        omega
      · rw [← hw']; exact setRow_heap w b cur _ e (0, 0) hg
      · simp only [List.size_toArray, List.length_append, List.length_take, List.length_drop, Array.length_toList, hcs, hzl]
        omega
      · rw [hfl, hxl]
        have := splice_take cur.toList zs.flatten (l * t.size) (xs.length * t.size) (by rw [hzl]; omega) (show xs.length * t.size ≤ cur.toList.length from by have e : cur.toList.length = cur.size := Array.length_toList; omega)
        rw [htake] at this
        exact this
      · have hcss' : F2 (fun x cs => CR w' S t cs x) xs css := hcss.imp fun _ _ h => CR_stay (fun _ h => h) hst'.w h
        have hz' : F2 (fun x cs => CR w' S t cs x) ys zs := hz.imp fun _ _ h => CR_stay (fun _ h => h) hst'.w h
        exact ((hcss'.take l).append hz').append (hcss'.drop (l + ys.length))
      · have hbk : b = k := by simpa [hη, blk] using hk
        subst hbk
        exact ⟨hnS, hbM⟩
      · rw [muPut_one] at hcq
        simp only [if_neg hq] at hcq
        exact hM.apart q j cq (.rows e t xs false) k hcq hid hlq rfl hq hkq hk
    · simp only [if_neg he] at hj
      refine .inl ⟨hj, fun hl k hk => hoth k (fun e => ?_)⟩
      subst e
      exact hM.apart j id cj _ k hj hid hl rfl he hk (by simp [hη, blk])
theorem told_clear (hM : InvM w0 M S0 μ η S w) (hΔ : TysOk P Δ) (T : TypeId) (x : Operand) (c : Call) (ho : o.op = .call c) (hc : c.callee = .builtin .clear) (ha : c.args = #[x]) (hT : c.argTypes = #[T])
    {xa : AV} (hx : AVR w S (dom μ) η xa (a.eval x)) : Told w0 M S0 μ η S P o a w (cClear Δ μ T xa) := by
  have hexec : ∀ v' w', (Builtin.clear_ #[T] o.type #[a.eval x]).run P w = .ok v' w' → (execOp a.eval o).run P w = .ok (.value v') w' := by
    intro v' w' h
    simp [execOp, ho, resolve, hc, ha, hT, invoke, builtin, h]
  unfold cClear
  split
  · rename_i e _ _ _ id sz lo hi _ hTT
    split
    · rename_i e' t xs ei hid hei
      split
      · rename_i hcond
        obtain ⟨rfl, hsz, hty, hsz2, hpos⟩ := hcond
        subst hsz2
        refine .ok fun _ => ?_
        obtain ⟨hd, h0, hlh, A, n, c', A', d', hη, hhn, hv, hcc, hcc2, hAf, hA, _⟩ := hx
        obtain ⟨A1, c1, h1⟩ := rows_head hM hid
        rw [hη] at h1
        simp only [Value.slice.injEq] at h1
        obtain ⟨rfl, rfl, rfl⟩ := h1
        by_cases hl : lo < hi
        · obtain ⟨b, oo, rfl, rfl⟩ := hA hl
          obtain ⟨cells, hown, _, _⟩ := hM.chunk id _ hid
          rcases hown.2 with ⟨h1, _⟩ | ⟨g, cap, cur, hv', hg0, hg, hnc, hcm, hcs, htake⟩
          · rw [hη] at h1; simp at h1
          · rw [hη] at hv'
            simp only [Value.slice.injEq, Option.some.injEq, Addr.mk.injEq, and_true, true_and] at hv'
            obtain ⟨⟨hbg, hoo⟩, hcc⟩ := hv'
            subst hbg
            subst hoo
            subst hcc
            obtain ⟨inf, hi', hs1, hb1, hz1⟩ := (hΔ e' ei hei).size
            obtain ⟨hts, z, hz2, hz3⟩ := hz1 t hty
            have hzs : z.cells.size = t.size := by rw [← Array.length_toList, hz3]; exact CR_len (CR_zero w S t)
            have hzcells : (Builtin.zeroCells z.cells (hi.toNat - lo.toNat)).toList = (List.replicate (hi.toNat - lo.toNat) z.cells.toList).flatten := by
              have h2 := made_take (z := z.cells) (l := hi.toNat - lo.toNat) hzs hpos (Nat.le_refl _)
              have h3 : Builtin.zeroCells z.cells (hi.toNat - lo.toNat) = madeCells z.cells ((hi.toNat - lo.toNat) * t.size) := by unfold Builtin.zeroCells madeCells; rw [hzs]
              rw [h3, ← h2, List.take_of_length_le (by simp [size_madeCells])]
            have hone : CR w S t z.cells.toList t.dflt := by rw [hz3]; exact CR_zero w S t
            have hrep : F2 (fun x cs => CR w S t cs x) (List.replicate (hi.toNat - lo.toNat) t.dflt) (List.replicate (hi.toNat - lo.toNat) z.cells.toList) := by
              generalize hi.toNat - lo.toNat = m
              induction m with
              | zero => exact .nil
              | succ m ih => exact .cons hone ih
            have hfl : (List.replicate (hi.toNat - lo.toNat) z.cells.toList).flatten.length = (hi.toNat - lo.toNat) * t.size := by
              rw [flat_len (sz := t.size) _ fun c hc => by rw [(List.mem_replicate.1 hc).2, Array.length_toList]; exact hzs, List.length_replicate]
            have hmul : (lo.toNat + (hi.toNat - lo.toNat)) * t.size ≤ c' * t.size := Nat.mul_le_mul_right _ (by omega)
            rw [Nat.add_mul] at hmul
            have hst := run_storeCells_at P b (lo.toNat * t.size) e' (Builtin.zeroCells z.cells (hi.toNat - lo.toNat)).toList 0 cur w hg (by rw [hzcells, hfl, hcs]; omega) (by
              rw [hzcells]
              intro u hu
              obtain ⟨cs, q1, q2⟩ := List.mem_flatten.1 hu
              rw [(List.mem_replicate.1 q1).2] at q2
              exact CR_one hone u q2)
            simp only [Nat.add_zero] at hst
            have hA := after_write (x := .tup []) (v := .tuple #[]) (l := lo.toNat) hM hid hη hg hrep (by simp only [List.length_replicate]; omega) (fun _ _ _ _ => ⟨#[], rfl, .nil⟩)
            rw [List.length_replicate, show lo.toNat + (hi.toNat - lo.toNat) = hi.toNat by omega, ← hzcells] at hA
            refine goes_value (hexec _ _ ?_) hA
            obtain ⟨m, hm⟩ : ∃ m, hi.toNat - lo.toNat = m + 1 := ⟨hi.toNat - lo.toNat - 1, by omega⟩
            rw [hm] at hst
            rw [hv, hm, Nat.zero_add]
            simp [Builtin.clear_, run_underlying (tys_slice hΔ hTT), zeroValue, typeInfo, hi', hz2, hst]
        · have hlh2 : lo = hi := by omega
          subst hlh2
          have e1 : muPut μ [(id, .rows e' t (xs.take lo.toNat ++ List.replicate (lo.toNat - lo.toNat) t.dflt ++ xs.drop lo.toNat) false)] = μ := by
            rw [Nat.sub_self, List.replicate_zero, List.append_nil, List.take_append_drop, muPut_one]
            funext i
            by_cases he : i = id
            · subst he; simp [hid]
            · simp [he]
          refine goes_value (v := .tuple #[]) (w' := w) (hexec _ _ ?_) ⟨η, S, ?_, ?_, ?_⟩
          · rw [hv, Nat.sub_self]
            cases A' <;> simp [Builtin.clear_, run_underlying (tys_slice hΔ hTT)]
          · show InvM w0 M S0 (muPut μ [(id, .rows e' t (xs.take lo.toNat ++ List.replicate (lo.toNat - lo.toNat) t.dflt ++ xs.drop lo.toNat) false)]) η S w
            rw [e1]; exact hM
          · show Stay w w S S (dom μ) (dom (muPut μ [(id, .rows e' t (xs.take lo.toNat ++ List.replicate (lo.toNat - lo.toNat) t.dflt ++ xs.drop lo.toNat) false)])) η η
            rw [e1]; exact Stay.refl _ _ _ _
          · exact ⟨#[], rfl, .nil⟩
      · exact .no
    · exact .no
  · exact .no
theorem told_storeElt (hM : InvM w0 M S0 μ η S w) (hΔ : TysOk P Δ) (T : TypeId) (x y : Operand) (ho : o.op = .store T x y) {id sz off : Nat} {i : Int} (hx : LR w S (dom μ) η (.elt id sz i off) (a.eval x)) {ya : AV} (hy : AVR w S (dom μ) η ya (a.eval y)) :
    Told w0 M S0 μ η S P o a w (cStoreElt Δ μ T id sz i off ya) := by
  unfold cStoreElt
  split
  · rename_i r ti hT
    split
    · rename_i ds fz e t xs hds hid
      split
      · rename_i y' hj
        split
        · rename_i hcond
          obtain ⟨hsz, hpos, hlen, hle, hfz⟩ := hcond
          subst hsz
          refine .ok fun hi => ?_
          obtain ⟨hd, h0, b, oo, n, c, hη, hv⟩ := hx
          obtain ⟨S1, i1, s1, f1, c1⟩ := regD_is hM (Fz.refl μ) hds (show RegR w S (dom μ) η r (a.eval y) from hy)
          have hvs := regD_cells hds c1
          have hid1 : muPut μ fz id = some (.rows e t xs false) := by
            rw [muPut_off fz fun p hp e => by
              have := List.all_eq_true.1 hfz p hp
              simp [e] at this]
            exact hid
          obtain ⟨cells, hown, hrows, hbl⟩ := i1.chunk id _ hid1
          obtain ⟨hcl, hown2⟩ := hown
          rcases hown2 with ⟨h1, _⟩ | ⟨g, cap, cur, hv', hg0, hg, hnc, hcm, hcs, htake⟩
          · rw [hη] at h1; simp at h1
          · have hgb : (b = g ∧ oo = 0) ∧ n = xs.length ∧ c = cap := by rw [hη] at hv'; simpa using hv'
            obtain ⟨⟨hbg, hoo⟩, hnn, hcc⟩ := hgb
            subst hbg
            subst hoo
            subst hnn
            subst hcc
            obtain ⟨hnS, hbM⟩ := hbl b (by simp [hη, blk])
            have hil : i.toNat < xs.length := by omega
            have hlen' : (a.eval y).cells.toList.length = ds.length := hvs.length.symm
            have hsize : (a.eval y).cells.size = ti.size := by rw [← hlen, ← hlen']; simp
            obtain ⟨css, rfl, hcss⟩ := hrows
            have hone : ∀ u ∈ (a.eval y).cells.toList, u.oneCell' = true := by
              intro u hu
              obtain ⟨j, hj⟩ := List.getElem?_of_mem hu
              obtain ⟨d, _, hd⟩ := hvs.get' j u hj
              exact CR_one hd u (by simp)
            have hN : (i.toNat + 1) * t.size ≤ xs.length * t.size := Nat.mul_le_mul_right _ hil
            have hN2 : xs.length * t.size ≤ c * t.size := Nat.mul_le_mul_right _ hnc
            rw [Nat.succ_mul] at hN
            have hst := run_storeCells_at P b (i.toNat * t.size + off) e (a.eval y).cells.toList 0 cur w hg (by rw [hcs, hlen']; omega) hone
            simp only [Nat.add_zero] at hst
            rw [Nat.zero_add] at hv
            refine goes_skip (w' := w.setRow b (cur.toList.take (i.toNat * t.size + off) ++ (a.eval y).cells.toList ++ cur.toList.drop (i.toNat * t.size + off + (a.eval y).cells.toList.length)).toArray) ?_ ?_
            · simp only [execOp, ho, hv, Instr.storeAt, Instr.sureAddr, Sem.run_bind, Sem.run_pure, Result.andThen_ok, storeVar, run_sizeOf (hΔ T ti hT), hsize, ne_eq, not_true_eq_false, if_false, hst]
            · refine after_pre s1 ?_
              generalize hw' : w.setRow b (cur.toList.take (i.toNat * t.size + off) ++ (a.eval y).cells.toList ++ cur.toList.drop (i.toNat * t.size + off + (a.eval y).cells.toList.length)).toArray = w'
              have hoth : ∀ k, k ≠ b → w'.heap[k]? = w.heap[k]? := fun k hk => by rw [← hw']; exact setRow_other w b k _ hk
              have hst' : Stay w w' S1 S1 (dom (muPut μ fz)) (dom (muPut (muPut μ fz) [(id, .rows e t (xs.set i.toNat y') false)])) η η :=
                ⟨fun _ h => h, fun k hk => hoth k (fun e => by subst e; exact hnS hk), dom_put _, fun _ _ => rfl⟩
              refine ⟨η, S1, inv_upd i1 (by rw [← hw']; exact i1.frame.setRow b _ hbM) (by rw [← hw']; simp) hst' fun j cj hj => ?_, hst', trivial⟩
              rw [muPut_one] at hj
              by_cases he : j = id
              · subst he
                simp only [if_true, Option.some.injEq] at hj
                subst hj
                obtain ⟨cs0, hcs0, hcr0⟩ := hcss.get i.toNat (xs.getD i.toNat t.dflt) (by rw [List.getD_eq_getElem?_getD, List.getElem?_eq_getElem hil]; rfl)
                have hall : ∀ c ∈ css, c.length = t.size := fun c hc => by
                  obtain ⟨q, hq⟩ := List.getElem?_of_mem hc
                  obtain ⟨y, _, hyr⟩ := hcss.get' q c hq
                  exact CR_len hyr
                have hfs := flatten_set css i.toNat cs0 (a.eval y).cells.toList off hall hcs0 (by rw [hlen']; exact hle)
                have hnew : CR w S1 t (cs0.take off ++ (a.eval y).cells.toList ++ cs0.drop (off + (a.eval y).cells.toList.length)) y' := by
                  have hp := CR_parts hcr0
                  have hsp : F2 (fun (x : D) u => CR w S1 x.t [u] x.d) (spliceD (parts t (xs.getD i.toNat t.dflt)) off ds) (cs0.take off ++ (a.eval y).cells.toList ++ cs0.drop (off + (a.eval y).cells.toList.length)) := by
                    rw [hlen']
                    exact ((hp.take off).append hvs).append (hp.drop (off + ds.length))
                  obtain ⟨q1, q2, e1, e2, e3⟩ := CR_join hj hsp
                  cases e3
                  rw [List.append_nil] at e1
                  rw [e1]; exact e2
                refine .inr ⟨⟨(css.set i.toNat (cs0.take off ++ (a.eval y).cells.toList ++ cs0.drop (off + (a.eval y).cells.toList.length))).flatten, ⟨?_, .inr ⟨b, c, (cur.toList.take (i.toNat * t.size + off) ++ (a.eval y).cells.toList ++ cur.toList.drop (i.toNat * t.size + off + (a.eval y).cells.toList.length)).toArray, ?_, Nat.zero_le _, ?_, by rw [List.length_set]; exact hnc, hcm, ?_, ?_⟩⟩, ⟨_, rfl, ?_⟩, fun k hk => ?_⟩, fun _ k hk q cq hq hcq hlq hkq => ?_⟩
                · rw [hfs, List.length_set]
                  simp only [List.length_append, List.length_take, List.length_drop, hcl, hlen']
                  omega
                · rw [List.length_set]; exact hη
                · rw [← hw']; exact setRow_heap w b cur _ e (0, 0) hg
                · simp only [List.size_toArray, List.length_append, List.length_take, List.length_drop, Array.length_toList, hcs, hlen']
                  omega
                · rw [hfs, List.length_set]
                  have := splice_take cur.toList (a.eval y).cells.toList (i.toNat * t.size + off) (xs.length * t.size) (by rw [hlen']; omega) (show xs.length * t.size ≤ cur.toList.length from by have e : cur.toList.length = cur.size := Array.length_toList; omega)
                  rw [htake] at this
                  exact this
                · have hcss' : F2 (fun x cs => CR w' S1 t cs x) xs css := hcss.imp fun _ _ h => CR_stay (fun _ h => h) hst'.w h
                  exact hcss'.set i.toNat (CR_stay (fun _ h => h) hst'.w hnew)
                · exact ⟨fun hs => hnS (by
                    have : b = k := by simpa [hη, blk] using hk
                    rw [this]; exact hs), by
                    have : b = k := by simpa [hη, blk] using hk
                    rw [← this]; exact hbM⟩
                · rw [muPut_one] at hcq
                  simp only [if_neg hq] at hcq
                  exact i1.apart q j cq (.rows e t xs false) k hcq hid1 hlq rfl hq hkq hk
              · simp only [if_neg he] at hj
                refine .inl ⟨hj, fun hl k hk => hoth k (fun e => ?_)⟩
                subst e
                exact i1.apart j id cj _ k hj hid1 hl rfl he hk (by simp [hη, blk])
        · exact .no
      · exact .no
    · exact .no
  · exact .no
theorem told_storeBox (hM : InvM w0 M S0 μ η S w) (hΔ : TysOk P Δ) (T : TypeId) (x y : Operand) (ho : o.op = .store T x y) {xa ya : AV} (hx : AVR w S (dom μ) η xa (a.eval x)) (hy : AVR w S (dom μ) η ya (a.eval y)) :
    Told w0 M S0 μ η S P o a w (cStoreBox Δ μ T xa ya) := by
  unfold cStoreBox
  split
  · rename_i id off vs i h1 hT
    split
    · rename_i ls hid
      split
      · rename_i hcond
        obtain ⟨hsz, hle, hp⟩ := hcond
        refine .ok fun _ => ?_
        obtain ⟨hd, b, hη, hv⟩ := hx
        obtain ⟨b', T', cs, hη', hb, hf, hpl, hnS, hbM⟩ := hM.chunk id _ hid
        have hbb : b' = b := by rw [hη] at hη'; simpa using hη'.symm
        subst hbb
        have hfv : F2 (LR w S (dom μ) η) vs (a.eval y).cells.toList := partLeaves_is h1 hp hy
        have hlen := hfv.length
        have hlenc := hf.length
        have hst := run_storeCells_at P b' off T' (a.eval y).cells.toList 0 cs w hb (by simp at hlen hlenc ⊢; omega) (plains_one hp hfv)
        simp only [Nat.add_zero] at hst
        have hsize : (a.eval y).cells.size = i.size := by rw [← hsz, hlen]; simp
        refine goes_skip (w' := w.setRow b' (cs.toList.take off ++ (a.eval y).cells.toList ++ cs.toList.drop (off + (a.eval y).cells.toList.length)).toArray) ?_ ?_
        · simp only [execOp, ho, hv, Instr.storeAt, Instr.sureAddr, Sem.run_bind, Sem.run_pure, Result.andThen_ok, storeVar, run_sizeOf (hΔ T i hT), hsize, ne_eq, not_true_eq_false, if_false, hst]
        · have hst' : Stay w (w.setRow b' (cs.toList.take off ++ (a.eval y).cells.toList ++ cs.toList.drop (off + (a.eval y).cells.toList.length)).toArray) S S (dom μ) (dom (muPut μ [(id, .box (splice ls off vs))])) η η :=
            ⟨fun _ h => h, fun k hk => setRow_other w b' k _ (fun e => by subst e; exact hnS hk), dom_put _, fun _ _ => rfl⟩
          refine ⟨η, S, inv_upd hM (hM.frame.setRow b' _ hbM) (by simp) hst' fun j c hj => ?_, hst', trivial⟩
          rw [muPut_one] at hj
          by_cases he : j = id
          · subst he
            simp only [if_true, Option.some.injEq] at hj
            subst hj
            refine .inr ⟨⟨b', T', _, hη, setRow_heap w b' cs _ T' (0, 0) hb, ?_, ?_, hnS, hbM⟩, fun _ k hk q cq hq hcq hlq hkq => ?_⟩
            · have h3 := (((hf.take off).append hfv).append (hf.drop (off + vs.length))).imp fun _ _ => LR_stay hst'
              simp only [splice] at h3 ⊢
              rw [hlen] at h3 ⊢
              exact h3
            · simp only [splice, List.all_append, Bool.and_eq_true]
              have hall := List.all_eq_true.1 hpl
              exact ⟨⟨List.all_eq_true.2 fun l hl => hall l (List.mem_of_mem_take hl), hp⟩, List.all_eq_true.2 fun l hl => hall l (List.mem_of_mem_drop hl)⟩
            · rw [muPut_one] at hcq
              simp only [if_neg hq] at hcq
              exact hM.apart q j cq (.box ls) k hcq hid hlq rfl hq hkq hk
          · simp only [if_neg he] at hj
            refine .inl ⟨hj, fun hl k hk => setRow_other w b' k _ (fun e => ?_)⟩
            subst e
            exact hM.apart j id c (.box ls) k hj hid hl rfl he hk (by simp [hη, blk])
      · exact .no
    · exact .no
  · exact .no

theorem told_store (hM : InvM w0 M S0 μ η S w) (hΔ : TysOk P Δ) (T : TypeId) (x y : Operand) (ho : o.op = .store T x y) {xa ya : AV} (hx : AVR w S (dom μ) η xa (a.eval x)) (hy : AVR w S (dom μ) η ya (a.eval y)) :
    Told w0 M S0 μ η S P o a w (cStore Δ μ T xa ya) := by
  unfold cStore
  split
  · exact told_storeElt hM hΔ T x y ho hx hy
  · exact told_storeBox hM hΔ T x y ho hx hy
end
end Go.Ab
