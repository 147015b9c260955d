/- The steps of append to a slice without room, of append of a string's bytes, and of conversions between strings and bytes ('Ab'). -/
import Derived.Test.YtafjegmiildnkaaAbOps6
import Derived.Lib.ConvBytes
import Derived.Lib.AppendStr
import Derived.Laws.BytesArg
set_option linter.unusedVariables false
set_option linter.unusedSimpArgs false
set_option linter.unnecessarySimpa false
namespace Go.Ab
open Go.RowKit Go.Lib
section
variable {P : Program} {Δ : Tys} {w0 w w' : World} {M S0 S : Nat → Prop} {tm : List AV} {μ μ' : Mu} {η η' : Nat → Value} {a : Act} {o : Oper}
/-- New blocks alone, that are only read from then on. -/
theorem inv_grow (hM : InvM w0 M S0 μ η S w) (h1 : w'.os = w.os) (h2 : w'.tape = w.tape) (h3 : w'.output = w.output) (hsz : w.heap.size ≤ w'.heap.size) (hold : ∀ k, k < w.heap.size → w'.heap[k]? = w.heap[k]?) :
    InvM w0 M S0 μ η (fun b => S b ∨ (w.heap.size ≤ b ∧ b < w'.heap.size)) w' ∧ Stay w w' S (fun b => S b ∨ (w.heap.size ≤ b ∧ b < w'.heap.size)) (dom μ) (dom μ) η η := by
  have hst : Stay w w' S (fun b => S b ∨ (w.heap.size ≤ b ∧ b < w'.heap.size)) (dom μ) (dom μ) η η := ⟨fun _ h => .inl h, fun b hb => hold b (hM.lt b hb), fun _ h => h, fun _ _ => rfl⟩
  refine ⟨⟨⟨h1.trans hM.frame.os, h2.trans hM.frame.tape, h3.trans hM.frame.output, Nat.le_trans hM.frame.size hsz, fun k hk hm => ?_⟩, fun b hb => .inl (hM.sub b hb), fun b hb => ?_, fun b hb => ?_, fun i c hi => ?_, hM.apart⟩, hst⟩
  · rw [hold k (Nat.lt_of_lt_of_le hk hM.frame.size)]; exact hM.frame.block k hk hm
  · rcases hb with hb | hb
    · exact Nat.lt_of_lt_of_le (hM.lt b hb) hsz
    · exact hb.2
  · rcases hb with hb | hb
    · exact hM.from_ b hb
    · exact .inr (.inl (Nat.le_trans hM.frame.size hb.1))
  · refine ChunkR_stay hst (show dom μ i by simp [dom, hi]) (fun hl k hk => hold k (live_blk hM hi hl hk).1) (fun hl k hk hs => ?_) (hM.chunk i c hi)
    rcases hs with hs | hs
    · exact (live_blk hM hi hl hk).2.1 hs
    · have := (live_blk hM hi hl hk).1
      omega
theorem told_moveAny (hM : InvM w0 M S0 μ η S w) {new : Nat} (hnew : μ new = none) (x : Operand) (ho : o.op = .move x ∨ o.op = .assign x) {xa : AV} (hx : AVR w S (dom μ) η xa (a.eval x)) :
    Told w0 M S0 μ η S P o a w (cMoveAny Δ μ new o.type xa) := by
  unfold cMoveAny
  split
  · unfold cMoveRo
    split
    · exact told_movenil hM hnew x ho hx
    · rename_i l hl
      split
      · rename_i z fz hz
        refine .ok fun _ => ?_
        obtain ⟨S', i1, s1, _, c1⟩ := leafD_is hM (Fz.refl μ) hz (show LR w S (dom μ) η l (a.eval x) from hx)
        exact goes_value (v := a.eval x) (w' := w) (by rcases ho with ho | ho <;> simp [execOp, ho]) ⟨η, S', i1, s1, c1⟩
      · exact .no
    · exact .no
  · exact told_movenil hM hnew x ho hx
theorem bin_exec (op : BinOp) (T U : TypeId) (x y : Operand) (ho : o.op = .binOp op T x y U) (v : Value) (h1 : ∀ cs ds, a.eval x = .agg cs → a.eval y = .agg ds → False) (h2 : a.eval x = .nilIface → False)
    (h : (binOp op T (a.eval x) (a.eval y)).run P w = .ok v w) : (execOp a.eval o).run P w = .ok (.value v) w := by
  have hg : (eqGuard op T x y (a.eval x) (a.eval y)).run P w = .ok () w := by
    have key : ∀ op : BinOp, (op = .eql ∨ op = .neq) → (eqGuard op T x y (a.eval x) (a.eval y)).run P w = .ok () w := by
      intro op hop
      unfold eqGuard
      rcases hop with rfl | rfl <;>
      · simp only [Bool.not_true, Bool.false_eq_true, if_false]
        split
        · rename_i e _; exact (h2 e).elim
        · rename_i e1 e2; exact (h1 _ _ e1 e2).elim
        · rfl
    cases op <;> first | exact key _ (.inl rfl) | exact key _ (.inr rfl) | rfl
  simp only [execOp, ho, Sem.run_bind, hg, Result.andThen, h]
  rfl
theorem run_eq_nil {T e : TypeId} (hu : P.underlying T = some (.slice e)) (A : Option Addr) (n c : Nat) (w : World) : (Op.equal T (.slice A n c) (.slice none 0 0)).run P w = .ok A.isNone w := by
  have e : Op.equal T (.slice A n c) (.slice none 0 0) = Op.equalIn (9999 + 1) T (.slice A n c) (.slice none 0 0) := rfl
  rw [e, Op.equalIn]
  cases A <;> simp only [Sem.run_bind, run_underlying hu, Result.andThen] <;> rfl
theorem told_binNil (hM : InvM w0 M S0 μ η S w) (hΔ : TysOk P Δ) (op : BinOp) (T U : TypeId) (x y : Operand) (ho : o.op = .binOp op T x y U) {xa ya : AV}
    (hx : AVR w S (dom μ) η xa (a.eval x)) (hy : AVR w S (dom μ) η ya (a.eval y)) (hn : isNilsV ya = true) : Told w0 M S0 μ η S P o a w (cBinNil Δ op T xa) := by
  have hyv : a.eval y = .slice none 0 0 := by
    unfold isNilsV at hn
    split at hn
    · exact hy
    · cases hn
  have run : ∀ {A n c}, a.eval x = .slice A n c → ∀ {e}, kindOf Δ T = some (.slice e) → (op = .eql → (execOp a.eval o).run P w = .ok (.value (.bool A.isNone)) w) ∧ (op = .neq → (execOp a.eval o).run P w = .ok (.value (.bool (!A.isNone))) w) := by
    intro A n c hv e hk
    have hu : P.underlying T = some (.slice e) := by
      unfold kindOf at hk
      cases hg : Δ.get T with
      | none => rw [hg] at hk; cases hk
      | some i =>
        rw [hg] at hk
        simp only [Option.map_some, Option.some.injEq] at hk
        obtain ⟨d, hd, hkk⟩ := (hΔ T i hg).und
        rw [hk] at hkk
        cases d <;> simp [descOk] at hkk
        subst hkk; exact hd
    refine ⟨fun hop => ?_, fun hop => ?_⟩ <;> subst hop
    · exact bin_exec .eql T U x y ho _ (fun cs ds h => by rw [hv] at h; cases h) (fun h => by rw [hv] at h; cases h) (by rw [hv, hyv]; simp only [binOp, Sem.run_bind, run_eq_nil hu, Result.andThen]; rfl)
    · exact bin_exec .neq T U x y ho _ (fun cs ds h => by rw [hv] at h; cases h) (fun h => by rw [hv] at h; cases h) (by rw [hv, hyv]; simp only [binOp, Sem.run_bind, run_eq_nil hu, Result.andThen]; rfl)
  unfold cBinNil
  split
  · rename_i z b hk
    obtain ⟨_, A, n, c, hv, hb⟩ := (show LR w S (dom μ) η (.kn z b) (a.eval x) from hx)
    split
    · exact told_pure (goes_pure hM (hb ▸ (run hv hk).1 rfl) (avr_bool _))
    · exact told_pure (goes_pure hM (hb ▸ (run hv hk).2 rfl) (avr_bool _))
    · exact .no
  · rename_i t xs hk
    obtain ⟨A, c, hv, _, _, hrow⟩ := (show CR w S (.slice t) [a.eval x] xs from hx)
    simp only [List.cons.injEq, and_true] at hv
    have hA : 0 < xs.length → A.isNone = false := fun hl => by
      obtain ⟨b, oo, cs, hA, _⟩ := hrow 0 _ (List.getElem?_eq_getElem hl)
      rw [hA]; rfl
    split
    · refine .ok fun hc => goes_pure hM (v := .bool false) ?_ (avr_bool _)
      have := (run hv hk).1 rfl
      rwa [hA hc] at this
    · refine .ok fun hc => goes_pure hM (v := .bool true) ?_ (avr_bool _)
      have := (run hv hk).2 rfl
      rwa [hA hc] at this
    · exact .no
  · exact .no
theorem run_append_zero (t ty e : TypeId) (i : TypeInfo) (ht : P.underlying t = some (.slice e)) (hi : P.info? e = some i) (A B : Option Addr) (n cap c : Nat) (hn : n ≤ cap) (w : World) :
    (Builtin.append_ #[t, t] ty #[.slice A n cap, .slice B 0 c]).run P w = .ok (.slice A n cap) w := by
  have hf : (Builtin.firstCells i.size 0 (.slice B 0 c)).run P w = .ok #[] w := by
    cases B with
    | none => exact run_firstCells_none w i.size 0 0 c
    | some b => exact run_firstCells_some w i.size 0 b 0 c [] (by simp) (fun j v h => by simp at h)
  cases A <;> simp [Builtin.append_, run_underlying ht, sizeOf, typeInfo, hi, Builtin.lenOf, hn, hf, storeCells]
/-- What was put together reads as it should. -/
theorem CR_made {t : Ty} {xs : List t.den} {css : List (List Value)} {S' : Nat → Prop} {g cap : Nat} {cur : Array Value} {e : TypeId} (hg : w'.heap[g]? = some (.cells cur e (0, 0))) (hS : S' g)
    (hf : F2 (fun x cs => CR w' S' t cs x) xs css) (hcur : cur.toList.take css.flatten.length = css.flatten) (h1 : xs.length ≤ cap) (h2 : cap ≤ maxLen) : CR w' S' (.slice t) [.slice (some ⟨g, 0, none⟩) xs.length cap] xs := by
  refine ⟨some ⟨g, 0, none⟩, cap, rfl, h1, h2, fun i x hx => ?_⟩
  obtain ⟨cs, hcr, hcell⟩ := rows_at (cells := css.flatten) ⟨css, rfl, hf⟩ hx
  refine ⟨g, 0, cs, rfl, hS, hcr, CR_len hcr, fun j u hu => ?_⟩
  have h3 := hcell j u hu
  rw [← hcur, List.getElem?_take] at h3
  split at h3
  · simp only [World.cell?, hg, Nat.zero_add]
    rw [← Array.getElem?_toList]
    simpa using h3
  · cases h3
theorem told_append_cl (hM : InvM w0 M S0 μ η S w) (hΔ : TysOk P Δ) (T : TypeId) (x y : Operand) (c : Call) (ho : o.op = .call c) (hc : c.callee = .builtin .append) (ha : c.args = #[x, y]) (hT : c.argTypes = #[T, T])
    {xa ya : AV} (hx : AVR w S (dom μ) η xa (a.eval x)) (hy : AVR w S (dom μ) η ya (a.eval y)) : Told w0 M S0 μ η S P o a w (cAppendCl Δ μ T xa ya) := by
  have hexec : ∀ v' w', (Builtin.append_ #[T, T] o.type #[a.eval x, a.eval y]).run P w = .ok v' w' → (execOp a.eval o).run P w = .ok (.value v') w' := by
    intro v' w' h
    simp [execOp, ho, resolve, hc, ha, hT, invoke, builtin, h]
  unfold cAppendCl
  split
  · rename_i t xs l e _ _ _ hTT
    split
    · rename_i t' ys ei hsl hei
      split
      · rename_i htt
        subst htt
        split
        · rename_i hcond
          obtain ⟨hsz, hpos, hzero⟩ := hcond
          refine .ok fun hb => ?_
          obtain ⟨hbytes, h63⟩ := hb
          have hxl : CR w S (.slice t') [a.eval x] xs ∧ ∃ A n, a.eval x = .slice A n n := hx
          obtain ⟨hcr, A0, n0, hA0⟩ := hxl
          obtain ⟨A, cx, cssx, hvx, hfx, hlx, hnonex, hcx⟩ := sliceOf_cells (l := .dat ⟨.slice t', xs⟩) hM rfl (show LR w S (dom μ) η (.dat ⟨.slice t', xs⟩) (a.eval x) from hcr)
          obtain ⟨B, cy, css, hvy, hfy, hly, hnone, hcy⟩ := sliceOf_cells hM hsl (show LR w S (dom μ) η l (a.eval y) from hy)
          have hcap : cx = xs.length := by rw [hvx] at hA0; cases hA0; rfl
          obtain ⟨inf, hinf, hs1, hb1, hz1⟩ := (hΔ e ei hei).size
          obtain ⟨ty, hty⟩ := Option.isSome_iff_exists.1 hzero
          obtain ⟨hts, z, hz2, hz3⟩ := hz1 ty hty
          by_cases hye : ys.length = 0
          · have hy0 : ys = [] := List.eq_nil_of_length_eq_zero hye
            subst hy0
            refine goes_value (v := a.eval x) (w' := w) (hexec _ _ ?_) ⟨η, S, hM, Stay.refl _ _ _ _, ?_⟩
            · rw [hvx, hvy, hcap]
              exact run_append_zero T o.type e inf (tys_slice hΔ hTT) hinf A B xs.length xs.length cy (Nat.le_refl _) w
            · show CR w S (.slice t') [a.eval x] (xs ++ [])
              rw [List.append_nil]; exact hcr
          · cases B with
            | none => exact absurd (congrArg List.length (hnone rfl)) hye
            | some ad =>
              let cap := grownCap w (xs.length + ys.length) xs.length e
              let cur : Array Value := cssx.flatten.toArray ++ css.flatten.toArray ++ Builtin.zeroCells z.cells (cap - (xs.length + ys.length))
              let w1 := w.drew.alloc (.cells cur e)
              have hrun : (Builtin.append_ #[T, T] o.type #[a.eval x, a.eval y]).run P w = .ok (.slice (some ⟨w.heap.size, 0, none⟩) (xs.length + ys.length) cap) w1 := by
                rw [hvx, hvy, hcap]
                cases A with
                | none =>
                  have h0 : xs = [] := hnonex rfl
                  subst h0
                  have hc0 : cssx = [] := by cases hfx; rfl
                  subst hc0
                  have := run_append_nil (P := P) w T o.type e inf z (tys_slice hΔ hTT) hinf hz2 ad ys.length cy css.flatten (by rw [hly, hs1, hsz]) (hcy ad rfl) (by omega) (by simp only [List.length_nil, Nat.zero_add] at h63; omega) (by simp only [List.length_nil, Nat.zero_add] at hbytes; rw [hb1]; omega)
                  simpa [w1, cur, cap] using this
                | some ad0 =>
                  exact run_append_grow (P := P) w T o.type e inf z (tys_slice hΔ hTT) hinf hz2 ad0 xs.length xs.length cssx.flatten (by rw [hlx, hs1, hsz]) (hcx ad0 rfl) ad ys.length cy css.flatten (by rw [hly, hs1, hsz]) (hcy ad rfl) (by omega) (by omega)
                    (by rw [hb1]; exact growslice_fits (by omega) hbytes)
              obtain ⟨i1, s1⟩ := inv_grow (w' := w1) hM rfl rfl rfl (by simp [w1]) (fun k hk => heap_alloc_old w.drew _ k hk)
              refine goes_value (hexec _ _ hrun) ⟨η, _, i1, s1, ?_⟩
              have hnew : w1.heap[w.heap.size]? = some (.cells cur e (0, 0)) := heap_alloc_new w.drew _
              have := CR_made (t := t') (xs := xs ++ ys) (css := cssx ++ css) (S' := fun b => S b ∨ (w.heap.size ≤ b ∧ b < w1.heap.size)) (cap := cap) hnew (.inr ⟨Nat.le_refl _, by simp [w1]⟩)
                ((hfx.append hfy).imp fun _ _ h => CR_stay s1.s s1.w h) (by simp only [cur, Array.toList_append, List.flatten_append]; exact List.take_left) (by rw [List.length_append]; exact grownCap_ge _ _ _ _) (grownCap_le_maxLen _ _ _ _ (by simp only [maxLen]; omega))
              rw [List.length_append] at this
              exact this
        · exact .no
      · exact .no
    · exact .no
  · exact .no
theorem kind_get {T : TypeId} {k : TK} (h : kindOf Δ T = some k) : ∃ s b ty, Δ.get T = some ⟨k, s, b, ty⟩ := by
  unfold kindOf at h
  cases hg : Δ.get T with
  | none => rw [hg] at h; cases h
  | some i =>
    rw [hg] at h
    simp only [Option.map_some, Option.some.injEq] at h
    subst h
    exact ⟨i.size, i.bytes, i.ty, rfl⟩
theorem kind_str (hΔ : TysOk P Δ) {T : TypeId} (h : kindOf Δ T = some .str) : P.underlying T = some .string := by
  obtain ⟨s, b, ty, hg⟩ := kind_get h
  exact tys_str hΔ hg
theorem kind_int (hΔ : TysOk P Δ) {T : TypeId} {k : IntKind} (h : kindOf Δ T = some (.int k)) : P.underlying T = some (.int k) := by
  obtain ⟨s, b, ty, hg⟩ := kind_get h
  obtain ⟨u', hu', hk⟩ := (hΔ T _ hg).und
  have : u' = .int k := by cases u' <;> simp [descOk] at hk; rw [hk]
  subst this
  exact hu'
theorem kind_slice (hΔ : TysOk P Δ) {T e : TypeId} (h : kindOf Δ T = some (.slice e)) : P.underlying T = some (.slice e) := by
  obtain ⟨s, b, ty, hg⟩ := kind_get h
  exact tys_slice hΔ hg
theorem bytesOfStr_cells (s : ByteArray) : strCells s = (bytesOfStr s).map (Value.int .u8) := by simp [strCells, bytesOfStr]
theorem bytes_F2 (S' : Nat → Prop) (w : World) : ∀ l : List Int, F2 (fun x cs => CR w S' (.int .u8) cs x) l (l.map fun n => [Value.int .u8 n])
  | [] => .nil
  | n :: l => .cons rfl (bytes_F2 S' w l)
theorem bytes_flat (l : List Int) : (l.map fun n => [Value.int .u8 n]).flatten = l.map (Value.int .u8) := by
  induction l with
  | nil => rfl
  | cons n l ih => simp [ih]
theorem bytesOfStr_length (s : ByteArray) : (bytesOfStr s).length = s.size := by simp [bytesOfStr]
theorem append_str_own (t u ty e : TypeId) (i : TypeInfo) (ht : P.underlying t = some (.slice e)) (hu : P.underlying u = some .string) (hi : P.info? e = some i) (hz : i.zero = some (.int .u8 0)) (hsize : i.size = 1) (hby : i.bytes = 1)
    (v : Value) (n : Nat) (xs : List Value) (hown : w.ownsRow 0 e 1 v n xs) (s : ByteArray) (h63 : n + s.size ≤ maxLen) (hbytes : n + s.size ≤ 140737488355328) :
    ∃ v' w', (Builtin.append_ #[t, u] ty #[v, .string s]).run P w = .ok v' w' ∧ w'.ownsRow 0 e 1 v' (n + s.size) (xs ++ strCells s) ∧ w.grownBy w' v.ownBlock ∧ (v'.ownBlock = v.ownBlock ∨ v'.ownBlock = some w.heap.size) := by
  obtain ⟨v', w', h1, h2, h3, h4⟩ := run_append_own_string (P := P) w 0 t u ty e i ht hu hi hz hsize hby v n xs hown s h63 hbytes (Nat.zero_le _)
  refine ⟨v', w', h1, h2, h3, ?_⟩
  have hsmall : n + s.size ≤ 9223372036854775807 := by simp only [maxLen] at h63; omega
  rcases hown.2 with ⟨e1, e2⟩ | ⟨g, cap, cur, e1, _, hg, hnc, _, hcs, _⟩
  · subst e1; subst e2
    by_cases hm : s.size = 0
    · left; rw [h4.2 ⟨rfl, hm⟩]
    · have hr := run_append_nil_string (P := P) w t u ty e i (.int .u8 0) ht hu hi hz s (by omega) (by omega) (by rw [hby]; omega)
      rw [hr] at h1
      cases h1
      right; rfl
  · subst e1
    by_cases hroom : n + s.size ≤ cap
    · have hr := run_append_room_string (P := P) w t u ty e i ht hu hi hsize g n cap cur hg s hroom (by rw [show cur.size = cap by simpa using hcs]; exact hroom)
      rw [hr] at h1
      cases h1
      left; rfl
    · have hr := run_append_grow_string (P := P) w t u ty e i (.int .u8 0) ht hu hi hz ⟨g, 0, none⟩ n cap xs (by rw [hsize]; exact hown.1) (hown.cells (g := g) rfl) s (by omega) (by omega) (by rw [hby]; exact growslice_fits (by omega) (by omega))
      rw [hr] at h1
      cases h1
      right; rfl
theorem told_append_str (hM : InvM w0 M S0 μ η S w) (hΔ : TysOk P Δ) {new : Nat} (hnew : μ new = none) (T U : TypeId) (x y : Operand) (c : Call) (ho : o.op = .call c) (hc : c.callee = .builtin .append) (ha : c.args = #[x, y]) (hT : c.argTypes = #[T, U])
    {xa ya : AV} (hx : AVR w S (dom μ) η xa (a.eval x)) (hy : AVR w S (dom μ) η ya (a.eval y)) : Told w0 M S0 μ η S P o a w (cAppendStr Δ μ new T U xa ya) := by
  have hexec : ∀ v' w', (Builtin.append_ #[T, U] o.type #[a.eval x, a.eval y]).run P w = .ok v' w' → (execOp a.eval o).run P w = .ok (.value v') w' := by
    intro v' w' h
    simp [execOp, ho, resolve, hc, ha, hT, invoke, builtin, h]
  unfold cAppendStr
  split
  · rename_i id s e _ _ _ hstr hTT hUU
    split
    · rename_i e' xs hid hei
      split
      · rename_i hee
        subst hee
        refine .ok fun hbytes => ?_
        obtain ⟨hd, hv, hone⟩ := hx
        obtain ⟨cells, hown, hrows, hblk⟩ := hM.chunk id _ hid
        have hys : a.eval y = .string s := isStr_is hstr hy
        obtain ⟨inf, hinf, hs1, hb1, _⟩ := (hΔ e' _ hei).size
        obtain ⟨inf', hinf', hz2⟩ := (hΔ e' _ hei).u8 rfl
        have : inf' = inf := by rw [hinf] at hinf'; exact (Option.some.inj hinf').symm
        subst this
        have hbytes : xs.length + s.size ≤ 140737488355328 := hbytes
        obtain ⟨v', w', hrun, hown', hg, hvb⟩ := append_str_own (P := P) T U o.type e' inf' (tys_slice hΔ hTT) (kind_str hΔ hUU) hinf hz2 hs1 hb1 (η id) xs.length cells hown s (by simp only [maxLen]; omega) hbytes
        rw [← hv, ← hys] at hrun
        have hf := bytes_F2 S w (bytesOfStr s)
        refine own_grown (t := .int .u8) (ys := bytesOfStr s) hM hnew hid hd hown hrows hblk (fun k hk => (hblk k hk).1) hf (hexec _ _ hrun) ?_ hg hvb
        rw [bytes_flat, bytesOfStr_length, ← bytesOfStr_cells]
        exact hown'
      · exact .no
    · exact .no
  · exact .no
theorem fold_bytes (xs : List Int) : xs.foldl (fun r n => r.push (UInt8.ofNat n.toNat)) ByteArray.empty = strOfBytes xs := by
  rw [foldl_push_bytes]
  simp [strOfBytes, ByteArray.empty, ByteArray.emptyWithCapacity]
  try rfl
theorem run_to_string (w : World) (s d e : TypeId) (hs : P.underlying s = some (.slice e)) (he : P.underlying e = some (.int .u8)) (hd : P.underlying d = some .string) (ad : Addr) (c : Nat) (xs : List Int)
    (h : ∀ (j : Nat) (v : Value), (xs.map (Value.int .u8))[j]? = some v → w.cell? (ad.add j) = some v) : (convert s d (.slice (some ad) xs.length c)).run P w = .ok (.string (strOfBytes xs)) w := by
  have hl : (loadCells ad xs.length).run P w = .ok (xs.map (Value.int .u8)).toArray w := by
    have := run_loadCells_list (P := P) w ad (xs.map (Value.int .u8)) h
    simpa using this
  rw [run_convert_bytes_string w s d e _ _ c hs he hd, run_bytesToString w ad _ c xs hl, fold_bytes]
/-- string(bytes) -/
theorem told_toStr (hM : InvM w0 M S0 μ η S w) (hΔ : TysOk P Δ) (s d : TypeId) (x : Operand) (ho : o.op = .convert s d x) (hd : P.underlying d = some .string) {xa : AV} (hx : AVR w S (dom μ) η xa (a.eval x)) :
    Told w0 M S0 μ η S P o a w (cToStr Δ μ s xa) := by
  unfold cToStr
  split
  · rename_i e _ _ _ l hT
    split
    · rename_i xs hk hsl
      obtain ⟨A, c, css, hv, hf, hl, hnone, hcell⟩ := sliceOf_cells hM hsl (show LR w S (dom μ) η l (a.eval x) from hx)
      have hu8 : P.underlying e = some (.int .u8) := kind_int hΔ hk
      refine told_pure (goes_pure hM (v := .string (strOfBytes xs)) ?_ (avr_str _))
      have hflat : css.flatten = xs.map (Value.int .u8) := by
        clear hv hl hnone hcell hsl
        induction hf with
        | nil => rfl
        | cons h1 _ ih => simp only [List.flatten_cons, List.map_cons]; rw [show _ = [_] from h1, ih]; rfl
      have hrun : (convert s d (a.eval x)).run P w = .ok (.string (strOfBytes xs)) w := by
        rw [hv]
        cases A with
        | none =>
          have h0 : xs = [] := hnone rfl
          subst h0
          exact run_convert_bytes_nil w s e (tys_slice hΔ hT) hu8 0 c d hd
        | some ad =>
          exact run_to_string w s d e (tys_slice hΔ hT) hu8 hd ad c xs (fun j v hj => hcell ad rfl j v (by rw [hflat]; exact hj))
      simp [execOp, ho, hrun]
    · exact .no
  · exact .no
/-- []byte(string) -/
theorem told_toBytes (hM : InvM w0 M S0 μ η S w) (hΔ : TysOk P Δ) (s d e : TypeId) (x : Operand) (ho : o.op = .convert s d x) (hd : P.underlying d = some (.slice e)) {xa : AV} (hx : AVR w S (dom μ) η xa (a.eval x)) :
    Told w0 M S0 μ η S P o a w (cToBytes Δ s e xa) := by
  unfold cToBytes
  split
  · rename_i b hs hb he
    refine .ok fun hc => ?_
    have hv := isStr_is hb hx
    have hrun := run_convert_string_bytes (P := P) w s d e b (kind_str hΔ hs) hd (kind_int hΔ he)
    obtain ⟨i1, s1⟩ := inv_grow (w' := bytesWorld w e b) hM rfl rfl rfl (by rw [bytesWorld_size]; omega) (bytesWorld_at_old w e b)
    refine goes_value (v := .slice (some ⟨w.heap.size, 0, none⟩) b.size (grownCap w b.size 0 e)) (w' := bytesWorld w e b) (by simp [execOp, ho, hv, hrun]) ⟨η, _, i1, s1, ?_⟩
    show CR (bytesWorld w e b) _ (.slice (.int .u8)) [_] (bytesOfStr b)
    have hc : b.size ≤ 9223372036854775807 := hc
    refine ⟨some ⟨w.heap.size, 0, none⟩, grownCap w b.size 0 e, by rw [bytesOfStr_length], by rw [bytesOfStr_length]; exact grownCap_ge _ _ _ _, grownCap_le_maxLen _ _ _ _ (by simp only [maxLen]; omega), fun i n hn => ?_⟩
    refine ⟨w.heap.size, 0, [.int .u8 n], rfl, .inr ⟨Nat.le_refl _, by rw [bytesWorld_size]; omega⟩, rfl, rfl, fun j u hu => ?_⟩
    have hi : i < b.size := by rw [← bytesOfStr_length]; exact (List.getElem?_eq_some_iff.1 hn).1
    have hj : j = 0 := by have := (List.getElem?_eq_some_iff.1 hu).1; simp at this; exact this
    subst hj
    simp only [List.getElem?_cons_zero, Option.some.injEq] at hu
    subst hu
    have := bytesWorld_cell w e b i hi
    simp only [Nat.zero_add, Ty.size, Nat.mul_one, Nat.add_zero]
    rw [this]
    simp only [bytesOfStr, List.getElem?_map, Option.map_eq_some_iff] at hn
    obtain ⟨c, h1, h2⟩ := hn
    simp [List.getD, h1, h2]
  · exact .no
theorem freeze_heap (w : World) (g n : Nat) {cur : Array Value} {e : TypeId} (hg : w.heap[g]? = some (.cells cur e (0, 0))) :
    (w.freeze ⟨g, n, none⟩ 1).heap[g]? = some (.cells cur e (n, n + 1)) ∧ (∀ k, k ≠ g → (w.freeze ⟨g, n, none⟩ 1).heap[k]? = w.heap[k]?) ∧ (w.freeze ⟨g, n, none⟩ 1).heap.size = w.heap.size := by
  refine ⟨?_, fun k hk => ?_, ?_⟩
  · simp [World.freeze, Array.getElem?_modify, hg]
  · simp [World.freeze, Array.getElem?_modify, Ne.symm hk]
  · simp [World.freeze]
theorem told_mark (hM : InvM w0 M S0 μ η S w) (hΔ : TysOk P Δ) (s d : TypeId) (x : Operand) (ho : o.op = .convert s d x) {xa : AV} (hx : AVR w S (dom μ) η xa (a.eval x)) : Told w0 M S0 μ η S P o a w (cMark Δ μ s d xa) := by
  unfold cMark
  split
  · rename_i e id hk
    split
    · rename_i e' xs hke hid
      split
      · rename_i hcond
        obtain ⟨rfl, hpos⟩ := hcond
        refine .ok fun _ => ?_
        obtain ⟨hd, hv, hone⟩ := hx
        obtain ⟨cells, hown, ⟨css, rfl, hf⟩, hblk⟩ := hM.chunk id _ hid
        rcases hown.2 with ⟨_, h2⟩ | ⟨g, cap, cur, h1, _, hg, hnc, hcm, hcs, htake⟩
        · omega
        have hbk : blk (η id) = some g := by rw [h1]; rfl
        obtain ⟨f1, f2, f3⟩ := freeze_heap w g cur.size hg
        have hsh : w.shape? g = some (e', cur.size) := by unfold World.shape?; rw [hg]
        have hrun : (convert s s (a.eval x)).run P w = .ok (a.eval x) (w.freeze ⟨g, cur.size, none⟩ 1) := by
          rw [hv, h1]
          simp [convert, run_underlying (kind_slice hΔ hk), run_underlying (kind_int hΔ hke), markStringish, hsh]
        let S' : Nat → Prop := fun b => S b ∨ b = g
        have hgS : ¬ S g := (hblk g hbk).1
        have hst : Stay w (w.freeze ⟨g, cur.size, none⟩ 1) S S' (dom μ) (dom (muPut μ [(id, .gone)])) η η := ⟨fun _ h => .inl h, fun b hb => f2 b (fun e => hgS (e ▸ hb)), dom_put _, fun _ _ => rfl⟩
        refine goes_value (v := a.eval x) (w' := w.freeze ⟨g, cur.size, none⟩ 1) (by simp [execOp, ho, hrun]) ⟨η, S', ⟨⟨hM.frame.os, hM.frame.tape, hM.frame.output, by rw [f3]; exact hM.frame.size, fun k hk hm => ?_⟩, fun b hb => .inl (hM.sub b hb), fun b hb => ?_, fun b hb => ?_, fun i c hi => ?_, fun i j ci cj k hi hj hli hlj hij => ?_⟩, hst, ?_⟩
        · rw [f2 k (fun e => ?_)]
          · exact hM.frame.block k hk hm
          · subst e
            rcases (hblk k hbk).2 with h | h
            · omega
            · exact hm h
        · rw [f3]
          rcases hb with hb | hb
          · exact hM.lt b hb
          · subst hb; exact (live_blk hM hid rfl hbk).1
        · rcases hb with hb | hb
          · exact hM.from_ b hb
          · subst hb; exact .inr (hblk _ hbk).2
        · rw [muPut_one] at hi
          by_cases he : i = id
          · simp only [if_pos he, Option.some.injEq] at hi
            subst hi
            trivial
          · simp only [if_neg he] at hi
            refine ChunkR_stay hst (show dom μ i by simp [dom, hi]) (fun hl k hk => f2 k (fun e => ?_)) (fun hl k hk hs => ?_) (hM.chunk i c hi)
            · subst e; exact hM.apart i id c _ k hi hid hl rfl he hk hbk
            · rcases hs with hs | hs
              · exact (live_blk hM hi hl hk).2.1 hs
              · subst hs; exact hM.apart i id c _ k hi hid hl rfl he hk hbk
        · rw [muPut_one] at hi hj
          by_cases hei : i = id
          · simp only [if_pos hei, Option.some.injEq] at hi
            subst hi
            simp [Chunk.live] at hli
          · by_cases hej : j = id
            · simp only [if_pos hej, Option.some.injEq] at hj
              subst hj
              simp [Chunk.live] at hlj
            · simp only [if_neg hei] at hi
              simp only [if_neg hej] at hj
              exact hM.apart i j ci cj k hi hj hli hlj hij
        · show CR (w.freeze ⟨g, cur.size, none⟩ 1) S' (.slice (.int .u8)) [a.eval x] xs
          rw [hv, h1]
          refine ⟨some ⟨g, 0, none⟩, cap, rfl, hnc, hcm, fun i n hn => ?_⟩
          obtain ⟨cs, hcr, hcell⟩ := rows_at (cells := css.flatten) ⟨css, rfl, hf⟩ hn
          refine ⟨g, 0, cs, rfl, .inr rfl, CR_stay hst.s hst.w hcr, CR_len hcr, fun j u hu => ?_⟩
          have h3 := hown.cells (g := g) (by simp [h1, Value.ownBlock]) _ u (hcell j u hu)
          rw [Addr.add_lit] at h3
          simp only [World.cell?, hg] at h3
          simp only [World.cell?, f1]
          exact h3
      · exact .no
    · exact .no
  · exact .no
end
end Go.Ab
