/- What the models of the cursor's functions come to: by plain Lean, with no program in sight. -/
import Derived.Test.YtcnfeibfjmnlfaaCurM
set_option linter.unusedVariables false
set_option linter.unusedSimpArgs false
set_option linter.unnecessarySimpa false
namespace Go.Cur
open Go.Ab Go.RowKit
theorem p_mod (x : Int) (y : Int) (h : c_mod x y) : m_mod x y = some (r_mod x y) := by
  obtain ⟨_, h1, h2⟩ := h
  obtain ⟨g1, g2, g3, g4⟩ := tmod_cases x y h1
  unfold m_mod r_mod
  rw [if_pos (by omega)]
  by_cases h : Int.tmod x y < 0
  · rw [if_pos (by simpa using h), wI64 (by omega), g1 h]
  · rw [if_neg (by simpa using h), g2 (by omega)]
theorem p_new (l : List Int) (h : c_new l) : m_new l = some (r_new l) := rfl
theorem p_left (d_0 : List Int) (d_1 : Int) (h : c_left d_0 d_1) : m_left d_0 d_1 = some (r_left d_0 d_1) := rfl
theorem p_dnxt (d_0 : List Int) (d_1 : Int) (n : Int) (h : c_dnxt d_0 d_1 n) : m_dnxt d_0 d_1 n = some (r_dnxt d_0 d_1 n) := by
  obtain ⟨⟨h1, h2, h3, h4⟩, hn⟩ := h
  simp only at h1 h2 h3 h4
  unfold m_dnxt r_dnxt
  simp only [bindv]
  by_cases c : d_1 < d_0.length
  · rw [if_neg (by simpa using c), wI64 (x := d_1 + 1) (by omega), wI64 (by omega), if_pos (by omega)]
    have e : d_1 + 1 - 1 = d_1 := by omega
    rw [e, need_eq ⟨h4 _ (getD_mem d_0 d_1.toNat 0 (by omega)), hn⟩]
    simp [dnext, dadv, c]
  · rw [if_pos (by simpa using c)]
    simp [dnext, dadv, c]
theorem dnext_bound (d : Deck) {n : Int} (h : 0 < n) : 0 ≤ dnext d n ∧ dnext d n < n := by
  unfold dnext
  split
  · exact ⟨Int.emod_nonneg _ (by omega), Int.emod_lt_of_pos _ h⟩
  · omega
theorem dadv_ok {d : Deck} (h : DeckOk d) : DeckOk (dadv d) := by
  obtain ⟨h1, h2, h3, h4⟩ := h
  refine ⟨h1, ?_, ?_, h4⟩ <;> simp only [dadv] <;> split <;> omega
theorem p_rng (d_0 : List Int) (d_1 : Int) (lo : Int) (hi : Int) (h : c_rng d_0 d_1 lo hi) : m_rng d_0 d_1 lo hi = some (r_rng d_0 d_1 lo hi) := by
  obtain ⟨hd, h1, h2, h3⟩ := h
  have hb := dnext_bound (d_0, (d_1, ())) (n := hi - lo + 1) (by omega)
  unfold m_rng r_rng
  simp only [bindv]
  rw [wI64 (x := hi - lo) (by omega), wI64 (x := hi - lo + 1) (by omega), need_eq ⟨hd, by omega, by unfold I64; omega⟩, wI64 (by omega)]
theorem validP_is {c : Cursor} {rows cols : Int} : validP c rows cols = true ↔ 0 ≤ c.1 ∧ c.1 < rows ∧ 0 ≤ c.2.1 ∧ c.2.1 < cols := by simp [validP]
theorem rightP_is {m : Margins} {rows : Int} : rightP m rows = true ↔ 0 ≤ m.1 ∧ m.1 ≤ m.2.1 ∧ m.2.1 < rows := by simp [rightP]
theorem valid_is (c_0 : Int) (c_1 : Int) (c_2 : Bool) (rows : Int) (cols : Int) : m_valid c_0 c_1 c_2 rows cols = some (r_valid c_0 c_1 c_2 rows cols) := by
  unfold m_valid r_valid validP
  by_cases h1 : 0 ≤ c_0 <;> by_cases h2 : c_0 < rows <;> by_cases h3 : 0 ≤ c_1 <;> simp [h1, h2, h3]
theorem p_valid (c_0 : Int) (c_1 : Int) (c_2 : Bool) (rows : Int) (cols : Int) (h : c_valid c_0 c_1 c_2 rows cols) : m_valid c_0 c_1 c_2 rows cols = some (r_valid c_0 c_1 c_2 rows cols) := valid_is _ _ _ _ _
theorem p_rvalid (c_0 : Int) (c_1 : Int) (c_2 : Bool) (rows : Int) (cols : Int) (h : c_rvalid c_0 c_1 c_2 rows cols) : m_rvalid c_0 c_1 c_2 rows cols = some (r_rvalid c_0 c_1 c_2 rows cols) := valid_is _ _ _ _ _
theorem right_is (m_0 : Int) (m_1 : Int) (rows : Int) : m_right m_0 m_1 rows = some (r_right m_0 m_1 rows) := by
  unfold m_right r_right rightP
  by_cases h1 : 0 ≤ m_0 <;> by_cases h2 : m_0 ≤ m_1 <;> simp [h1, h2]
theorem p_right (m_0 : Int) (m_1 : Int) (rows : Int) (h : c_right m_0 m_1 rows) : m_right m_0 m_1 rows = some (r_right m_0 m_1 rows) := right_is _ _ _
theorem p_rright (m_0 : Int) (m_1 : Int) (rows : Int) (h : c_rright m_0 m_1 rows) : m_rright m_0 m_1 rows = some (r_rright m_0 m_1 rows) := right_is _ _ _
theorem eights : ((8 : Int) = 1) = False ∧ ((8 : Int) = 2) = False ∧ ((8 : Int) = 3) = False ∧ ((8 : Int) = 4) = False ∧ ((8 : Int) = 5) = False ∧ ((8 : Int) = 6) = False ∧ ((8 : Int) = 7) = False ∧ ((8 : Int) = 8) = True := by simp
theorem ge_iff (a b : Int) : (a ≥ b) = (b ≤ a) := rfl
theorem gt_iff (a b : Int) : (a > b) = (b < a) := rfl
theorem p_move (c_0 : Int) (c_1 : Int) (c_2 : Bool) (kind : Int) (n : Int) (m_0 : Int) (m_1 : Int) (rows : Int) (cols : Int) (h : c_move c_0 c_1 c_2 kind n m_0 m_1 rows cols) : m_move c_0 c_1 c_2 kind n m_0 m_1 rows cols = some (r_move c_0 c_1 c_2 kind n m_0 m_1 rows cols) := by
  obtain ⟨hn, hr, hc⟩ := h
  unfold m_move r_move movP
  simp only [bindv]
  by_cases hv : validP (c_0, (c_1, (c_2, ()))) rows cols = true
  case neg => rw [if_neg (by simpa using hv), if_neg (fun h => hv h.1)]
  by_cases hm : rightP (m_0, (m_1, ())) rows = true
  case neg => rw [if_pos (by simpa using hv), if_pos (by simpa using hm), if_neg (fun h => hm h.2.1)]
  have v := validP_is.1 hv
  have m := rightP_is.1 hm
  simp only at v m
  simp only [hv, hm, true_and, minK_eq, maxK_eq, Bool.not_true, Bool.false_eq_true, if_true, if_false, beq_iff_eq, decide_eq_true_eq, ge_iff]
  by_cases k : 1 ≤ kind ∧ kind ≤ 8
  case neg =>
    have e : ∀ i : Int, 1 ≤ i → i ≤ 8 → kind ≠ i := fun i _ _ h => k (by omega)
    rw [if_neg k, if_neg (e 1 (by omega) (by omega)), if_neg (e 2 (by omega) (by omega)), if_neg (e 3 (by omega) (by omega)), if_neg (e 4 (by omega) (by omega)), if_neg (e 5 (by omega) (by omega)), if_neg (e 6 (by omega) (by omega)), if_neg (e 7 (by omega) (by omega)), if_neg (e 8 (by omega) (by omega))]
  rw [if_pos k]
  by_cases k1 : kind = 1
  · simp only [k1, if_true]
    by_cases q : m_0 ≤ c_0
    · simp (disch := omega) only [q, if_true, wI64]
    · simp (disch := omega) only [q, if_false, wI64]
  by_cases k2 : kind = 2
  · simp only [k1, k2, if_true, if_false, reduceIte]
    by_cases q : c_0 ≤ m_1
    · simp (disch := omega) [q, wI64]
    · simp (disch := omega) [q, wI64]
  by_cases k3 : kind = 3
  · simp (disch := omega) [k3, wI64]
  by_cases k4 : kind = 4
  · simp (disch := omega) [k4, wI64]
  by_cases k5 : kind = 5
  · simp (disch := omega) [k5, wI64]
  by_cases k6 : kind = 6
  · simp (disch := omega) [k6, wI64]
  by_cases k7 : kind = 7
  · simp (disch := omega) [k7, wI64]
  have k8 : kind = 8 := by omega
  have e1 : Go.IntKind.wrap .i64 ((Go.IntKind.wrap .i64 (cols - 1)) - (Go.IntKind.wrap .i64 ((Go.IntKind.wrap .i64 (Int.tdiv c_1 8)) * 8))) = cols - 1 - c_1 / 8 * 8 := by simp (disch := omega) only [wI64, tdivN]
  subst k8
  obtain ⟨z1, z2, z3, z4, z5, z6, z7, z8⟩ := eights
  simp only [z1, z2, z3, z4, z5, z6, z7, z8, if_true, if_false, e1]
  rw [tdivN (x := cols - 1 - c_1 / 8 * 8) (by omega), wI64 (x := (cols - 1 - c_1 / 8 * 8) / 8) (by omega), tdivN (x := c_1) (by omega), wI64 (x := c_1 / 8) (by omega)]
  by_cases q : max n 1 ≤ (cols - 1 - c_1 / 8 * 8) / 8
  · rw [if_pos q, if_neg (by omega), wI64 (x := c_1 / 8 + max n 1) (by omega), wI64 (by omega)]
  · rw [if_neg q, wI64 (by omega), if_pos (by omega)]
theorem p_rmove (c_0 : Int) (c_1 : Int) (c_2 : Bool) (kind : Int) (n : Int) (m_0 : Int) (m_1 : Int) (rows : Int) (cols : Int) (h : c_rmove c_0 c_1 c_2 kind n m_0 m_1 rows cols) : m_rmove c_0 c_1 c_2 kind n m_0 m_1 rows cols = some (r_rmove c_0 c_1 c_2 kind n m_0 m_1 rows cols) := by
  obtain ⟨hn, hr, hc⟩ := h
  unfold m_rmove r_rmove movP
  simp only [bindv]
  by_cases hv : validP (c_0, (c_1, (c_2, ()))) rows cols = true
  case neg => rw [if_neg (by simpa using hv), if_neg (fun h => hv h.1)]
  by_cases hm : rightP (m_0, (m_1, ())) rows = true
  case neg => rw [if_pos (by simpa using hv), if_neg (by simpa using hm), if_neg (fun h => hm h.2.1)]
  have v := validP_is.1 hv
  have m := rightP_is.1 hm
  simp only at v m
  simp only [hv, hm, true_and, minK_eq, maxK_eq, Bool.not_true, Bool.false_eq_true, if_true, if_false, beq_iff_eq, decide_eq_true_eq, decide_eq_false_iff_not, ge_iff, gt_iff]
  by_cases k : 1 ≤ kind ∧ kind ≤ 8
  case neg =>
    rw [if_neg k]
    by_cases k0 : kind < 1
    · rw [if_neg (by omega)]
    · rw [if_pos (by omega), if_pos (by omega)]
  rw [if_pos k, if_pos (by omega), if_neg (by omega), show max 1 n = max n 1 by omega]
  by_cases k1 : kind = 1
  · simp only [k1, if_true]
    by_cases q : m_0 ≤ c_0
    · simp (disch := omega) only [q, if_true, wI64]
    · simp (disch := omega) only [q, if_false, wI64]
  by_cases k2 : kind = 2
  · simp only [k1, k2, if_true, if_false, reduceIte]
    by_cases q : c_0 ≤ m_1
    · simp (disch := omega) [q, wI64]
    · simp (disch := omega) [q, wI64]
  by_cases k3 : kind = 3
  · simp (disch := omega) [k3, wI64]
  by_cases k4 : kind = 4
  · simp (disch := omega) [k4, wI64]
  by_cases k5 : kind = 5
  · simp (disch := omega) [k5, wI64]
  by_cases k6 : kind = 6
  · simp (disch := omega) [k6, wI64]
  by_cases k7 : kind = 7
  · simp (disch := omega) [k7, wI64]
  have k8 : kind = 8 := by omega
  have e1 : Go.IntKind.wrap .i64 (c_1 - Int.tmod c_1 8) = c_1 / 8 * 8 := by rw [tmodN (by omega), wI64 (by omega)]; omega
  subst k8
  obtain ⟨z1, z2, z3, z4, z5, z6, z7, z8⟩ := eights
  simp only [z1, z2, z3, z4, z5, z6, z7, z8, if_true, if_false, e1]
  rw [wI64 (x := cols - 1) (by omega), wI64 (x := cols - 1 - c_1 / 8 * 8) (by omega), tdivN (x := cols - 1 - c_1 / 8 * 8) (by omega), wI64 (x := (cols - 1 - c_1 / 8 * 8) / 8) (by omega)]
  by_cases q : (cols - 1 - c_1 / 8 * 8) / 8 < max n 1
  · rw [if_pos q, if_pos q]
  · rw [if_neg q, if_neg q, wI64 (x := 8 * max n 1) (by omega), wI64 (by omega), show c_1 / 8 * 8 + 8 * max n 1 = (c_1 / 8 + max n 1) * 8 by omega]
theorem deck0 {l : List Int} (h : ListOk l) : DeckOk (l, ((0 : Int), ())) := ⟨h.1, Int.le_refl _, by simp only; omega, h.2⟩
theorem p_made (l : List Int) (h : c_made l) : m_made l = some (r_made l) := by
  have d0 : DeckOk (l, ((0 : Int), ())) := deck0 h
  unfold m_made r_made
  simp only [bindv]
  have b0 := dnext_bound (l, ((0 : Int), ())) (n := 9) (by omega)
  have d1 := dadv_ok d0
  have b1 := dnext_bound (dadv (l, ((0 : Int), ()))) (n := 30) (by omega)
  have d2 := dadv_ok d1
  have b2 := dnext_bound (dadv (dadv (l, ((0 : Int), ())))) (n := 1 + dnext (l, ((0 : Int), ())) 9) (by omega)
  have d3 := dadv_ok d2
  have d4 := dadv_ok d3
  have d5 := dadv_ok d4
  have d6 := dadv_ok d5
  rw [show (9 : Int) - 1 + 1 = 9 by omega, show (30 : Int) - 1 + 1 = 30 by omega]
  rw [need_eq ⟨d0, by omega⟩, need_eq ⟨d1, by omega⟩, need_eq ⟨d2, by omega, by unfold I64; omega⟩, need_eq ⟨d3, by omega, by unfold I64; omega⟩, need_eq ⟨d4, by omega, by unfold I64; omega⟩, need_eq ⟨d5, by omega, by unfold I64; omega⟩]
  rw [wI64 (by omega), need_eq ⟨d6, by omega, by omega, by omega⟩]
  rfl
theorem p_sane  (h : c_sane ) : m_sane  = some (r_sane ) := by
  unfold m_sane
  rw [need_eq ⟨⟨by omega, by omega⟩, by omega, by omega⟩]
  have e : movP ((0 : Int), (3, (false, ()))) (8 : Int) (2 : Int) ((0 : Int), ((0 : Int), ())) (1 : Int) (40 : Int) = (0, 16, false, ()) := by decide
  have e2 : validP ((0 : Int), (3, (false, ()))) (1 : Int) (4 : Int) = true := by decide
  simp only [bindv, e, e2]
  rfl
/-! ### what is made -/
theorem made_ok {l : List Int} : ∃ r c top bot row col : Int, ∃ w : Bool, madeP l = ((row, col, w, ()), (top, bot, ()), r, c) ∧ 1 ≤ r ∧ r ≤ 9 ∧ 1 ≤ c ∧ c ≤ 30 ∧ 0 ≤ top ∧ top ≤ bot ∧ bot < r ∧ 0 ≤ row ∧ row < r ∧ 0 ≤ col ∧ col < c := by
  have b0 := dnext_bound (l, ((0 : Int), ())) (n := 9) (by omega)
  have b1 := dnext_bound (dadv (l, ((0 : Int), ()))) (n := 30) (by omega)
  have b2 := dnext_bound (dadv (dadv (l, ((0 : Int), ())))) (n := 1 + dnext (l, ((0 : Int), ())) 9) (by omega)
  have b3 := dnext_bound (dadv (dadv (dadv (l, ((0 : Int), ()))))) (n := 1 + dnext (l, ((0 : Int), ())) 9) (by omega)
  have b4 := dnext_bound (dadv (dadv (dadv (dadv (l, ((0 : Int), ())))))) (n := 1 + dnext (dadv (l, ((0 : Int), ()))) 30) (by omega)
  have b6 := dnext_bound (dadv (dadv (dadv (dadv (dadv (dadv (l, ((0 : Int), ())))))))) (n := 1 + dnext (l, ((0 : Int), ())) 9 - 1 - dnext (dadv (dadv (l, ((0 : Int), ())))) (1 + dnext (l, ((0 : Int), ())) 9) + 1) (by omega)
  exact ⟨_, _, _, _, _, _, _, rfl, by omega, by omega, by omega, by omega, by omega, by omega, by omega, by omega, by omega, by omega, by omega⟩
/-! ### moves -/
def Steps (kind : Int) : Prop := kind = 1 ∨ kind = 2 ∨ kind = 3 ∨ kind = 4 ∨ kind = 8
theorem mov_at {a b : Int} {w : Bool} {t bo kind n rows cols : Int} (hv : 0 ≤ a ∧ a < rows ∧ 0 ≤ b ∧ b < cols) (hm : 0 ≤ t ∧ t ≤ bo ∧ bo < rows) :
    (movP (a, b, w, ()) 1 n (t, bo, ()) rows cols = (a - min (max n 1) (a - (if t ≤ a then t else 0)), b, false, ())) ∧
    (movP (a, b, w, ()) 2 n (t, bo, ()) rows cols = (a + min (max n 1) ((if a ≤ bo then bo else rows - 1) - a), b, false, ())) ∧
    (movP (a, b, w, ()) 3 n (t, bo, ()) rows cols = (a, b + min (max n 1) (cols - 1 - b), false, ())) ∧
    (movP (a, b, w, ()) 4 n (t, bo, ()) rows cols = (a, b - min (max n 1) b, false, ())) ∧
    (movP (a, b, w, ()) 5 n (t, bo, ()) rows cols = (a, 0, false, ())) ∧
    (movP (a, b, w, ()) 6 n (t, bo, ()) rows cols = (a, max 0 (min n (cols - 1)), false, ())) ∧
    (movP (a, b, w, ()) 7 n (t, bo, ()) rows cols = (max 0 (min n (rows - 1)), b, false, ())) ∧
    (movP (a, b, w, ()) 8 n (t, bo, ()) rows cols = (a, (if (cols - 1 - b / 8 * 8) / 8 < max n 1 then cols - 1 else (b / 8 + max n 1) * 8), false, ())) := by
  have h1 : validP (a, b, w, ()) rows cols = true := validP_is.2 hv
  have h2 : rightP (t, bo, ()) rows = true := rightP_is.2 hm
  refine ⟨?_, ?_, ?_, ?_, ?_, ?_, ?_, ?_⟩ <;> simp [movP, h1, h2]
theorem mov_steps {a b : Int} {w : Bool} {t bo kind n rows cols : Int} (hk : Steps kind) (hn : 1 ≤ n) (hv : 0 ≤ a ∧ a < rows ∧ 0 ≤ b ∧ b < cols) (hm : 0 ≤ t ∧ t ≤ bo ∧ bo < rows) :
    ∃ a' b', movP (a, b, w, ()) kind n (t, bo, ()) rows cols = (a', b', false, ()) ∧ (0 ≤ a' ∧ a' < rows ∧ 0 ≤ b' ∧ b' < cols) ∧ movP (a', b', false, ()) kind 1 (t, bo, ()) rows cols = movP (a, b, w, ()) kind (n + 1) (t, bo, ()) rows cols := by
  obtain ⟨e1, e2, e3, e4, _, _, _, e8⟩ := mov_at (w := w) (n := n) (kind := kind) hv hm
  obtain ⟨f1, f2, f3, f4, _, _, _, f8⟩ := mov_at (w := w) (n := n + 1) (kind := kind) hv hm
  rcases hk with rfl | rfl | rfl | rfl | rfl
  · refine ⟨_, _, e1, ⟨by split <;> omega, by split <;> omega, by omega, by omega⟩, ?_⟩
    rw [(mov_at (kind := 1) (w := false) (n := 1) (by refine ⟨?_, ?_, hv.2.2.1, hv.2.2.2⟩ <;> split <;> omega) hm).1, f1]
    congr 1
    by_cases c : t ≤ a
    · rw [if_pos c, if_pos (by omega)]; omega
    · rw [if_neg c]
      split <;> omega
  · refine ⟨_, _, e2, ⟨by split <;> omega, by split <;> omega, by omega, by omega⟩, ?_⟩
    rw [(mov_at (kind := 1) (w := false) (n := 1) (by refine ⟨?_, ?_, hv.2.2.1, hv.2.2.2⟩ <;> split <;> omega) hm).2.1, f2]
    congr 1
    by_cases c : a ≤ bo
    · rw [if_pos c, if_pos (by omega)]; omega
    · rw [if_neg c]
      split <;> omega
  · refine ⟨_, _, e3, ⟨by omega, by omega, by omega, by omega⟩, ?_⟩
    rw [(mov_at (kind := 1) (w := false) (n := 1) (by omega) hm).2.2.1, f3]
    congr 2
    omega
  · refine ⟨_, _, e4, ⟨by omega, by omega, by omega, by omega⟩, ?_⟩
    rw [(mov_at (kind := 1) (w := false) (n := 1) (by omega) hm).2.2.2.1, f4]
    congr 2
    omega
  · refine ⟨_, _, e8, ⟨by omega, by omega, by split <;> omega, by split <;> omega⟩, ?_⟩
    rw [(mov_at (kind := 1) (w := false) (n := 1) (by refine ⟨hv.1, hv.2.1, ?_, ?_⟩ <;> split <;> omega) hm).2.2.2.2.2.2.2, f8]
    congr 2
    by_cases c : (cols - 1 - b / 8 * 8) / 8 < max n 1
    · rw [if_pos c, if_pos (show (cols - 1 - b / 8 * 8) / 8 < max (n + 1) 1 by omega)]
      split <;> omega
    · rw [if_neg c]
      split <;> split <;> omega
theorem p_cursorSteps (l : List Int) (kind : Int) (n : Int) (h : WfT [.slice (.int .i64), .int .i64, .int .i64] (l, kind, n, ())) : m_cursorSteps 20 l kind n = resB true := by
  obtain ⟨hl, hk, hn, _⟩ := h
  replace hk : I64 kind := wf64 hk
  replace hn : I64 n := wf64 hn
  have hL : ListOk l := ⟨by have := hl.1; simp only at this; omega, fun x hx => wf64 (hl.2 x hx)⟩
  obtain ⟨r, c, top, bot, row, col, w, e, h1, h2, h3, h4, h5, h6, h7, h8, h9, h10, h11⟩ := made_ok (l := l)
  unfold m_cursorSteps
  simp only [bindv, e]
  rw [need_eq hL, need_eq ⟨hk, by omega, by unfold I64; omega⟩]
  have k1 := Int.emod_nonneg kind (show (5 : Int) ≠ 0 by omega)
  have k2 := Int.emod_lt_of_pos kind (show (0 : Int) < 5 by omega)
  have n1 := Int.emod_nonneg n (show (12 : Int) ≠ 0 by omega)
  have n2 := Int.emod_lt_of_pos n (show (0 : Int) < 12 by omega)
  generalize kind % 5 = q at k1 k2
  generalize n % 12 = z at n1 n2
  rw [if_pos (by simp; omega), if_pos (by simp; omega), need_eq ⟨hn, by omega, by unfold I64; omega⟩, wI64 (x := 1 + z) (by omega)]
  have hst : Steps (([1, 2, 3, 4, 8] : List Int).getD q.toNat 0) := by
    obtain ⟨q', rfl⟩ : ∃ k : Nat, q = k := ⟨q.toNat, by omega⟩
    have : q' = 0 ∨ q' = 1 ∨ q' = 2 ∨ q' = 3 ∨ q' = 4 := by omega
    rcases this with rfl | rfl | rfl | rfl | rfl <;> simp [Steps]
  generalize ([1, 2, 3, 4, 8] : List Int).getD q.toNat 0 = K at hst
  have hv : 0 ≤ row ∧ row < r ∧ 0 ≤ col ∧ col < c := ⟨h8, h9, h10, h11⟩
  have hm : 0 ≤ top ∧ top ≤ bot ∧ bot < r := ⟨h5, h6, h7⟩
  refine loop_to (fun d => ∃ i : Nat, (i : Int) ≤ 1 + z ∧ ∃ x : Cursor, d = (K, 1 + z, r, c, (i : Int), row, col, w, top, bot, x.1, x.2.1, x.2.2.1, ()) ∧ (x = if i = 0 then (row, col, w, ()) else movP (row, col, w, ()) K i (top, bot, ()) r c)) (fun d => (1 + z).toNat - d.2.2.2.2.1.toNat) ?_
    ⟨0, by omega, (row, col, w, ()), rfl, rfl⟩ (by simp only; omega)
  rintro d ⟨i, hi, x, rfl, hx⟩
  simp only
  have hX : ∀ x : Cursor, (x.1, x.2.1, x.2.2.1, ()) = x := fun x => rfl
  by_cases ci : (i : Int) = 1 + z
  · left; intro again
    rw [if_neg (by simp; omega), need_eq ⟨by unfold I64; omega, by omega, by omega⟩]
    rw [if_neg (by omega), ci] at hx
    obtain ⟨a', b', g1, g2, _⟩ := mov_steps (w := w) (n := 1 + z) hst (by omega) hv hm
    rw [g1] at hx
    subst hx
    have hval : validP (a', b', false, ()) r c = true := validP_is.2 g2
    simp [g1, hval]
  · right
    refine ⟨(K, 1 + z, r, c, (i : Int) + 1, row, col, w, top, bot, (movP x K 1 (top, bot, ()) r c).1, (movP x K 1 (top, bot, ()) r c).2.1, (movP x K 1 (top, bot, ()) r c).2.2.1, ()), fun again => ?_, ⟨i + 1, by omega, movP x K 1 (top, bot, ()) r c, by simp, ?_⟩, by simp only; omega⟩
    · rw [if_pos (by simp; omega), need_eq ⟨by unfold I64; omega, by omega, by omega⟩, wI64 (by omega)]
    · rw [if_neg (by omega)]
      by_cases c0 : i = 0
      · subst c0; rw [hx]; rfl
      · rw [if_neg c0] at hx
        obtain ⟨a', b', g1, g2, g3⟩ := mov_steps (w := w) (n := (i : Int)) hst (by omega) hv hm
        rw [hx, g1, g3]
        simp
theorem p_cursorStays (l : List Int) (n : Int) (h : WfT [.slice (.int .i64), .int .i64] (l, n, ())) : m_cursorStays l n = resB true := by
  obtain ⟨hl, hn, _⟩ := h
  replace hn : I64 n := wf64 hn
  have hL : ListOk l := ⟨by have := hl.1; simp only at this; omega, fun x hx => wf64 (hl.2 x hx)⟩
  obtain ⟨r, c, top, bot, row, col, w, e, h1, h2, h3, h4, h5, h6, h7, h8, h9, h10, h11⟩ := made_ok (l := l)
  have hv : 0 ≤ row ∧ row < r ∧ 0 ≤ col ∧ col < c := ⟨h8, h9, h10, h11⟩
  have hm : 0 ≤ top ∧ top ≤ bot ∧ bot < r := ⟨h5, h6, h7⟩
  have n1 := Int.emod_nonneg n (show (40 : Int) ≠ 0 by omega)
  have n2 := Int.emod_lt_of_pos n (show (0 : Int) < 40 by omega)
  obtain ⟨e1, e2, _, _, e5, _⟩ := mov_at (w := w) (n := n) (kind := 0) hv hm
  obtain ⟨_, _, _, _, _, e6, e7, _⟩ := mov_at (w := w) (n := n % 40 - 5) (kind := 0) hv hm
  unfold m_cursorStays
  simp only [bindv, e]
  rw [wI64 (x := n % 40 - 5) (by omega), wI64 (x := c - 1) (by omega), wI64 (x := r - 1) (by omega)]
  have w1 : I64 n ∧ r ≤ 1000 ∧ c ≤ 1000 := ⟨hn, by omega, by omega⟩
  have w2 : I64 n ∧ (0 : Int) < 40 ∧ I64 40 := ⟨hn, by omega, by unfold I64; omega⟩
  have w3 : I64 (n % 40 - 5) ∧ r ≤ 1000 ∧ c ≤ 1000 := ⟨by unfold I64; omega, by omega, by omega⟩
  simp only [need_eq hL, need_eq w1, need_eq w2, need_eq w3, e1, e2, e5, e6, e7, minK_eq, maxK_eq, bne_self_eq_false, BEq.rfl, if_true, reduceIte, Bool.false_eq_true, decide_eq_true_eq, decide_eq_false_iff_not, ge_iff, gt_iff]
  by_cases c1 : top ≤ row
  · by_cases c2 : row ≤ bot
    · simp only [c1, c2, if_true]
      rw [if_pos (by omega), if_pos (by omega), if_pos (by omega), if_pos (by omega)]
    · simp only [c1, c2, if_true, if_false]
      rw [if_pos (by omega), if_pos (by omega)]
  · simp only [c1, if_false]
    rw [if_pos (by omega), if_pos (by split <;> omega)]
theorem p_cursorMoves (l : List Int) (raw_0 : Int) (raw_1 : Int) (raw_2 : Bool) (m_0 : Int) (m_1 : Int) (kind : Int) (n : Int) (rows : Int) (cols : Int) (h : WfT [.slice (.int .i64), .pair (.int .i64) (.pair (.int .i64) (.pair (.bool) (.unit))), .pair (.int .i64) (.pair (.int .i64) (.unit)), .int .i64, .int .i64, .int .i64, .int .i64] (l, (raw_0, (raw_1, (raw_2, ()))), (m_0, (m_1, ())), kind, n, rows, cols, ())) : m_cursorMoves 4 4 l raw_0 raw_1 raw_2 m_0 m_1 kind n rows cols = resB true := by
  obtain ⟨hl, _, _, hk, hn, _, _, _⟩ := h
  replace hk : I64 kind := wf64 hk
  replace hn : I64 n := wf64 hn
  have hL : ListOk l := ⟨by have := hl.1; simp only at this; omega, fun x hx => wf64 (hl.2 x hx)⟩
  obtain ⟨r, c, top, bot, row, col, w, e, h1, h2, h3, h4, h5, h6, h7, h8, h9, h10, h11⟩ := made_ok (l := l)
  unfold m_cursorMoves
  simp only [bindv, e]
  by_cases c1 : (1000 : Int) < rows
  · rw [if_neg (by simp; omega)]
  by_cases c2 : (1000 : Int) < cols
  · rw [if_pos (by simp; omega), if_pos (by simp; omega)]
  have k1 := Int.emod_nonneg kind (show (9 : Int) ≠ 0 by omega)
  have k2 := Int.emod_lt_of_pos kind (show (0 : Int) < 9 by omega)
  have n1 := Int.emod_nonneg n (show (12 : Int) ≠ 0 by omega)
  have n2 := Int.emod_lt_of_pos n (show (0 : Int) < 12 by omega)
  rw [if_pos (by simp; omega), if_neg (by simp; omega), need_eq hL, need_eq ⟨hk, by omega, by unfold I64; omega⟩, wI64 (x := 1 + kind % 9) (by omega)]
  have hval : validP (row, col, w, ()) r c = true := validP_is.2 ⟨h8, h9, h10, h11⟩
  refine loop_to (fun d => ∃ i : Nat, i ≤ 2 ∧ d = (n, rows, cols, r, c, 2, (i : Int), raw_0, raw_1, raw_2, m_0, m_1, row, col, w, top, bot, ([kind, 1 + kind % 9] : List Int), ())) (fun d => 2 - d.2.2.2.2.2.2.1.toNat) ?_ ⟨0, by omega, rfl⟩ (by simp only; omega)
  rintro d ⟨i, hi, rfl⟩
  simp only
  by_cases ci : i = 2
  · left; intro again
    rw [if_neg (by simp; omega)]
    simp [hval]
  · right
    refine ⟨(n, rows, cols, r, c, 2, (i : Int) + 1, raw_0, raw_1, raw_2, m_0, m_1, row, col, w, top, bot, ([kind, 1 + kind % 9] : List Int), ()), fun again => ?_, ⟨i + 1, by omega, by simp⟩, by simp only; omega⟩
    rw [if_pos (by simp; omega), if_pos (by simp; omega), if_pos (by simp; omega), need_eq ⟨hn, by omega, by unfold I64; omega⟩, wI64 (x := n % 12 - 2) (by omega)]
    generalize ([kind, 1 + kind % 9] : List Int).getD (i : Int).toNat 0 = K
    refine loop_to (fun d => ∃ j : Nat, j ≤ 2 ∧ d = (n, rows, cols, r, c, K, 2, (i : Int), 2, (j : Int), raw_0, raw_1, raw_2, m_0, m_1, row, col, w, top, bot, ([kind, 1 + kind % 9] : List Int), ([n, n % 12 - 2] : List Int), ())) (fun d => 2 - d.2.2.2.2.2.2.2.2.2.1.toNat) ?_ ⟨0, by omega, rfl⟩ (by simp only; omega)
    rintro d ⟨j, hj, rfl⟩
    simp only
    by_cases cj : j = 2
    · left; intro again
      rw [if_neg (by simp; omega), wI64 (by omega)]
    · right
      refine ⟨(n, rows, cols, r, c, K, 2, (i : Int), 2, (j : Int) + 1, raw_0, raw_1, raw_2, m_0, m_1, row, col, w, top, bot, ([kind, 1 + kind % 9] : List Int), ([n, n % 12 - 2] : List Int), ()), fun again => ?_, ⟨j + 1, by omega, by simp⟩, by simp only; omega⟩
      have hN : I64 (([n, n % 12 - 2] : List Int).getD (j : Int).toNat 0) := by
        have : j = 0 ∨ j = 1 := by omega
        rcases this with rfl | rfl
        · exact hn
        · show I64 (n % 12 - 2)
          unfold I64; omega
      generalize ([n, n % 12 - 2] : List Int).getD (j : Int).toNat 0 = Q at hN
      have a1 : I64 Q ∧ r ≤ 1000 ∧ c ≤ 1000 := ⟨hN, by omega, by omega⟩
      have a2 : I64 Q ∧ rows ≤ 1000 ∧ cols ≤ 1000 := ⟨hN, by omega, by omega⟩
      rw [if_pos (by simp; omega), if_pos (by simp; omega), if_pos (by simp; omega), wI64 (x := (j : Int) + 1) (by omega)]
      simp only [need_eq a1, need_eq a2, BEq.rfl, Bool.and_self, Bool.not_true, if_true, if_false, Bool.false_eq_true, reduceIte]
end Go.Cur
