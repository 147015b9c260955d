/- What the models of the decoder's functions come to: by plain Lean, with no program in sight. -/
import Derived.Test.YtafjegmiildnkaaRunM
import Derived.Lib.Strings
set_option linter.unusedVariables false
set_option linter.unusedSimpArgs false
set_option linter.unnecessarySimpa false
namespace Go.Run
open Go.Ab Go.RowKit
theorem p_mod (x : Int) (y : Int) (h : c_mod x y) : m_mod x y = some (r_mod x y) := by
  obtain ⟨_, h1, h2⟩ := h
  obtain ⟨g1, g2, g3, g4⟩ := tmod_cases x y h1
  unfold m_mod r_mod
  rw [if_pos (by omega)]
  by_cases h : Int.tmod x y < 0
  · rw [if_pos (by simpa using h), wI64 (by omega), g1 h]
  · rw [if_neg (by simpa using h), g2 (by omega)]
theorem p_new (l : List Int) (h : c_new l) : m_new l = some (r_new l) := rfl
theorem p_left (d_0 : List Int) (d_1 : Int) (h : c_left d_0 d_1) : m_left d_0 d_1 = some (r_left d_0 d_1) := rfl
theorem p_dnxt (d_0 : List Int) (d_1 : Int) (n : Int) (h : c_dnxt d_0 d_1 n) : m_dnxt d_0 d_1 n = some (r_dnxt d_0 d_1 n) := by
  obtain ⟨⟨h1, h2, h3, h4⟩, hn⟩ := h
  simp only at h1 h2 h3 h4
  unfold m_dnxt r_dnxt
  simp only [bindv]
  by_cases c : d_1 < d_0.length
  · rw [if_neg (by simpa using c), wI64 (x := d_1 + 1) (by omega), wI64 (by omega), if_pos (by omega)]
    have e : d_1 + 1 - 1 = d_1 := by omega
    rw [e, need_eq ⟨h4 _ (getD_mem d_0 d_1.toNat 0 (by omega)), hn⟩]
    simp [dnext, dadv, c]
  · rw [if_pos (by simpa using c)]
    simp [dnext, dadv, c]
theorem dnext_bound (d : Deck) {n : Int} (h : 0 < n) : 0 ≤ dnext d n ∧ dnext d n < n := by
  unfold dnext
  split
  · exact ⟨Int.emod_nonneg _ (by omega), Int.emod_lt_of_pos _ h⟩
  · omega
theorem dadv_ok {d : Deck} (h : DeckOk d) : DeckOk (dadv d) := by
  obtain ⟨h1, h2, h3, h4⟩ := h
  refine ⟨h1, ?_, ?_, h4⟩ <;> simp only [dadv] <;> split <;> omega
theorem p_clone_nil : m_clone_nil = some (r_clone []) := rfl
theorem p_clone (l : List Int) (h : c_clone l) : m_clone l = some (r_clone l) := by
  have h : (l.length : Int) ≤ 1099511627776 := h
  unfold m_clone r_clone
  rw [if_pos (by simp only [List.length_nil]; omega), List.nil_append]
theorem p_size (b : Int) (h : c_size b) : m_size b = some (r_size b) := by
  unfold m_size r_size sizeP
  by_cases h1 : b < 128 <;> by_cases h2 : 194 ≤ b <;> by_cases h3 : b ≤ 223 <;> by_cases h4 : 224 ≤ b <;> by_cases h5 : b ≤ 239 <;> by_cases h6 : 240 ≤ b <;> by_cases h7 : b ≤ 244 <;> simp [*]
theorem p_second (f : Int) (b : Int) (h : c_second f b) : m_second f b = some (r_second f b) := by
  unfold m_second r_second secondP
  by_cases f1 : f = 224
  · subst f1; by_cases h1 : 160 ≤ b <;> simp [*]
  by_cases f2 : f = 237
  · subst f2; by_cases h1 : 128 ≤ b <;> simp [*]
  by_cases f3 : f = 240
  · subst f3; by_cases h1 : 144 ≤ b <;> simp [*]
  by_cases f4 : f = 244
  · subst f4; by_cases h1 : 128 ≤ b <;> simp [*]
  · by_cases h1 : 128 ≤ b <;> simp [*]
theorem all_not {l : List Int} {i : Nat} (hi : i < l.length) (h : okAt l i = false) : (List.range l.length).all (okAt l) = false := by
  rw [Bool.eq_false_iff]
  intro h2
  have := List.all_eq_true.1 h2 i (List.mem_range.2 hi)
  rw [h] at this; cases this
theorem p_part (l : List Int) (h : c_part l) : m_part 100 l = some (r_part l) := by
  have h : (l.length : Int) ≤ 1099511627776 := h
  unfold m_part
  by_cases c0 : l.length = 0
  · rw [if_neg (by simp [c0])]
    simp [r_part, partP, c0]
  rw [if_pos (by simpa using c0), if_pos (by omega)]
  have t0 : (0 : Int).toNat = 0 := rfl
  simp only [bindv, t0]
  have hsz : sizeP (l.getD 0 0) ≤ 4 := by unfold sizeP; repeat' split <;> omega
  by_cases c1 : sizeP (l.getD 0 0) < l.length
  · rw [if_pos (by simpa using c1)]
    unfold r_part partP
    rw [if_pos (Or.inr c1)]
  rw [if_neg (by simpa using c1)]
  have hbad : ∀ i, i < l.length → okAt l i = false → some (r_part l) = some ⟨.tup [(false, [(none, ⟨.bool, false⟩)]), (false, [(none, ⟨.bool, false⟩)])], []⟩ := fun i hi ho => by
    unfold r_part partP
    rw [if_neg (by omega), all_not hi ho]
    simp
  refine loop_to (fun d => ∃ i : Nat, i ≤ l.length ∧ d = (l, l, (l.length : Int), (i : Int), ()) ∧ ∀ j, j < i → okAt l j = true) (fun d => l.length - d.2.2.2.1.toNat) ?_ ⟨0, by omega, rfl, fun j h => by omega⟩ (by simp only; omega)
  rintro d ⟨i, hi, rfl, hok⟩
  simp only
  by_cases ci : i = l.length
  · left; intro again
    rw [if_neg (by simp; omega), if_pos (by omega)]
    have : (List.range l.length).all (okAt l) = true := List.all_eq_true.2 fun j hj => hok j (by have := List.mem_range.1 hj; omega)
    unfold r_part partP
    rw [if_neg (by omega), this]
    simp only [if_true]
    have e : (!((l.length : Int) == sizeP (l.getD 0 0))) = decide ((l.length : Int) ≠ sizeP (l.getD 0 0)) := by
      rw [Bool.eq_iff_iff]; simp
    have e2 : ((l.length : Int) == sizeP (l.getD 0 0)) = decide ((l.length : Int) = sizeP (l.getD 0 0)) := by
      rw [Bool.eq_iff_iff]; simp
    rw [e, e2]
  · have hlt : i < l.length := by omega
    cases ho : okAt l i with
    | true =>
      right
      refine ⟨(l, l, (l.length : Int), (i : Int) + 1, ()), fun again => ?_, ⟨i + 1, by omega, by simp, fun j hj => ?_⟩, by simp only; omega⟩
      · unfold okAt at ho
        rw [if_pos (by simp; omega), if_pos (by omega), wI64 (x := (i : Int) + 1) (by omega)]
        simp only [Int.toNat_natCast]
        by_cases e0 : i = 0
        · subst e0; simp
        by_cases e1 : i = 1
        · subst e1
          rw [if_neg (by omega), if_pos rfl] at ho
          rw [if_pos (by simp), if_pos (by omega), ho]; simp
        · rw [if_neg e0, if_neg e1, decide_eq_true_eq] at ho
          rw [if_neg (by simp; omega), if_pos (by simp; omega), if_pos (by rw [decide_eq_false_iff_not]; omega), if_neg (by rw [decide_eq_true_eq]; omega)]
      · by_cases hji : j = i
        · rw [hji]; exact ho
        · exact hok j (by omega)
    | false =>
      left; intro again
      rw [hbad i hlt ho]
      unfold okAt at ho
      rw [if_pos (by simp; omega), if_pos (by omega)]
      simp only [Int.toNat_natCast]
      by_cases e0 : i = 0
      · rw [if_pos e0] at ho; cases ho
      by_cases e1 : i = 1
      · subst e1
        rw [if_neg (by omega), if_pos rfl] at ho
        rw [if_pos (by simp), if_pos (by omega), ho]; simp
      · rw [if_neg e0, if_neg e1, decide_eq_false_iff_not] at ho
        rw [if_neg (by simp; omega), if_pos (by simp; omega)]
        by_cases e2 : l.getD i 0 < 128
        · rw [if_neg (by simpa using e2)]
        · rw [if_pos (by simpa using e2), if_pos (by rw [decide_eq_true_eq]; omega)]
theorem p_valid (d_0 : List Int) (h : c_valid d_0) : m_valid d_0 = some (r_valid d_0) := by
  have h : Len d_0 := h
  unfold m_valid r_valid validP
  rw [need_eq h]
  by_cases c : d_0.length = 0
  · rw [if_neg (by simp [c])]; simp [c]
  · rw [if_pos (by simpa using c)]; simp [c]
theorem p_char (l : List Int) (h : c_char l) : m_char 100 l = some (r_char l) := by
  obtain ⟨h1, h2⟩ := h
  unfold m_char
  have t0 : (0 : Int).toNat = 0 := rfl
  have t1 : (1 : Int).toNat = 1 := rfl
  have step : ∀ (r0 : Int), loopN (fun (d0 : Int × (List Int) × Int × Int × Unit) again0 =>
       if (decide (d0.2.2.2.1 < d0.2.2.1)) = true then (if 0 ≤ d0.2.2.2.1 ∧ d0.2.2.2.1 < d0.2.1.length then again0 (Go.IntKind.wrap .i64 ((BitVec.ofInt 64 (Go.IntKind.wrap .i64 (d0.1 * 2 ^ min (6 : Int).toNat 64)) ||| BitVec.ofInt 64 (Go.IntKind.wrap .i64 (Go.IntKind.wrap .u8 ((BitVec.ofInt 8 (d0.2.1.getD d0.2.2.2.1.toNat (0 : Int)) &&& BitVec.ofInt 8 (63 : Int)).toNat : Int)))).toNat : Int), d0.2.1, d0.2.2.1, Go.IntKind.wrap .i64 (d0.2.2.2.1 + (1 : Int)), ())
        else none)
       else some ⟨.val (false, [(none, ⟨.int .i64, d0.1⟩)]), []⟩) 100 (r0, l.drop 1, ((l.drop 1).length : Int), (0 : Int), ()) = some ⟨.val (false, [(none, ⟨.int .i64, charGo r0 (l.drop 1)⟩)]), []⟩ := by
    intro r0
    have ht : (l.drop 1).length ≤ 3 := by rw [List.length_drop]; omega
    generalize l.drop 1 = t at *
    refine loop_run (fun (d : Int × (List Int) × Int × Int × Unit) => ∃ (i : Nat) (r : Int), i ≤ t.length ∧ d = (r, t, (t.length : Int), (i : Int), ())) (fun d => t.length - d.2.2.2.1.toNat) (fun d => some ⟨.val (false, [(none, ⟨.int .i64, charGo d.1 (t.drop d.2.2.2.1.toNat)⟩)]), []⟩) ?_ 100 (r0, t, (t.length : Int), (0 : Int), ()) ⟨0, r0, by omega, rfl⟩ (by simp only; omega)
    rintro d ⟨i, r, hi, rfl⟩
    simp only [Int.toNat_natCast]
    by_cases ci : i = t.length
    · left; intro again
      rw [if_neg (by simp; omega), ci, List.drop_length]; rfl
    · right
      refine ⟨(or64 (Go.IntKind.wrap .i64 (r * 2 ^ min (6 : Int).toNat 64)) (Go.IntKind.wrap .i64 (and8 (t.getD i 0) 63)), t, (t.length : Int), ((i + 1 : Nat) : Int), ()), fun again => ?_, ?_, ⟨i + 1, or64 (Go.IntKind.wrap .i64 (r * 2 ^ min (6 : Int).toNat 64)) (Go.IntKind.wrap .i64 (and8 (t.getD i 0) 63)), by omega, rfl⟩, ?_⟩
      · rw [if_pos (by simp; omega), if_pos (by omega), wI64 (x := (i : Int) + 1) (by omega)]
        rfl
      · rw [drop_getD t i 0 (by omega)]
        simp only [Int.toNat_natCast]
        rfl
      · simp only [Int.toNat_natCast]; omega
  simp only [t0, t1, Int.toNat_natCast, List.take_length]
  rw [if_pos (by omega)]
  unfold r_char charP
  by_cases c : (1 : Int) < l.length
  · rw [if_pos (by simpa using c), if_pos (by omega), if_pos (by omega), step, if_pos c]; rfl
  · rw [if_neg (by simpa using c), if_pos (by omega), step, if_neg c]
/-! ### decoding -/
theorem part_len {n : List Int} (h : (partP n).1 = true ∨ (partP n).2 = true) : 1 ≤ n.length ∧ n.length ≤ 4 := by
  unfold partP at h
  have hsz : sizeP (n.getD 0 0) ≤ 4 := by unfold sizeP; repeat' split <;> omega
  split at h
  · simp at h
  · omega
theorem feed_valid (r : List Int) (b : Int) : validP (feed r b).1 = true := by
  unfold feed feed0
  split
  · rename_i h; simp [validP, h]
  split
  · rfl
  split
  · split
    · rename_i h; simp [validP, h]
    split <;> rfl
  · rfl
theorem dec_valid : ∀ (b : List Int) (r : List Int), validP r = true → validP (decGo r b).1 = true
  | [], _, h => h
  | x :: b, r, _ => dec_valid b _ (feed_valid r x)
theorem valid_len {r : List Int} (h : validP r = true) : r.length ≤ 4 := by
  unfold validP at h
  rw [Bool.or_eq_true] at h
  rcases h with h | h
  · have := of_decide_eq_true h; omega
  · exact (part_len (.inl h)).2
theorem dec_append : ∀ (x y r : List Int), decGo r (x ++ y) = ((decGo (decGo r x).1 y).1, (decGo r x).2 ++ (decGo (decGo r x).1 y).2)
  | [], _, _ => by simp [decGo]
  | b :: x, y, r => by simp only [List.cons_append, decGo, dec_append x y]; simp
theorem feed_len (r : List Int) (b : Int) : (feed r b).2.length ≤ 2 := by
  unfold feed feed0
  repeat' split
  all_goals simp
theorem dec_len : ∀ (b r : List Int), (decGo r b).2.length ≤ 2 * b.length
  | [], _ => by simp [decGo]
  | x :: b, r => by
    have h1 := feed_len r x
    have h2 := dec_len b (feed r x).1
    simp only [decGo, List.length_append, List.length_cons]
    omega
def rD (r o : List Int) : Res := ⟨.tup [(true, [(none, ⟨.slice (.int .u8), r⟩)]), (false, [(some 3, ⟨.slice (.int .i64), o⟩)])], []⟩
theorem p_same (a : List Int) (b : List Int) (h : c_same a b) : m_same 2000000000000 a b = some (r_same a b) := by
  have hx : (a.length : Int) ≤ 1099511627776 := h
  unfold m_same r_same
  by_cases hl : a.length = b.length
  · rw [if_neg (by simp [hl])]
    refine loop_to (fun d => ∃ i : Nat, i ≤ a.length ∧ d = (a, b, (a.length : Int), (i : Int), ()) ∧ a.take i = b.take i) (fun d => a.length - d.2.2.2.1.toNat) ?_ ⟨0, by omega, rfl, rfl⟩ (by simp only; omega)
    rintro d ⟨i, hi, rfl, ht⟩
    simp only [Int.toNat_natCast]
    by_cases c : i = a.length
    · left; intro again
      rw [if_neg (by simp; omega)]
      have : a = b := by rw [c] at ht; rw [List.take_length, hl, List.take_length] at ht; exact ht
      simp [this]
    · have hi1 : i < a.length := by omega
      have hi2 : i < b.length := by omega
      by_cases e : a.getD i 0 = b.getD i 0
      · right
        refine ⟨(a, b, (a.length : Int), (i : Int) + 1, ()), fun again => ?_, ⟨i + 1, by omega, by simp, ?_⟩, by simp only; omega⟩
        · rw [if_pos (by simp; omega), if_pos (by omega), if_pos (by omega), e, wI64 (by omega)]
          simp
        · rw [take_succ_getD a i 0 hi1, take_succ_getD b i 0 hi2, ht, e]
      · left; intro again
        have hne : a ≠ b := fun h => e (by rw [h])
        rw [if_pos (by simp; omega), if_pos (by omega), if_pos (by omega), if_pos (by rw [bne_iff_ne]; exact e)]
        simp [hne]
  · rw [if_pos (by simp; omega)]
    have : a ≠ b := fun h => hl (by rw [h])
    simp [this]
theorem str_eq (a b : ByteArray) : (a.toList == b.toList) = decide (a = b) := by
  rw [ByteArray.toList_eq, ByteArray.toList_eq, Bool.eq_iff_iff, beq_iff_eq, decide_eq_true_eq]
  constructor
  · intro h
    cases a; cases b
    simp at h
    rw [h]
  · intro h; rw [h]
theorem p_rsame (a_0 : List Int) (b_0 : List Int) (h : c_rsame a_0 b_0) : m_rsame a_0 b_0 = some (r_rsame a_0 b_0) := by
  unfold m_rsame r_rsame
  rw [str_eq]
noncomputable def fDec (d0 : (List Int) × (List Int) × Int × (List Int) × (List Int) × Unit) (again0 : (List Int) × (List Int) × Int × (List Int) × (List Int) × Unit → Option Res) : Option Res :=
    if (decide (d0.2.2.1 < (d0.1.length : Int))) = true then (if 0 ≤ (0 : Int) ∧ (0 : Int) ≤ (d0.2.1.length : Int) ∧ (d0.2.1.length : Int) = (d0.2.1.length : Int) ∧ (d0.2.1.length : Int) ≤ d0.2.1.length then (if 0 ≤ d0.2.2.1 ∧ d0.2.2.1 < d0.1.length then (if (((d0.2.1.take (d0.2.1.length : Int).toNat).drop (0 : Int).toNat).length + ([(d0.1.getD d0.2.2.1.toNat (0 : Int))] : List Int).length) * 1 ≤ 140737488355328 ∧ ((d0.2.1.take (d0.2.1.length : Int).toNat).drop (0 : Int).toNat).length + ([(d0.1.getD d0.2.2.1.toNat (0 : Int))] : List Int).length ≤ 9223372036854775807 then need (Len (((d0.2.1.take (d0.2.1.length : Int).toNat).drop (0 : Int).toNat) ++ ([(d0.1.getD d0.2.2.1.toNat (0 : Int))] : List Int))) (bindv ((partP (((d0.2.1.take (d0.2.1.length : Int).toNat).drop (0 : Int).toNat) ++ ([(d0.1.getD d0.2.2.1.toNat (0 : Int))] : List Int))).1) fun (r2 : Bool) =>
        bindv ((partP (((d0.2.1.take (d0.2.1.length : Int).toNat).drop (0 : Int).toNat) ++ ([(d0.1.getD d0.2.2.1.toNat (0 : Int))] : List Int))).2) fun (r3 : Bool) =>
        if r2 = true then again0 (d0.1, ((d0.2.1.take (d0.2.1.length : Int).toNat).drop (0 : Int).toNat) ++ ([(d0.1.getD d0.2.2.1.toNat (0 : Int))] : List Int), Go.IntKind.wrap .i64 (d0.2.2.1 + (1 : Int)), d0.2.2.2.1, d0.2.2.2.2.1, ())
        else if r3 = true then need (1 ≤ (((d0.2.1.take (d0.2.1.length : Int).toNat).drop (0 : Int).toNat) ++ ([(d0.1.getD d0.2.2.1.toNat (0 : Int))] : List Int)).length ∧ (((d0.2.1.take (d0.2.1.length : Int).toNat).drop (0 : Int).toNat) ++ ([(d0.1.getD d0.2.2.1.toNat (0 : Int))] : List Int)).length ≤ 4) (bindv (charP (((d0.2.1.take (d0.2.1.length : Int).toNat).drop (0 : Int).toNat) ++ ([(d0.1.getD d0.2.2.1.toNat (0 : Int))] : List Int))) fun (r4 : Int) =>
         if (d0.2.2.2.2.1.length + ([r4] : List Int).length) * 8 ≤ 140737488355328 ∧ d0.2.2.2.2.1.length + ([r4] : List Int).length ≤ 9223372036854775807 then again0 (d0.1, ([] : List Int), Go.IntKind.wrap .i64 (d0.2.2.1 + (1 : Int)), d0.2.2.2.1, d0.2.2.2.2.1 ++ ([r4] : List Int), ())
         else none)
        else if (decide ((d0.2.1.length : Int) > (0 : Int))) = true then (if (d0.2.2.2.2.1.length + ([65533] : List Int).length) * 8 ≤ 140737488355328 ∧ d0.2.2.2.2.1.length + ([65533] : List Int).length ≤ 9223372036854775807 then again0 (d0.1, ([] : List Int), Go.IntKind.wrap .i64 ((Go.IntKind.wrap .i64 (d0.2.2.1 - (1 : Int))) + (1 : Int)), d0.2.2.2.1, d0.2.2.2.2.1 ++ ([65533] : List Int), ())
         else none)
        else if (d0.2.2.2.2.1.length + ([65533] : List Int).length) * 8 ≤ 140737488355328 ∧ d0.2.2.2.2.1.length + ([65533] : List Int).length ≤ 9223372036854775807 then again0 (d0.1, ([] : List Int), Go.IntKind.wrap .i64 (d0.2.2.1 + (1 : Int)), d0.2.2.2.1, d0.2.2.2.2.1 ++ ([65533] : List Int), ())
        else none)
       else none)
      else none)
     else none)
    else some ⟨.tup [(true, [(none, ⟨.slice (.int .u8), d0.2.1⟩)]), (false, [(some 3, ⟨.slice (.int .i64), d0.2.2.2.2.1⟩)])], []⟩
theorem feed_nil (x : Int) : feed [] x = feed0 x := by simp [feed, feed0]
theorem dec_key (b : List Int) (hb : (b.length : Int) ≤ 1099511627776) (z r : List Int) (hr : validP r = true) : loopN fDec 9000000000000 (b, r, (0 : Int), z, ([] : List Int), ()) = some (rD (decGo r b).1 (decGo r b).2) := by
  let m : (List Int) × (List Int) × Int × (List Int) × (List Int) × Unit → Nat := fun d => 2 * (b.length - d.2.2.1.toNat) + (if 0 < d.2.1.length then 1 else 0)
  refine loop_run (fun d => ∃ (i : Nat) (r o : List Int), i ≤ b.length ∧ validP r = true ∧ o.length + (2 * (b.length - i) + (if 0 < r.length then 1 else 0)) ≤ 2 * b.length + 1 ∧ d = (b, r, (i : Int), z, o, ())) m
    (fun d => some (rD (decGo d.2.1 (b.drop d.2.2.1.toNat)).1 (d.2.2.2.2.1 ++ (decGo d.2.1 (b.drop d.2.2.1.toNat)).2))) ?_ 9000000000000 (b, r, (0 : Int), z, ([] : List Int), ())
    ⟨0, r, [], by omega, hr, by simp only [List.length_nil]; split <;> omega, rfl⟩ (by simp only [m, Int.toNat_zero]; split <;> omega)
  rintro d ⟨i, r, o, hi, hv, ho, rfl⟩
  unfold fDec
  simp only [m, bindv, Int.toNat_natCast, List.take_length, Int.toNat_zero, List.drop_zero]
  have hrl := valid_len hv
  by_cases ci : i = b.length
  · left; intro again
    rw [if_neg (by simp; omega), ci, List.drop_length]
    simp [decGo, rD]
  · right
    have hlt : i < b.length := by omega
    have hdrop := drop_getD b i 0 hlt
    have hnl : (r ++ [b.getD i 0]).length = r.length + 1 := by simp
    have go : ∀ again : (List Int) × (List Int) × Int × (List Int) × (List Int) × Unit → Option Res, ∀ A : Option Res, (if (decide ((i : Int) < (b.length : Int))) = true then A else some ⟨.tup [(true, [(none, ⟨.slice (.int .u8), r⟩)]), (false, [(some 3, ⟨.slice (.int .i64), o⟩)])], []⟩) = A := fun _ A => if_pos (by simp; omega)
    have hol : o.length ≤ 2 * b.length := by split at ho <;> omega
    by_cases c1 : (partP (r ++ [b.getD i 0])).1 = true
    · refine ⟨(b, r ++ [b.getD i 0], (i : Int) + 1, z, o, ()), fun again => ?_, ?_, ⟨i + 1, r ++ [b.getD i 0], o, by omega, (by unfold validP; rw [c1]; simp), ?_, rfl⟩, ?_⟩
      · rw [if_pos (by simp; omega), if_pos (by first | omega | simp), if_pos (by omega), if_pos (by simp; omega), need_eq (by unfold Len; rw [hnl]; omega), if_pos c1, wI64 (by omega)]
      · have hf : feed r (b.getD i 0) = (r ++ [b.getD i 0], []) := by unfold feed; rw [if_pos c1]
        rw [hdrop]
        simp only [decGo, hf]
        rw [show ((i : Int) + 1).toNat = i + 1 by omega, List.nil_append]
      · rw [if_pos (by omega)]; split at ho <;> omega
      · dsimp only
        rw [if_pos (by simp), show ((i : Int) + 1).toNat = i + 1 by omega]; split <;> omega
    by_cases c2 : (partP (r ++ [b.getD i 0])).2 = true
    · have h4 := part_len (.inr c2)
      refine ⟨(b, [], (i : Int) + 1, z, o ++ [charP (r ++ [b.getD i 0])], ()), fun again => ?_, ?_, ⟨i + 1, [], o ++ [charP (r ++ [b.getD i 0])], by omega, rfl, ?_, rfl⟩, ?_⟩
      · rw [if_pos (by simp; omega), if_pos (by first | omega | simp), if_pos (by omega), if_pos (by simp; omega), need_eq (by unfold Len; rw [hnl]; omega), if_neg c1, if_pos c2, need_eq h4, if_pos (by simp; omega), wI64 (by omega)]
      · have hf : feed r (b.getD i 0) = ([], [charP (r ++ [b.getD i 0])]) := by unfold feed; rw [if_neg c1, if_pos c2]
        rw [hdrop]
        simp only [decGo, hf]
        rw [show ((i : Int) + 1).toNat = i + 1 by omega, List.append_assoc]
      · rw [List.length_append, if_neg (by simp)]; simp only [List.length_cons, List.length_nil]; split at ho <;> omega
      · dsimp only
        rw [if_neg (by simp), show ((i : Int) + 1).toNat = i + 1 by omega]; split <;> omega
    by_cases c3 : 0 < r.length
    · refine ⟨(b, [], (i : Int), z, o ++ [65533], ()), fun again => ?_, ?_, ⟨i, [], o ++ [65533], by omega, rfl, ?_, rfl⟩, ?_⟩
      · rw [if_pos (by simp; omega), if_pos (by first | omega | simp), if_pos (by omega), if_pos (by simp; omega), need_eq (by unfold Len; rw [hnl]; omega), if_neg c1, if_neg c2, if_pos (by simp; omega), if_pos (by simp; omega), wI64 (x := (i : Int) - 1) (by omega), wI64 (by omega), show (i : Int) - 1 + 1 = i by omega]
      · have hf : feed r (b.getD i 0) = ((feed0 (b.getD i 0)).1, 65533 :: (feed0 (b.getD i 0)).2) := by unfold feed; rw [if_neg c1, if_neg c2, if_pos c3]
        simp only [Int.toNat_natCast]
        rw [hdrop]
        simp only [decGo, hf, feed_nil]
        simp
      · rw [List.length_append, if_neg (by simp)]; simp only [List.length_cons, List.length_nil]; rw [if_pos c3] at ho; omega
      · simp only [Int.toNat_natCast]
        rw [if_neg (by simp), if_pos c3]; omega
    · have hr0 : r = [] := List.eq_nil_of_length_eq_zero (by omega)
      subst hr0
      refine ⟨(b, [], (i : Int) + 1, z, o ++ [65533], ()), fun again => ?_, ?_, ⟨i + 1, [], o ++ [65533], by omega, rfl, ?_, rfl⟩, ?_⟩
      · rw [if_pos (by simp; omega), if_pos (by simp), if_pos (by omega), if_pos (by simp), need_eq (by unfold Len; rw [hnl]; simp), if_neg c1, if_neg c2, if_neg (by simp), if_pos (by simp; omega), wI64 (by omega)]
      · have hf : feed [] (b.getD i 0) = ([], [65533]) := by unfold feed; rw [if_neg c1, if_neg c2, if_neg (by simp)]
        rw [hdrop]
        simp only [decGo, hf]
        rw [show ((i : Int) + 1).toNat = i + 1 by omega, List.append_assoc]
      · rw [List.length_append, if_neg (by simp)]; simp only [List.length_cons, List.length_nil]; rw [if_neg (by simp)] at ho; omega
      · dsimp only
        rw [show ((i : Int) + 1).toNat = i + 1 by omega]; simp only [List.length_nil, Nat.lt_irrefl, if_false]; omega
theorem p_dec (d_0 : List Int) (b : List Int) (h : c_dec d_0 b) : m_dec 9000000000000 d_0 b = some (r_dec d_0 b) := by
  obtain ⟨h1, h2⟩ := h
  unfold m_dec
  rw [need_eq (show Len ((d_0, ())).1 from h1)]
  unfold r_dec decP
  by_cases c : validP d_0 = true
  · have hk := dec_key b h2 [] d_0 c
    show (if validP d_0 = true then _ else _) = _
    rw [if_pos c, need_eq (show Len d_0 from h1), if_pos c]
    exact hk
  · have hk := dec_key b h2 [] [] rfl
    show (if validP d_0 = true then _ else _) = _
    rw [if_neg c, if_neg c]
    exact hk
theorem oddGo_len : ∀ (n : Nat) (d : Deck), (oddGo n d).length ≤ n
  | 0, _ => by simp [oddGo]
  | n + 1, d => by
    simp only [oddGo]
    split
    · have := oddGo_len n (dadv d); simp; omega
    · simp
theorem p_odd (l : List Int) (h : c_odd l) : m_odd 100 l = some (r_odd l) := by
  have hL : ListOk l := h
  have h0 : DeckOk (l, ((0 : Int), ())) := ⟨hL.1, Int.le_refl _, by simp only; omega, hL.2⟩
  unfold m_odd r_odd oddP
  simp only [bindv]
  refine loop_run (fun (d : (List Int) × Int × (List Int) × Unit) => ∃ (e : Deck) (o : List Int), DeckOk e ∧ o.length ≤ 60 ∧ d = (e.1, e.2.1, o, ())) (fun d => 60 - d.2.2.1.length)
    (fun d => some ⟨.val (false, [(some 5, ⟨.slice (.int .u8), d.2.2.1 ++ oddGo (60 - d.2.2.1.length) (d.1, (d.2.1, ()))⟩)]), []⟩) ?_ 100 (l, (0 : Int), ([] : List Int), ()) ⟨(l, (0, ())), [], h0, by simp, rfl⟩ (by simp)
  rintro d ⟨⟨e1, e2, ⟨⟩⟩, o, he, ho, rfl⟩
  simp only
  by_cases c : e2 < e1.length
  · by_cases c2 : o.length = 60
    · left; intro again
      rw [if_pos (by simpa using c), if_neg (by simp; omega), c2]
      simp [oddGo]
    · right
      have hb := dnext_bound (e1, (e2, ())) (n := 21) (by omega)
      have et : ([65, 127, 128, 143, 144, 159, 160, 191, 192, 193, 194, 223, 224, 226, 237, 239, 240, 241, 244, 245, 255] : List Int) = table := rfl
      have tl : (table.length : Int) = 21 := rfl
      refine ⟨((dadv (e1, (e2, ()))).1, (dadv (e1, (e2, ()))).2.1, o ++ [table.getD (dnext (e1, (e2, ())) 21).toNat 0], ()), fun again => ?_, ?_, ⟨dadv (e1, (e2, ())), _, dadv_ok he, by simp; omega, rfl⟩, by simp; omega⟩
      · rw [if_pos (by simpa using c), if_pos (by simp; omega), need_eq ⟨he, by omega, by unfold I64; omega⟩, et, if_pos (by rw [tl]; omega), if_pos (by rw [tl]; omega), if_pos (by simp; omega)]
      · rw [List.length_append, show 60 - o.length = (60 - (o.length + 1)) + 1 by omega]
        simp only [oddGo, List.length_cons, List.length_nil, Nat.zero_add]
        rw [if_pos c]
        simp
  · left; intro again
    rw [if_neg (by simpa using c)]
    have : oddGo (60 - o.length) (e1, (e2, ())) = [] := by
      cases 60 - o.length with
      | zero => rfl
      | succ n => simp only [oddGo]; rw [if_neg c]
    rw [this, List.append_nil]
theorem p_sane  (h : c_sane ) : m_sane  = some (r_sane ) := by
  have e1 : decP [] [226, 130] = ([226, 130], []) := by decide
  have e2 : decP [226, 130] [172] = ([], [8364]) := by decide
  unfold m_sane
  rw [need_eq ⟨by unfold Len; decide, by unfold Len; decide⟩]
  simp only [bindv, e1, e2]
  rw [need_eq ⟨by unfold Len; decide, by unfold Len; decide⟩]
  rfl
theorem p_runesDivides (l : List Int) (raw : List Int) (cut : Int) (h : WfT [.slice (.int .i64), .slice (.int .u8), .int .i64] (l, raw, cut, ())) : m_runesDivides 10 l raw cut = resB true := by
  obtain ⟨hl, hraw, hc, _⟩ := h
  replace hc : I64 cut := wf64 hc
  have hL : ListOk l := ⟨by have := hl.1; simp only at this; omega, fun x hx => wf64 (hl.2 x hx)⟩
  unfold m_runesDivides
  by_cases c : (200 : Int) < raw.length
  · rw [if_pos (by simpa using c)]
  rw [if_neg (by simpa using c), need_eq hL]
  have ho : (oddP l).length ≤ 60 := oddGo_len 60 _
  refine loop_to (fun d => ∃ i : Nat, i ≤ 2 ∧ d = (cut, 2, (i : Int), ([oddP l, raw] : List (List Int)), ())) (fun d => 2 - d.2.2.1.toNat) ?_ ⟨0, by omega, rfl⟩ (by simp only; omega)
  rintro d ⟨i, hi, rfl⟩
  simp only [Int.toNat_natCast]
  by_cases ci : i = 2
  · left; intro again
    rw [if_neg (by simp; omega)]
  · right
    refine ⟨(cut, 2, (i : Int) + 1, ([oddP l, raw] : List (List Int)), ()), fun again => ?_, ⟨i + 1, by omega, by simp⟩, by simp only; omega⟩
    have hB : (([oddP l, raw] : List (List Int)).getD i []).length ≤ 200 := by
      have : i = 0 ∨ i = 1 := by omega
      rcases this with rfl | rfl
      · show (oddP l).length ≤ 200; omega
      · show raw.length ≤ 200; omega
    rw [if_pos (by simp; omega), if_pos (by simp; omega), if_pos (by simp; omega)]
    generalize ([oddP l, raw] : List (List Int)).getD i [] = B at hB
    have k1 := Int.emod_nonneg cut (show (B.length : Int) + 1 ≠ 0 by omega)
    have k2 := Int.emod_lt_of_pos cut (show 0 < (B.length : Int) + 1 by omega)
    rw [wI64 (x := (B.length : Int) + 1) (by omega), need_eq ⟨hc, by omega, by unfold I64; omega⟩]
    simp only [bindv]
    obtain ⟨k, hk⟩ : ∃ k : Nat, cut % ((B.length : Int) + 1) = k := ⟨_, (Int.toNat_of_nonneg k1).symm⟩
    rw [hk] at k2 ⊢
    simp only [Int.toNat_natCast, Int.toNat_zero, List.drop_zero, List.take_length]
    have ht : (B.take k).length ≤ 200 := by rw [List.length_take]; omega
    have hd : (B.drop k).length ≤ 200 := by rw [List.length_drop]; omega
    have e0 : ∀ x : List Int, decP [] x = decGo [] x := fun x => rfl
    have hv := dec_valid (B.take k) [] rfl
    have hvl := valid_len hv
    have e1 : decP (decGo [] (B.take k)).1 (B.drop k) = decGo (decGo [] (B.take k)).1 (B.drop k) := by unfold decP; rw [if_pos hv]
    have happ := dec_append (B.take k) (B.drop k) []
    rw [List.take_append_drop] at happ
    have n0 : Len ([] : List Int) := by unfold Len; simp
    have l1 := dec_len (B.take k) []
    have l2 := dec_len (B.drop k) (decGo [] (B.take k)).1
    have l3 := dec_len B []
    simp only [e0, e1]
    rw [need_eq ⟨n0, by unfold Len; omega⟩, if_pos (by omega), need_eq ⟨n0, by unfold Len; omega⟩, if_pos (by omega), need_eq ⟨by unfold Len; omega, by unfold Len; omega⟩]
    rw [if_pos (by rw [happ]; simp), if_pos (by simp; omega), if_pos (by simp; omega), need_eq (by unfold Len; omega), if_neg (by rw [happ]; simp), wI64 (by omega)]
end Go.Run
