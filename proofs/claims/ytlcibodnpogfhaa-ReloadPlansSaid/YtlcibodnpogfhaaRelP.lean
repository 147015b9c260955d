/- The models of plans come to what their definitions say; the law of plans. -/
import Derived.Test.YtlcibodnpogfhaaRelM
import Derived.Test.YtlcibodnpogfhaaMilP
import Derived.Lib.Strings
set_option linter.unusedVariables false
set_option linter.unusedSimpArgs false
set_option linter.unnecessarySimpa false
set_option maxRecDepth 100000
namespace Go.Rel
open Go.Ab Go.RowKit Go.Mil
theorem str_eq (a b : ByteArray) : (a.toList == b.toList) = decide (a = b) := by
  rw [ByteArray.toList_eq, ByteArray.toList_eq, Bool.eq_iff_iff, beq_iff_eq, decide_eq_true_eq]
  constructor
  · intro h
    cases a; cases b
    simp at h
    rw [h]
  · intro h; rw [h]
theorem list_ext {α : Type} {a b : List α} (z : α) (h : a.length = b.length) (he : ∀ j, j < a.length → a.getD j z = b.getD j z) : a = b :=
  List.ext_getElem h fun j h1 h2 => by
    have := he j h1
    simpa [List.getD_eq_getElem?_getD, h1, h2] using this
theorem eqV_is (x y : ByteArray × ByteArray × Unit) : ((x.1.toList == y.1.toList) && ((x.2.1.toList == y.2.1.toList) && true)) = decide (x = y) := by
  obtain ⟨a, b, ⟨⟩⟩ := x
  obtain ⟨c, d, ⟨⟩⟩ := y
  simp only [str_eq, Bool.and_true]
  rw [Bool.eq_iff_iff]
  simp
theorem eqR_is (x y : Int × Int × Unit) : ((x.1 == y.1) && ((x.2.1 == y.2.1) && true)) = decide (x = y) := by
  obtain ⟨a, b, ⟨⟩⟩ := x
  obtain ⟨c, d, ⟨⟩⟩ := y
  rw [Bool.eq_iff_iff]
  simp
theorem eqC_is (x y : ByteArray × Int × Unit) : ((x.1.toList == y.1.toList) && ((x.2.1 == y.2.1) && true)) = decide (x = y) := by
  obtain ⟨a, b, ⟨⟩⟩ := x
  obtain ⟨c, d, ⟨⟩⟩ := y
  simp only [str_eq, Bool.and_true]
  rw [Bool.eq_iff_iff]
  simp
theorem p_eqV (a : List (ByteArray × (ByteArray × Unit))) (b : List (ByteArray × (ByteArray × Unit))) (h : c_eqV a b) : m_eqV 300000000000000 a b = some (r_eqV a b) := by
  have hl : (a.length : Int) ≤ 140737488355328 := h
  unfold m_eqV r_eqV
  by_cases hab : a.length = b.length
  · rw [if_neg (by simp [hab])]
    refine loop_to (fun d => ∃ i : Nat, i ≤ a.length ∧ d = (a, b, (a.length : Int), (i : Int), ()) ∧ ∀ j, j < i → a.getD j (ByteArray.empty, ByteArray.empty, ()) = b.getD j (ByteArray.empty, ByteArray.empty, ())) (fun d => 140737488355329 - d.2.2.2.1.toNat) ?_ ⟨0, by omega, rfl, fun j h => absurd h (by omega)⟩ (by simp only; omega)
    rintro d ⟨i, hi, rfl, he⟩
    simp only [Int.toNat_natCast]
    by_cases c : i = a.length
    · left; intro again
      rw [if_neg (by simp; omega), list_ext (ByteArray.empty, ByteArray.empty, ()) hab (fun j hj => he j (by omega))]
      simp
    by_cases e : a.getD i (ByteArray.empty, ByteArray.empty, ()) = b.getD i (ByteArray.empty, ByteArray.empty, ())
    · right
      refine ⟨(a, b, (a.length : Int), ((i + 1 : Nat) : Int), ()), fun again => ?_, ⟨i + 1, by omega, rfl, fun j hj => ?_⟩, by simp only [Int.toNat_natCast]; omega⟩
      · rw [if_pos (by simp; omega), if_pos (by omega), if_pos (by omega), eqV_is, e, if_neg (by simp), wI64 (by omega)]
        rfl
      · by_cases hj' : j = i
        · rw [hj']; exact e
        · exact he j (by omega)
    · left; intro again
      rw [if_pos (by simp; omega), if_pos (by omega), if_pos (by omega), eqV_is, if_pos (by simpa using e)]
      have hne : a ≠ b := fun h => e (by rw [h])
      simp [hne]
  · rw [if_pos (by simp; omega)]
    have : a ≠ b := fun h => hab (by rw [h])
    simp [this]
theorem p_eqS (a : List (ByteArray)) (b : List (ByteArray)) (h : c_eqS a b) : m_eqS 300000000000000 a b = some (r_eqS a b) := by
  have hl : (a.length : Int) ≤ 140737488355328 := h
  unfold m_eqS r_eqS
  by_cases hab : a.length = b.length
  · rw [if_neg (by simp [hab])]
    refine loop_to (fun d => ∃ i : Nat, i ≤ a.length ∧ d = (a, b, (a.length : Int), (i : Int), ()) ∧ ∀ j, j < i → a.getD j ByteArray.empty = b.getD j ByteArray.empty) (fun d => 140737488355329 - d.2.2.2.1.toNat) ?_ ⟨0, by omega, rfl, fun j h => absurd h (by omega)⟩ (by simp only; omega)
    rintro d ⟨i, hi, rfl, he⟩
    simp only [Int.toNat_natCast]
    by_cases c : i = a.length
    · left; intro again
      rw [if_neg (by simp; omega), list_ext ByteArray.empty hab (fun j hj => he j (by omega))]
      simp
    by_cases e : a.getD i ByteArray.empty = b.getD i ByteArray.empty
    · right
      refine ⟨(a, b, (a.length : Int), ((i + 1 : Nat) : Int), ()), fun again => ?_, ⟨i + 1, by omega, rfl, fun j hj => ?_⟩, by simp only [Int.toNat_natCast]; omega⟩
      · rw [if_pos (by simp; omega), if_pos (by omega), if_pos (by omega), str_eq, e, if_neg (by simp), wI64 (by omega)]
        rfl
      · by_cases hj' : j = i
        · rw [hj']; exact e
        · exact he j (by omega)
    · left; intro again
      rw [if_pos (by simp; omega), if_pos (by omega), if_pos (by omega), str_eq, if_pos (by simpa using e)]
      have hne : a ≠ b := fun h => e (by rw [h])
      simp [hne]
  · rw [if_pos (by simp; omega)]
    have : a ≠ b := fun h => hab (by rw [h])
    simp [this]
theorem p_eqR (a : List (Int × (Int × Unit))) (b : List (Int × (Int × Unit))) (h : c_eqR a b) : m_eqR 300000000000000 a b = some (r_eqR a b) := by
  have hl : (a.length : Int) ≤ 140737488355328 := h
  unfold m_eqR r_eqR
  by_cases hab : a.length = b.length
  · rw [if_neg (by simp [hab])]
    refine loop_to (fun d => ∃ i : Nat, i ≤ a.length ∧ d = (a, b, (a.length : Int), (i : Int), ()) ∧ ∀ j, j < i → a.getD j ((0 : Int), (0 : Int), ()) = b.getD j ((0 : Int), (0 : Int), ())) (fun d => 140737488355329 - d.2.2.2.1.toNat) ?_ ⟨0, by omega, rfl, fun j h => absurd h (by omega)⟩ (by simp only; omega)
    rintro d ⟨i, hi, rfl, he⟩
    simp only [Int.toNat_natCast]
    by_cases c : i = a.length
    · left; intro again
      rw [if_neg (by simp; omega), list_ext ((0 : Int), (0 : Int), ()) hab (fun j hj => he j (by omega))]
      simp
    by_cases e : a.getD i ((0 : Int), (0 : Int), ()) = b.getD i ((0 : Int), (0 : Int), ())
    · right
      refine ⟨(a, b, (a.length : Int), ((i + 1 : Nat) : Int), ()), fun again => ?_, ⟨i + 1, by omega, rfl, fun j hj => ?_⟩, by simp only [Int.toNat_natCast]; omega⟩
      · rw [if_pos (by simp; omega), if_pos (by omega), if_pos (by omega), eqR_is, e, if_neg (by simp), wI64 (by omega)]
        rfl
      · by_cases hj' : j = i
        · rw [hj']; exact e
        · exact he j (by omega)
    · left; intro again
      rw [if_pos (by simp; omega), if_pos (by omega), if_pos (by omega), eqR_is, if_pos (by simpa using e)]
      have hne : a ≠ b := fun h => e (by rw [h])
      simp [hne]
  · rw [if_pos (by simp; omega)]
    have : a ≠ b := fun h => hab (by rw [h])
    simp [this]
theorem p_samePlan (a : List (ByteArray × (Int × Unit))) (b : List (ByteArray × (Int × Unit))) (h : c_samePlan a b) : m_samePlan 300000000000000 a b = some (r_samePlan a b) := by
  have hl : (a.length : Int) ≤ 140737488355328 := h
  unfold m_samePlan r_samePlan
  by_cases hab : a.length = b.length
  · rw [if_neg (by simp [hab])]
    refine loop_to (fun d => ∃ i : Nat, i ≤ a.length ∧ d = (a, b, (i : Int), ()) ∧ ∀ j, j < i → a.getD j (ByteArray.empty, (0 : Int), ()) = b.getD j (ByteArray.empty, (0 : Int), ())) (fun d => 140737488355329 - d.2.2.1.toNat) ?_ ⟨0, by omega, rfl, fun j h => absurd h (by omega)⟩ (by simp only; omega)
    rintro d ⟨i, hi, rfl, he⟩
    simp only [Int.toNat_natCast]
    by_cases c : i = a.length
    · left; intro again
      rw [if_neg (by simp; omega), list_ext (ByteArray.empty, (0 : Int), ()) hab (fun j hj => he j (by omega))]
      simp
    by_cases e : a.getD i (ByteArray.empty, (0 : Int), ()) = b.getD i (ByteArray.empty, (0 : Int), ())
    · right
      refine ⟨(a, b, ((i + 1 : Nat) : Int), ()), fun again => ?_, ⟨i + 1, by omega, rfl, fun j hj => ?_⟩, by simp only [Int.toNat_natCast]; omega⟩
      · rw [if_pos (by simp; omega), if_pos (by omega), if_pos (by omega), eqC_is, e, if_neg (by simp), wI64 (by omega)]
        rfl
      · by_cases hj' : j = i
        · rw [hj']; exact e
        · exact he j (by omega)
    · left; intro again
      rw [if_pos (by simp; omega), if_pos (by omega), if_pos (by omega), eqC_is, if_pos (by simpa using e)]
      have hne : a ≠ b := fun h => e (by rw [h])
      simp [hne]
  · rw [if_pos (by simp; omega)]
    have : a ≠ b := fun h => hab (by rw [h])
    simp [this]
theorem p_alike (a_0 : ByteArray) (a_1 : ByteArray) (a_2 : List (ByteArray × (ByteArray × Unit))) (a_3 : List ByteArray) (a_4 : Bool) (a_5 : ByteArray) (a_6 : Int) (a_7 : Int) (a_8 : Int) (a_9 : Int) (a_10 : Int) (a_11 : Int) (a_12 : List (Int × (Int × Unit))) (a_13 : Int) (a_14 : Int) (b_0 : ByteArray) (b_1 : ByteArray) (b_2 : List (ByteArray × (ByteArray × Unit))) (b_3 : List ByteArray) (b_4 : Bool) (b_5 : ByteArray) (b_6 : Int) (b_7 : Int) (b_8 : Int) (b_9 : Int) (b_10 : Int) (b_11 : Int) (b_12 : List (Int × (Int × Unit))) (b_13 : Int) (b_14 : Int) (h : c_alike a_0 a_1 a_2 a_3 a_4 a_5 a_6 a_7 a_8 a_9 a_10 a_11 a_12 a_13 a_14 b_0 b_1 b_2 b_3 b_4 b_5 b_6 b_7 b_8 b_9 b_10 b_11 b_12 b_13 b_14) : m_alike a_0 a_1 a_2 a_3 a_4 a_5 a_6 a_7 a_8 a_9 a_10 a_11 a_12 a_13 a_14 b_0 b_1 b_2 b_3 b_4 b_5 b_6 b_7 b_8 b_9 b_10 b_11 b_12 b_13 b_14 = some (r_alike a_0 a_1 a_2 a_3 a_4 a_5 a_6 a_7 a_8 a_9 a_10 a_11 a_12 a_13 a_14 b_0 b_1 b_2 b_3 b_4 b_5 b_6 b_7 b_8 b_9 b_10 b_11 b_12 b_13 b_14) := by
  obtain ⟨h1, h2, h3⟩ := h
  replace h1 : (a_2.length : Int) ≤ 140737488355328 := h1
  replace h2 : (a_3.length : Int) ≤ 140737488355328 := h2
  replace h3 : (a_12.length : Int) ≤ 140737488355328 := h3
  unfold m_alike r_alike alikeP
  simp only [bindv, str_eq, need_eq h1, need_eq h2, need_eq h3]
  by_cases c0 : a_0 = b_0 <;> by_cases c1 : a_1 = b_1 <;> by_cases c2 : a_2 = b_2 <;> by_cases c3 : a_3 = b_3 <;> simp only [c0, c1, c2, c3, decide_true, decide_false, if_true, Bool.false_eq_true, if_false, true_and, false_and, and_false]
  by_cases c4 : a_4 = b_4 <;> by_cases c5 : a_5 = b_5 <;> by_cases c6 : a_6 = b_6 <;> by_cases c7 : a_7 = b_7 <;> simp only [c4, c5, c6, c7, beq_self_eq_true, beq_eq_false_iff_ne, ne_eq, not_false_eq_true, beq_iff_eq, decide_true, decide_false, if_true, Bool.false_eq_true, if_false, true_and, false_and, and_false]
  by_cases c8 : a_8 = b_8 <;> by_cases c9 : a_9 = b_9 <;> by_cases c10 : a_10 = b_10 <;> by_cases c11 : a_11 = b_11 <;> simp only [c8, c9, c10, c11, beq_self_eq_true, beq_iff_eq, decide_true, decide_false, if_true, Bool.false_eq_true, if_false, true_and, false_and, and_false]
theorem p_same (a_0 : ByteArray) (a_1 : ByteArray) (a_2 : List (ByteArray × (ByteArray × Unit))) (a_3 : List ByteArray) (a_4 : Bool) (a_5 : ByteArray) (a_6 : Int) (a_7 : Int) (a_8 : Int) (a_9 : Int) (a_10 : Int) (a_11 : Int) (a_12 : List (Int × (Int × Unit))) (a_13 : Int) (a_14 : Int) (b_0 : ByteArray) (b_1 : ByteArray) (b_2 : List (ByteArray × (ByteArray × Unit))) (b_3 : List ByteArray) (b_4 : Bool) (b_5 : ByteArray) (b_6 : Int) (b_7 : Int) (b_8 : Int) (b_9 : Int) (b_10 : Int) (b_11 : Int) (b_12 : List (Int × (Int × Unit))) (b_13 : Int) (b_14 : Int) (h : c_same a_0 a_1 a_2 a_3 a_4 a_5 a_6 a_7 a_8 a_9 a_10 a_11 a_12 a_13 a_14 b_0 b_1 b_2 b_3 b_4 b_5 b_6 b_7 b_8 b_9 b_10 b_11 b_12 b_13 b_14) : m_same a_0 a_1 a_2 a_3 a_4 a_5 a_6 a_7 a_8 a_9 a_10 a_11 a_12 a_13 a_14 b_0 b_1 b_2 b_3 b_4 b_5 b_6 b_7 b_8 b_9 b_10 b_11 b_12 b_13 b_14 = some (r_same a_0 a_1 a_2 a_3 a_4 a_5 a_6 a_7 a_8 a_9 a_10 a_11 a_12 a_13 a_14 b_0 b_1 b_2 b_3 b_4 b_5 b_6 b_7 b_8 b_9 b_10 b_11 b_12 b_13 b_14) := by
  unfold m_same
  exact need_eq h
theorem p_isn (j_0 : ByteArray) (j_1 : ByteArray) (j_2 : List (ByteArray × (ByteArray × Unit))) (j_3 : List ByteArray) (j_4 : Bool) (j_5 : ByteArray) (j_6 : Int) (j_7 : Int) (j_8 : Int) (j_9 : Int) (j_10 : Int) (j_11 : Int) (j_12 : List (Int × (Int × Unit))) (j_13 : Int) (j_14 : Int) (name_0 : ByteArray) (h : c_isn j_0 j_1 j_2 j_3 j_4 j_5 j_6 j_7 j_8 j_9 j_10 j_11 j_12 j_13 j_14 name_0) : m_isn j_0 j_1 j_2 j_3 j_4 j_5 j_6 j_7 j_8 j_9 j_10 j_11 j_12 j_13 j_14 name_0 = some (r_isn j_0 j_1 j_2 j_3 j_4 j_5 j_6 j_7 j_8 j_9 j_10 j_11 j_12 j_13 j_14 name_0) := by
  unfold m_isn r_isn
  rw [str_eq]
theorem place_ge (n : ByteArray) : ∀ (l : List Job) (i : Int), placeGo n l i = -1 ∨ i ≤ placeGo n l i
  | [], i => .inl rfl
  | j :: l, i => by
    simp only [placeGo]
    split
    · right; omega
    · rcases place_ge n l (i + 1) with h | h
      · exact .inl h
      · right; omega
theorem p_idx (l : List (ByteArray × (ByteArray × ((List (ByteArray × (ByteArray × Unit))) × ((List ByteArray) × (Bool × (ByteArray × (Int × (Int × (Int × (Int × (Int × (Int × ((List (Int × (Int × Unit))) × (Int × (Int × Unit)))))))))))))))) (name : ByteArray) (h : c_idx l name) : m_idx 2000000 l name = some (r_idx l name) := by
  have hl : (l.length : Int) ≤ 1000000 := h
  unfold m_idx r_idx
  refine loop_to (fun d => ∃ i : Nat, i ≤ l.length ∧ d = (l, (l.length : Int), (i : Int), name, ()) ∧ placeP l name = placeGo name (l.drop i) i) (fun d => l.length - d.2.2.1.toNat) ?_ ⟨0, by omega, rfl, rfl⟩ (by simp only; omega)
  rintro d ⟨i, hi, rfl, hf⟩
  simp only [Int.toNat_natCast]
  by_cases ci : i = l.length
  · left; intro again
    rw [if_neg (by simp; omega), hf, ci, List.drop_length]
    rfl
  have hlt : i < l.length := by omega
  have hd := drop_getD l i J0 hlt
  rw [hd] at hf
  simp only [placeGo] at hf
  by_cases co : (l.getD i J0).1 = name
  · left; intro again
    rw [if_pos co] at hf
    rw [if_pos (by simp; omega), if_pos (by omega), hf]
    exact if_pos (decide_eq_true co)
  · right
    rw [if_neg co] at hf
    refine ⟨(l, (l.length : Int), ((i + 1 : Nat) : Int), name, ()), fun again => ?_, ⟨i + 1, by omega, rfl, hf⟩, by simp only [Int.toNat_natCast]; omega⟩
    rw [if_pos (by simp; omega), if_pos (by omega), wI64 (by omega)]
    exact if_neg (fun h => co (of_decide_eq_true h))
theorem p_named (l : List (ByteArray × (ByteArray × ((List (ByteArray × (ByteArray × Unit))) × ((List ByteArray) × (Bool × (ByteArray × (Int × (Int × (Int × (Int × (Int × (Int × ((List (Int × (Int × Unit))) × (Int × (Int × Unit)))))))))))))))) (name : ByteArray) (h : c_named l name) : m_named l name = some (r_named l name) := by
  unfold m_named
  exact need_eq h
theorem place_at (n : ByteArray) : ∀ (l : List Job) (i : Int), 0 ≤ i → (placeGo n l i = -1 ∧ n ∉ l.map (·.1)) ∨ ∃ k : Nat, placeGo n l i = i + k ∧ k < l.length ∧ (l.getD k J0).1 = n
  | [], i, _ => .inl ⟨rfl, by simp⟩
  | j :: l, i, h0 => by
    simp only [placeGo]
    split
    · rename_i c
      exact .inr ⟨0, by omega, by simp, by simpa using c⟩
    · rename_i c
      rcases place_at n l (i + 1) (by omega) with ⟨h1, h2⟩ | ⟨k, h1, h2, h3⟩
      · exact .inl ⟨h1, by simp only [List.map_cons, List.mem_cons, not_or]; exact ⟨fun h => c h.symm, h2⟩⟩
      · exact .inr ⟨k + 1, by omega, by simp; omega, by simpa using h3⟩
theorem place_cases (l : List Job) (n : ByteArray) : (placeP l n < 0 ∧ n ∉ l.map (·.1)) ∨ (0 ≤ placeP l n ∧ placeP l n < (l.length : Int) ∧ (l.getD (placeP l n).toNat J0).1 = n ∧ l.getD (placeP l n).toNat J0 ∈ l) := by
  rcases place_at n l 0 (by omega) with ⟨h1, h2⟩ | ⟨k, h1, h2, h3⟩
  · left; unfold placeP; rw [h1]; exact ⟨by omega, h2⟩
  · right
    have e : placeP l n = (k : Int) := by unfold placeP; omega
    rw [e, Int.toNat_natCast]
    exact ⟨by omega, by omega, h3, getD_mem l k J0 h2⟩
theorem p_plan (old : List (ByteArray × (ByteArray × ((List (ByteArray × (ByteArray × Unit))) × ((List ByteArray) × (Bool × (ByteArray × (Int × (Int × (Int × (Int × (Int × (Int × ((List (Int × (Int × Unit))) × (Int × (Int × Unit)))))))))))))))) (next : List (ByteArray × (ByteArray × ((List (ByteArray × (ByteArray × Unit))) × ((List ByteArray) × (Bool × (ByteArray × (Int × (Int × (Int × (Int × (Int × (Int × ((List (Int × (Int × Unit))) × (Int × (Int × Unit)))))))))))))))) (h : c_plan old next) : m_plan 2000000 2000000 old next = some (r_plan old next) := by
  obtain ⟨⟨hf, hr⟩, hn⟩ := h
  have hF := hf
  have hN := hn
  replace hf : (old.length : Int) ≤ 1000000 := hf
  replace hn : (next.length : Int) ≤ 1000000 := hn
  unfold m_plan r_plan
  refine loop_to (fun d => ∃ i : Nat, i ≤ old.length ∧ d = (old, next, old, (old.length : Int), (i : Int), (old.take i).map (fun j => (j.1, kindP next j, ())), ())) (fun d => old.length - d.2.2.2.2.1.toNat) ?_ ⟨0, by omega, rfl⟩ (by simp only; omega)
  rintro d ⟨i, hi, rfl⟩
  simp only [Int.toNat_natCast]
  by_cases ci : i = old.length
  · left; intro again
    subst ci
    rw [if_neg (by simp), List.take_length]
    refine loop_to (fun d => ∃ i : Nat, i ≤ next.length ∧ d = (old, next, (next.length : Int), (i : Int), old.map (fun j => (j.1, kindP next j, ())) ++ ((next.take i).filter (fun j => decide (placeP old j.1 < 0))).map (fun j => (j.1, 4, ())), ())) (fun d => next.length - d.2.2.2.1.toNat) ?_ ⟨0, by omega, by simp⟩ (by simp only; omega)
    rintro d ⟨i, hi, rfl⟩
    simp only [Int.toNat_natCast]
    by_cases ci : i = next.length
    · left; intro again1
      subst ci
      rw [if_neg (by simp), List.take_length]
      rfl
    right
    have hlt : i < next.length := by omega
    have hle : ((next.take i).filter (fun j => decide (placeP old j.1 < 0))).length ≤ i := by
      exact Nat.le_trans (List.length_filter_le _ _) (by rw [List.length_take]; omega)
    refine ⟨(old, next, (next.length : Int), ((i + 1 : Nat) : Int), _, ()), fun again1 => ?_, ⟨i + 1, by omega, rfl⟩, by simp only [Int.toNat_natCast]; omega⟩
    rw [if_pos (by simp; omega), if_pos (by omega), need_eq hF, wI64 (by omega), take_succ_getD next i J0 hlt, List.filter_append, List.map_append, ← List.append_assoc]
    simp only [bindv]
    by_cases c : placeP old (next.getD i J0).1 < 0
    · have e : [next.getD i J0].filter (fun j => decide (placeP old j.1 < 0)) = [next.getD i J0] := by
        rw [List.filter_cons, if_pos (by simpa using c)]; rfl
      rw [e]
      exact (if_pos (decide_eq_true c)).trans (if_pos (by simp only [List.length_append, List.length_map, List.length_cons, List.length_nil]; omega))
    · have e : [next.getD i J0].filter (fun j => decide (placeP old j.1 < 0)) = [] := by
        rw [List.filter_cons, if_neg (by simpa using c)]; rfl
      rw [e]
      refine (if_neg (fun h => c (of_decide_eq_true h))).trans ?_
      simp
  right
  have hlt : i < old.length := by omega
  have hok := hr _ (getD_mem old i J0 hlt)
  refine ⟨(old, next, old, (old.length : Int), ((i + 1 : Nat) : Int), _, ()), fun again => ?_, ⟨i + 1, by omega, rfl⟩, by simp only [Int.toNat_natCast]; omega⟩
  rw [if_pos (by simp; omega), if_pos (by omega), need_eq hN, wI64 (by omega), take_succ_getD old i J0 hlt, List.map_append]
  simp only [bindv, List.map_cons, List.map_nil]
  have hap : ∀ k : Int, (((old.take i).map (fun j => (j.1, kindP next j, ()))).length + [((old.getD i J0).1, k, ())].length) * 24 ≤ 140737488355328 ∧ ((old.take i).map (fun j => (j.1, kindP next j, ()))).length + [((old.getD i J0).1, k, ())].length ≤ 9223372036854775807 := by
    intro k
    simp only [List.length_map, List.length_take, List.length_cons, List.length_nil]
    omega
  rcases place_cases next (old.getD i J0).1 with ⟨h1, h2⟩ | ⟨h1, h2, h3, h4⟩
  · have e : kindP next (old.getD i J0) = 3 := by unfold kindP; rw [if_pos h1]
    rw [e]
    have hn' : ¬ 0 ≤ placeP next (old.getD i J0).1 := by omega
    exact (if_neg (fun h => hn' (of_decide_eq_true h))).trans (if_pos (hap 3))
  · refine (if_pos (decide_eq_true h1)).trans ((if_pos ⟨h1, h2⟩).trans ?_)
    refine (need_eq hok).trans ?_
    by_cases ca : alikeP (old.getD i J0) (next.getD (placeP next (old.getD i J0).1).toNat J0) = true
    · have e : kindP next (old.getD i J0) = 1 := by unfold kindP; rw [if_neg (by omega), if_pos ca]
      rw [e]
      exact (if_pos ca).trans (if_pos (hap 1))
    · have e : kindP next (old.getD i J0) = 2 := by unfold kindP; rw [if_neg (by omega), if_neg ca]
      rw [e]
      exact (if_neg ca).trans (if_pos (hap 2))
theorem p_sane  (h : c_sane ) : m_sane  = some (r_sane ) := by
  unfold m_sane r_sane
  refine (need_eq ⟨⟨?_, ?_⟩, ?_⟩).trans ?_
  · simp only [bindv]
    refine (need_eq (by decide +kernel)).trans ?_
    exact congrArg (fun b => some (⟨.val (false, [(none, ⟨.bool, b⟩)]), []⟩ : Res)) (by decide +kernel)
  · unfold Few; simp
  · intro j hj
    rcases List.mem_cons.1 hj with rfl | hj
    · unfold JobOk; simp
    · rcases List.mem_cons.1 hj with rfl | hj
      · unfold JobOk; simp
      · simp at hj
  · unfold Few; simp
/-! #### the law -/
/-- The kind of a change is known by its name. -/
def KP (old next : List Job) (n : ByteArray) : Int := if placeP old n < 0 then 4 else if placeP next n < 0 then 3 else if alikeP (old.getD (placeP old n).toNat J0) (next.getD (placeP next n).toNat J0) = true then 1 else 2
def flip (k : Int) : Int := if k = 3 then 4 else if k = 4 then 3 else k
theorem alike_comm (a b : Job) : alikeP a b = alikeP b a := by
  unfold alikeP
  rw [Bool.eq_iff_iff, decide_eq_true_iff, decide_eq_true_iff]
  constructor <;> (rintro ⟨a, b, c, d, e, f, g, h, i, j, k, l, m⟩; exact ⟨a.symm, b.symm, c.symm, d.symm, e.symm, f.symm, g.symm, h.symm, i.symm, j.symm, k.symm, l.symm, m.symm⟩)
theorem alike_self (a : Job) : alikeP a a = true := by unfold alikeP; simp
theorem place_iff (l : List Job) (n : ByteArray) : placeP l n < 0 ↔ n ∉ l.map (·.1) := by
  rcases place_cases l n with ⟨h1, h2⟩ | ⟨h1, h2, h3, h4⟩
  · exact ⟨fun _ => h2, fun _ => h1⟩
  · refine ⟨fun h => absurd h (by omega), fun h => absurd (List.mem_map.2 ⟨_, h4, h3⟩) h⟩
theorem nodup_inj : ∀ {l : List Job} {a b : Job}, (l.map (·.1)).Nodup → a ∈ l → b ∈ l → a.1 = b.1 → a = b
  | [], a, b, _, ha, _, _ => by cases ha
  | j :: l, a, b, hn, ha, hb, e => by
    rw [List.map_cons, List.nodup_cons] at hn
    obtain ⟨h1, h2⟩ := hn
    rcases List.mem_cons.1 ha with ea | ha
    · rcases List.mem_cons.1 hb with eb | hb
      · rw [ea, eb]
      · exact absurd (List.mem_map.2 ⟨b, hb, by rw [← e, ea]⟩) h1
    · rcases List.mem_cons.1 hb with eb | hb
      · exact absurd (List.mem_map.2 ⟨a, ha, by rw [e, eb]⟩) h1
      · exact nodup_inj h2 ha hb e
theorem place_self {l : List Job} {j : Job} (hn : (l.map (·.1)).Nodup) (hj : j ∈ l) : 0 ≤ placeP l j.1 ∧ l.getD (placeP l j.1).toNat J0 = j := by
  rcases place_cases l j.1 with ⟨h1, h2⟩ | ⟨h1, h2, h3, h4⟩
  · exact absurd (List.mem_map.2 ⟨j, hj, rfl⟩) h2
  · exact ⟨h1, nodup_inj hn h4 hj h3⟩
theorem plan_kind {old next : List Job} (hn : (old.map (·.1)).Nodup) {c : Change} (hc : c ∈ planP old next) : c.2.1 = KP old next c.1 ∧ (0 ≤ placeP old c.1 ∨ 0 ≤ placeP next c.1) := by
  unfold planP at hc
  rcases List.mem_append.1 hc with hc | hc
  · obtain ⟨j, hj, rfl⟩ := List.mem_map.1 hc
    obtain ⟨h1, h2⟩ := place_self hn hj
    refine ⟨?_, .inl h1⟩
    simp only [kindP, KP]
    rw [if_neg (by omega : ¬ placeP old j.1 < 0), h2]
  · obtain ⟨j, hj, rfl⟩ := List.mem_map.1 hc
    obtain ⟨h1, h2⟩ := List.mem_filter.1 hj
    have h3 := of_decide_eq_true h2
    refine ⟨?_, .inr ?_⟩
    · simp only [KP]
      rw [if_pos h3]
    · have := place_iff next j.1
      have hm : j.1 ∈ next.map (·.1) := List.mem_map.2 ⟨j, h1, rfl⟩
      simp only
      rcases Int.lt_or_le (placeP next j.1) 0 with h | h
      · exact absurd hm (this.1 h)
      · exact h
theorem flip_KP {x y : List Job} {n : ByteArray} (h : 0 ≤ placeP x n ∨ 0 ≤ placeP y n) : flip (KP x y n) = KP y x n := by
  unfold KP
  by_cases h1 : placeP x n < 0
  · rw [if_pos h1, if_neg (by omega : ¬ placeP y n < 0), if_pos h1]; rfl
  · rw [if_neg h1]
    by_cases h2 : placeP y n < 0
    · rw [if_pos h2, if_pos h2]; rfl
    · rw [if_neg h2, if_neg h2, if_neg h1, alike_comm]
      split <;> rfl
theorem plan_names (old next : List Job) : (planP old next).map (·.1) = old.map (·.1) ++ (next.filter (fun j => decide (placeP old j.1 < 0))).map (·.1) := by
  unfold planP
  rw [List.map_append, List.map_map, List.map_map]
  rfl
theorem nodup_filter_map {l : List Job} (p : Job → Bool) (h : (l.map (·.1)).Nodup) : ((l.filter p).map (·.1)).Nodup := by
  induction l with
  | nil => simp
  | cons j l ih =>
    rw [List.map_cons, List.nodup_cons] at h
    rw [List.filter_cons]
    split
    · rw [List.map_cons, List.nodup_cons]
      refine ⟨fun hm => h.1 ?_, ih h.2⟩
      obtain ⟨k, hk, e⟩ := List.mem_map.1 hm
      exact List.mem_map.2 ⟨k, (List.mem_filter.1 hk).1, e⟩
    · exact ih h.2
theorem plan_nodup {old next : List Job} (h1 : (old.map (·.1)).Nodup) (h2 : (next.map (·.1)).Nodup) : ((planP old next).map (·.1)).Nodup := by
  rw [plan_names, List.nodup_append]
  refine ⟨h1, nodup_filter_map _ h2, fun a ha b hb e => ?_⟩
  obtain ⟨j, hj, rfl⟩ := List.mem_map.1 hb
  have := of_decide_eq_true (List.mem_filter.1 hj).2
  rw [e] at ha
  exact (place_iff old j.1).1 this ha
theorem plan_mem (old next : List Job) (n : ByteArray) : n ∈ (planP old next).map (·.1) ↔ n ∈ old.map (·.1) ∨ n ∈ next.map (·.1) := by
  rw [plan_names, List.mem_append]
  constructor
  · rintro (h | h)
    · exact .inl h
    · obtain ⟨j, hj, rfl⟩ := List.mem_map.1 h
      exact .inr (List.mem_map.2 ⟨j, (List.mem_filter.1 hj).1, rfl⟩)
  · intro h
    by_cases ho : n ∈ old.map (·.1)
    · exact .inl ho
    · rcases h with h | h
      · exact absurd h ho
      · obtain ⟨j, hj, rfl⟩ := List.mem_map.1 h
        exact .inr (List.mem_map.2 ⟨j, List.mem_filter.2 ⟨hj, decide_eq_true ((place_iff old j.1).2 ho)⟩, rfl⟩)
theorem nodup_le {α : Type} [DecidableEq α] : ∀ {a b : List α}, a.Nodup → (∀ x ∈ a, x ∈ b) → a.length ≤ b.length
  | [], b, _, _ => by simp
  | x :: a, b, h, hs => by
    rw [List.nodup_cons] at h
    have hx := hs x (by simp)
    have ih := nodup_le (b := b.erase x) h.2 (fun y hy => (List.mem_erase_of_ne (fun e => h.1 (by rw [← e]; exact hy))).2 (hs y (List.mem_cons_of_mem _ hy)))
    rw [List.length_erase_of_mem hx] at ih
    have : 0 < b.length := List.length_pos_of_mem hx
    simp only [List.length_cons]
    omega
theorem plan_len {x y : List Job} (h1 : (x.map (·.1)).Nodup) (h2 : (y.map (·.1)).Nodup) : (planP x y).length = (planP y x).length := by
  have a := nodup_le (plan_nodup h1 h2) (fun n hn => (plan_mem y x n).2 ((plan_mem x y n).1 hn).symm)
  have b := nodup_le (plan_nodup h2 h1) (fun n hn => (plan_mem x y n).2 ((plan_mem y x n).1 hn).symm)
  simp only [List.length_map] at a b
  omega
theorem plan_same {x : List Job} (h : (x.map (·.1)).Nodup) : (planP x x).length = x.length ∧ ∀ c ∈ planP x x, c.2.1 = 1 := by
  have hf : x.filter (fun j => decide (placeP x j.1 < 0)) = [] := by
    rw [List.filter_eq_nil_iff]
    intro j hj
    have := (place_self h hj).1
    simp; omega
  refine ⟨by unfold planP; rw [hf]; simp, fun c hc => ?_⟩
  obtain ⟨h1, h2⟩ := plan_kind h hc
  rw [h1]
  have h3 : 0 ≤ placeP x c.1 := by rcases h2 with h | h <;> exact h
  unfold KP
  rw [if_neg (by omega), if_neg (by omega), if_pos (alike_self _)]
/-- How often a name is met. -/
theorem one_of_nodup : ∀ {l : List Change} {n : ByteArray}, (l.map (·.1)).Nodup → n ∈ l.map (·.1) → (l.filter (fun c => decide (c.1 = n))).length = 1
  | [], n, _, h => by simp at h
  | c :: l, n, hn, h => by
    rw [List.map_cons, List.nodup_cons] at hn
    rw [List.map_cons, List.mem_cons] at h
    rw [List.filter_cons]
    by_cases e : c.1 = n
    · rw [if_pos (by simpa using e)]
      have : l.filter (fun c => decide (c.1 = n)) = [] := by
        rw [List.filter_eq_nil_iff]
        intro d hd he
        exact hn.1 (List.mem_map.2 ⟨d, hd, by rw [e]; exact of_decide_eq_true he⟩)
      rw [this]; rfl
    · rw [if_neg (by simpa using e)]
      exact one_of_nodup hn.2 (h.resolve_left (fun h => e h.symm))
theorem jobs_names (t : Int) : ∀ (k i : Nat) (d : Deck) (out : List Job), DeckOk d → i + k ≤ 4 → out.length ≤ i → (out.map (·.1)).Nodup → (∀ n ∈ out.map (·.1), n ∈ names.take i) → (∀ j ∈ out, JobOk j) →
    ((jobsGo t k i d out).1.map (·.1)).Nodup ∧ (jobsGo t k i d out).1.length ≤ i + k ∧ ∀ j ∈ (jobsGo t k i d out).1, JobOk j
  | 0, i, d, out, hd, hk, hl, hn, hm, hj => ⟨hn, by simpa [jobsGo] using hl, hj⟩
  | k + 1, i, d, out, hd, hk, hl, hn, hm, hj => by
    simp only [jobsGo]
    obtain ⟨r0, r1, r2, r3⟩ := job_rows (names.getD i ByteArray.empty) (names.take i) hd
    have hnew : names.getD i ByteArray.empty ∉ names.take i := by
      have : i = 0 ∨ i = 1 ∨ i = 2 ∨ i = 3 := by omega
      rcases this with rfl | rfl | rfl | rfl <;> simp [names]
    have hlen : (names.take i).length ≤ 4 := by rw [List.length_take]; have : names.length = 4 := rfl; omega
    have htk : ∀ n, n ∈ names.take i ∨ n = names.getD i ByteArray.empty → n ∈ names.take (i + 1) := by
      intro n h
      rw [take_succ_getD names i ByteArray.empty (by have : names.length = 4 := rfl; omega)]
      simpa using h
    have hJ : JobOk (jobP d (names.getD i ByteArray.empty) (names.take i)).1 := ⟨by omega, by omega, by omega⟩
    have hd' := job_deck (names.getD i ByteArray.empty) (names.take i) hd
    generalize (jobP d (names.getD i ByteArray.empty) (names.take i)).1 = J at *
    have := jobs_names t k (i + 1) (jobP d (names.getD i ByteArray.empty) (names.take i)).2 (if t = 0 then out ++ [J] else J :: out) hd' (by omega) (by split <;> simp <;> omega) ?_ ?_ ?_
    · exact ⟨this.1, by omega, this.2.2⟩
    · split
      · rw [List.map_append, List.nodup_append]
        refine ⟨hn, by simp, fun a ha b hb e => hnew ?_⟩
        simp only [List.map_cons, List.map_nil, List.mem_singleton] at hb
        rw [← r0, ← hb, ← e]
        exact hm a ha
      · rw [List.map_cons, List.nodup_cons]
        exact ⟨fun h => hnew (by rw [← r0]; exact hm _ h), hn⟩
    · intro n hn'
      refine htk n ?_
      split at hn'
      · rw [List.map_append, List.mem_append] at hn'
        rcases hn' with h | h
        · exact .inl (hm n h)
        · simp only [List.map_cons, List.map_nil, List.mem_singleton] at h
          exact .inr (h.trans r0)
      · rw [List.map_cons, List.mem_cons] at hn'
        rcases hn' with h | h
        · exact .inr (h.trans r0)
        · exact .inl (hm n h)
    · intro j hj'
      split at hj'
      · rcases List.mem_append.1 hj' with h | h
        · exact hj j h
        · rw [List.mem_singleton.1 h]; exact hJ
      · rcases List.mem_cons.1 hj' with rfl | h
        · exact hJ
        · exact hj j h
theorem jobs_ok {d : Deck} (h : DeckOk d) : ((jobsP d).1.map (·.1)).Nodup ∧ (jobsP d).1.length ≤ 4 ∧ JobsOk (jobsP d).1 := by
  have r := drange_range (dadv d) (show (1 : Int) ≤ 4 by omega)
  have := jobs_names (dnext d 2) (drange (dadv d) 1 4).toNat 0 (dadv (dadv d)) [] (dadv_ok (dadv_ok h)) (by omega) (by simp) (by simp) (by simp) (by simp)
  refine ⟨this.1, by have := this.2.1; unfold jobsP; omega, ?_, this.2.2⟩
  have := this.2.1
  unfold Few jobsP
  omega
theorem deck_new {m : List Int} (h : Wf (.slice (.int .i64)) m) : DeckOk (m, 0, ()) := by
  have hx : ∀ x ∈ m, I64 x := fun x hx => wf64 (h.2 x hx)
  have hl : m.length ≤ 140737488351232 := h.1
  exact ⟨by simp only; omega, by simp, by simp, hx⟩
theorem p_reloadKeeps (l : List Int) (m : List Int) (h : WfT [.slice (.int .i64), .slice (.int .i64)] (l, m, ())) : m_reloadKeeps 100 100 100 l m = resB true := by
  obtain ⟨hl, hm, _⟩ := h
  have hd := deck_new hl
  have hd2 := deck_new hm
  obtain ⟨nx, lx, ox⟩ := jobs_ok hd
  obtain ⟨ny, ly, oy⟩ := jobs_ok hd2
  unfold m_reloadKeeps
  simp only [bindv]
  rw [need_eq hd, need_eq hd2]
  generalize (jobsP (l, 0, ())).1 = x at *
  generalize (jobsP (m, 0, ())).1 = y at *
  rw [need_eq ⟨ox, ox.1⟩]
  obtain ⟨ps1, ps2⟩ := plan_same nx
  have pl := plan_len nx ny
  have hpl : (planP x y).length ≤ 8 := by
    have := congrArg List.length (plan_names x y)
    simp only [List.length_map, List.length_append] at this
    have := List.length_filter_le (fun j : Job => decide (placeP x j.1 < 0)) y
    omega
  refine loop_to (fun d => ∃ i : Nat, i ≤ x.length ∧ d = (x, y, planP x x, ((planP x x).length : Int), (i : Int), ())) (fun d => 99 - d.2.2.2.2.1.toNat) ?_ ⟨0, by omega, rfl⟩ (by simp only; omega)
  rintro d ⟨i, hi, rfl⟩
  simp only [Int.toNat_natCast]
  by_cases ci : i = x.length
  case neg =>
    right
    have hlt : i < (planP x x).length := by omega
    have hk := ps2 _ (getD_mem (planP x x) i (ByteArray.empty, (0 : Int), ()) hlt)
    refine ⟨(x, y, planP x x, ((planP x x).length : Int), ((i + 1 : Nat) : Int), ()), fun again => ?_, ⟨i + 1, by omega, rfl⟩, by simp only [Int.toNat_natCast]; omega⟩
    rw [if_pos (by simp; omega), if_pos (by omega), hk, if_neg (by decide), wI64 (by omega)]
    rfl
  left; intro again
  rw [if_neg (by simp; omega), need_eq ⟨ox, oy.1⟩, need_eq ⟨oy, ox.1⟩, pl, if_pos (by simp), need_eq ⟨ox, ox.1⟩, if_neg (by rw [ps1]; simp)]
  have nb := plan_nodup ny nx
  refine loop_to (fun d => ∃ i : Nat, i ≤ (planP x y).length ∧ d = (planP y x, planP x y, ((planP y x).length : Int), (i : Int), ())) (fun d => 99 - d.2.2.2.1.toNat) ?_ ⟨0, by omega, rfl⟩ (by simp only; omega)
  rintro d ⟨i, hi, rfl⟩
  simp only [Int.toNat_natCast]
  by_cases ci : i = (planP x y).length
  · left; intro again1
    rw [if_neg (by simp; omega)]
  right
  have hlt : i < (planP x y).length := by omega
  have hmem := getD_mem (planP x y) i (ByteArray.empty, (0 : Int), ()) hlt
  obtain ⟨k1, k2⟩ := plan_kind nx hmem
  have hin : ((planP x y).getD i (ByteArray.empty, (0 : Int), ())).1 ∈ (planP y x).map (·.1) := (plan_mem y x _).2 ((plan_mem x y _).1 (List.mem_map.2 ⟨_, hmem, rfl⟩)).symm
  refine ⟨(planP y x, planP x y, ((planP y x).length : Int), ((i + 1 : Nat) : Int), ()), fun again1 => ?_, ⟨i + 1, by omega, rfl⟩, by simp only [Int.toNat_natCast]; omega⟩
  rw [if_pos (by simp; omega), if_pos (by omega)]
  generalize (planP x y).getD i (ByteArray.empty, (0 : Int), ()) = c at *
  have hone := one_of_nodup nb hin
  have hkind : ∀ b ∈ planP y x, b.1 = c.1 → b.2.1 = flip c.2.1 := fun b hb e => by
    rw [(plan_kind ny hb).1, e, k1, flip_KP k2]
  refine loop_to (fun d => ∃ q : Nat, q ≤ (planP y x).length ∧ d = (planP y x, (((((planP y x).take q).filter (fun b => decide (b.1 = c.1))).length : Nat) : Int), planP x y, ((planP y x).length : Int), (i : Int), planP y x, ((planP y x).length : Int), (q : Int), c.1, c.2.1, ())) (fun d => 99 - d.2.2.2.2.2.2.2.1.toNat) ?_ ⟨0, by omega, rfl⟩ (by simp only; omega)
  rintro d ⟨q, hq, rfl⟩
  simp only [Int.toNat_natCast]
  by_cases cq : q = (planP y x).length
  · left; intro again2
    subst cq
    rw [if_neg (by simp), List.take_length, hone, if_neg (by decide), wI64 (by omega)]
    rfl
  right
  have hltq : q < (planP y x).length := by omega
  have hfl : (((planP y x).take q).filter (fun b => decide (b.1 = c.1))).length ≤ q := Nat.le_trans (List.length_filter_le _ _) (by rw [List.length_take]; omega)
  have hmq := getD_mem (planP y x) q (ByteArray.empty, (0 : Int), ()) hltq
  have hts := take_succ_getD (planP y x) q (ByteArray.empty, (0 : Int), ()) hltq
  refine ⟨(planP y x, (((((planP y x).take (q + 1)).filter (fun b => decide (b.1 = c.1))).length : Nat) : Int), planP x y, ((planP y x).length : Int), (i : Int), planP y x, ((planP y x).length : Int), ((q + 1 : Nat) : Int), c.1, c.2.1, ()), fun again2 => ?_, ⟨q + 1, by omega, rfl⟩, by simp only [Int.toNat_natCast]; omega⟩
  rw [hts, List.filter_append, List.filter_cons, List.filter_nil]
  rw [if_pos (by simp; omega), if_pos (by omega), str_eq]
  generalize (planP y x).getD q (ByteArray.empty, (0 : Int), ()) = b at *
  by_cases e : b.1 = c.1
  · have hbk := hkind b hmq e
    have ef : (if decide (b.1 = c.1) = true then [b] else []) = [b] := if_pos (by simpa using e)
    rw [if_neg (by simpa using e), ef]
    have e1 : ((((((planP y x).take q).filter (fun b => decide (b.1 = c.1))) ++ [b]).length : Nat) : Int) = ((((planP y x).take q).filter (fun b => decide (b.1 = c.1))).length : Int) + 1 := by simp
    rw [wI64 (x := (q : Int) + 1) (by omega), wI64 (by omega), e1, hbk]
    unfold flip
    by_cases c3 : c.2.1 = 3
    · rw [if_pos (by simpa using c3), if_pos c3, if_neg (by decide)]
      rfl
    · by_cases c4 : c.2.1 = 4
      · rw [if_neg (by simpa using c3), if_pos (by simpa using c4), if_neg c3, if_pos c4, if_neg (by decide)]
        rfl
      · rw [if_neg (by simpa using c3), if_neg (by simpa using c4), if_neg c3, if_neg c4, if_neg (by simp)]
        rfl
  · have ef : (if decide (b.1 = c.1) = true then [b] else []) = [] := if_neg (by simpa using e)
    rw [if_pos (by simpa using e), ef, List.append_nil, wI64 (by omega)]
    rfl
end Go.Rel
