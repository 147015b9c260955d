/- The models of faulty jobs and of the reference's plans come to what their definitions say; the law of plans. -/
import Derived.Test.YtlcibodnpogfhaaRlqM
import Derived.Test.YtlcibodnpogfhaaRelP
set_option linter.unusedVariables false
set_option linter.unusedSimpArgs false
set_option linter.unnecessarySimpa false
set_option maxRecDepth 100000
namespace Go.Rlq
open Go.Ab Go.RowKit Go.Mil Go.Rel
theorem p_jobsO (d_0 : List Int) (d_1 : Int) (h : c_jobsO d_0 d_1) : m_jobsO 10 d_0 d_1 = some (r_jobsO d_0 d_1) := by
  have hd : DeckOk (d_0, (d_1, ())) := h
  unfold m_jobsO
  have hd1 := dadv_ok hd
  have hd2 := dadv_ok hd1
  have r1 := dnext_range (d_0, d_1, ()) (n := 2) (by omega)
  have r2 := drange_range (dadv (d_0, d_1, ())) (show (1 : Int) ≤ 4 by omega)
  rw [need_eq ⟨hd, by omega, by unfold I64; omega⟩]
  simp only [bindv]
  rw [need_eq ⟨hd1, by omega, by omega, by omega⟩]
  have hR : r_jobsO d_0 d_1 = ⟨.val (false, [(some 33, ⟨.slice (.pair (.str) (.pair (.str) (.pair (.slice (.pair (.str) (.pair (.str) (.unit)))) (.pair (.slice (.str)) (.pair (.bool) (.pair (.str) (.pair (.int .i64) (.pair (.int .u64) (.pair (.int .u64) (.pair (.int .u64) (.pair (.int .i64) (.pair (.int .u64) (.pair (.slice (.pair (.int .i64) (.pair (.int .u64) (.unit)))) (.pair (.int .i64) (.pair (.int .i64) (.unit)))))))))))))))), (jobsGo (dnext (d_0, d_1, ()) 2) (drange (dadv (d_0, d_1, ())) 1 4).toNat 0 (dadv (dadv (d_0, d_1, ()))) []).1⟩)]), [[(none, ⟨.slice (.int .i64), (jobsGo (dnext (d_0, d_1, ()) 2) (drange (dadv (d_0, d_1, ())) 1 4).toNat 0 (dadv (dadv (d_0, d_1, ()))) []).2.1⟩), (none, ⟨.int .i64, (jobsGo (dnext (d_0, d_1, ()) 2) (drange (dadv (d_0, d_1, ())) 1 4).toNat 0 (dadv (dadv (d_0, d_1, ()))) []).2.2.1⟩)]]⟩ := rfl
  rw [hR]
  generalize dadv (dadv (d_0, d_1, ())) = D at *
  generalize dnext (d_0, d_1, ()) 2 = t at *
  generalize hn : (drange (dadv (d_0, d_1, ())) 1 4).toNat = n at *
  have en : drange (dadv (d_0, d_1, ())) 1 4 = (n : Int) := by omega
  rw [en]
  have hn4 : n ≤ 4 := by omega
  have hnl : names.length = 4 := rfl
  refine loop_to (fun e => ∃ (i : Nat) (d : Deck) (out : List Job), i ≤ n ∧ DeckOk d ∧ out.length = i ∧ e = (t, (n : Int), (i : Int), d.1, d.2.1, out, names, ()) ∧ jobsGo t (n - i) i d out = jobsGo t n 0 D []) (fun e => 9 - e.2.2.1.toNat) ?_ ⟨0, D, [], by omega, hd2, rfl, rfl, rfl⟩ (by simp only; omega)
  rintro e ⟨i, d, out, hi, hdk, hl, rfl, he⟩
  simp only [Int.toNat_natCast]
  by_cases c : i = n
  · left; intro again
    rw [if_neg (by simp; omega), ← he, show n - i = 0 by omega]
    rfl
  right
  have hdk' := job_deck (names.getD i ByteArray.empty) (names.take i) hdk
  have hs : n - i = (n - (i + 1)) + 1 := by omega
  rw [hs] at he
  simp only [jobsGo] at he
  have htk : ((names.take i).drop (0 : Int).toNat) = names.take i := rfl
  have hna : ((names.take i).length : Int) ≤ 10 := by rw [List.length_take]; omega
  refine ⟨(t, (n : Int), ((i + 1 : Nat) : Int), (jobP d (names.getD i ByteArray.empty) (names.take i)).2.1, (jobP d (names.getD i ByteArray.empty) (names.take i)).2.2.1, _, names, ()), fun again => ?_, ⟨i + 1, (jobP d (names.getD i ByteArray.empty) (names.take i)).2, _, by omega, hdk', ?_, rfl, he⟩, by simp only [Int.toNat_natCast]; omega⟩
  · rw [if_pos (by simp; omega), if_pos (by omega), if_pos (by omega), if_pos (by omega), htk, deck_eta, need_eq ⟨hdk, hna⟩, wI64 (by omega)]
    by_cases ct : t = 0
    · rw [if_pos (by simpa using ct), if_pos (by simp; omega), if_pos ct]
      rfl
    · rw [if_neg (by simpa using ct), if_pos (by simp; omega), if_neg ct]
      rfl
  · split <;> simp [hl]
theorem p_place (l : List (ByteArray × (ByteArray × ((List (ByteArray × (ByteArray × Unit))) × ((List ByteArray) × (Bool × (ByteArray × (Int × (Int × (Int × (Int × (Int × (Int × ((List (Int × (Int × Unit))) × (Int × (Int × Unit)))))))))))))))) (name : ByteArray) (h : c_place l name) : m_place 2000000 l name = some (r_place l name) := by
  have hl : (l.length : Int) ≤ 1000000 := h
  unfold m_place r_place
  refine loop_to (fun d => ∃ i : Nat, i ≤ l.length ∧ d = (l, name, (i : Int), ()) ∧ placeP l name = placeGo name (l.drop i) i) (fun d => l.length - d.2.2.1.toNat) ?_ ⟨0, by omega, rfl, rfl⟩ (by simp only; omega)
  rintro d ⟨i, hi, rfl, hf⟩
  simp only [Int.toNat_natCast]
  by_cases ci : i = l.length
  · left; intro again
    rw [if_neg (by simp; omega), hf, ci, List.drop_length]
    rfl
  have hlt : i < l.length := by omega
  have hd := drop_getD l i J0 hlt
  rw [hd] at hf
  simp only [placeGo] at hf
  by_cases co : (l.getD i J0).1 = name
  · left; intro again
    rw [if_pos co] at hf
    rw [if_pos (by simp; omega), if_pos (by omega), hf]
    exact if_pos (by rw [str_eq]; exact decide_eq_true co)
  · right
    rw [if_neg co] at hf
    refine ⟨(l, name, ((i + 1 : Nat) : Int), ()), fun again => ?_, ⟨i + 1, by omega, rfl, hf⟩, by simp only [Int.toNat_natCast]; omega⟩
    rw [if_pos (by simp; omega), if_pos (by omega), wI64 (by omega)]
    exact if_neg (fun h => co (of_decide_eq_true (by rw [str_eq] at h; exact h)))
theorem p_name (d_0 : List Int) (d_1 : Int) (h : c_name d_0 d_1) : m_name d_0 d_1 = some (r_name d_0 d_1) := by
  obtain ⟨h0, h1⟩ := (⟨h, trivial⟩ : DeckOk (d_0, (d_1, ())) ∧ True)
  have q := dnext_range (d_0, (d_1, ())) (n := 5) (by omega)
  have q' : 0 ≤ dnext (d_0, (d_1, ())) 5 ∧ dnext (d_0, (d_1, ())) 5 < (names5.length : Int) := by
    show 0 ≤ _ ∧ _ < ((5 : Nat) : Int)
    exact q
  unfold m_name
  rw [need_eq ⟨h0, by omega, by unfold I64; omega⟩]
  simp only [bindv]
  rw [if_pos (by exact q'), if_pos (by exact q'.2)]
  rfl
theorem p_sj6 (a_0 : ByteArray) (a_1 : ByteArray) (a_2 : List (ByteArray × (ByteArray × Unit))) (a_3 : List ByteArray) (a_4 : Bool) (a_5 : ByteArray) (a_6 : Int) (a_7 : Int) (a_8 : Int) (a_9 : Int) (a_10 : Int) (a_11 : Int) (a_12 : List (Int × (Int × Unit))) (a_13 : Int) (a_14 : Int) (b_0 : ByteArray) (b_1 : ByteArray) (b_2 : List (ByteArray × (ByteArray × Unit))) (b_3 : List ByteArray) (b_4 : Bool) (b_5 : ByteArray) (b_6 : Int) (b_7 : Int) (b_8 : Int) (b_9 : Int) (b_10 : Int) (b_11 : Int) (b_12 : List (Int × (Int × Unit))) (b_13 : Int) (b_14 : Int) (h : c_sj6 a_0 a_1 a_2 a_3 a_4 a_5 a_6 a_7 a_8 a_9 a_10 a_11 a_12 a_13 a_14 b_0 b_1 b_2 b_3 b_4 b_5 b_6 b_7 b_8 b_9 b_10 b_11 b_12 b_13 b_14) : m_sj6 300000000000000 300000000000000 300000000000000 a_0 a_1 a_2 a_3 a_4 a_5 a_6 a_7 a_8 a_9 a_10 a_11 a_12 a_13 a_14 b_0 b_1 b_2 b_3 b_4 b_5 b_6 b_7 b_8 b_9 b_10 b_11 b_12 b_13 b_14 = some (r_sj6 a_0 a_1 a_2 a_3 a_4 a_5 a_6 a_7 a_8 a_9 a_10 a_11 a_12 a_13 a_14 b_0 b_1 b_2 b_3 b_4 b_5 b_6 b_7 b_8 b_9 b_10 b_11 b_12 b_13 b_14) := by
  obtain ⟨h1, h2, h3⟩ := h
  replace h1 : (a_2.length : Int) ≤ 140737488355328 := h1
  replace h2 : (a_3.length : Int) ≤ 140737488355328 := h2
  replace h3 : (a_12.length : Int) ≤ 140737488355328 := h3
  unfold m_sj6 r_sj6
  by_cases c0 : a_0 = b_0
  case neg =>
    rw [str_eq, if_neg (by simpa using c0)]
    simp [alikeP, c0]
  rw [str_eq, if_pos (by simpa using c0)]
  by_cases c1 : a_1 = b_1
  case neg =>
    rw [str_eq, if_neg (by simpa using c1)]
    simp [alikeP, c1]
  rw [str_eq, if_pos (by simpa using c1)]
  by_cases c4 : a_4 = b_4
  case neg =>
    rw [if_neg (by simpa using c4)]
    simp [alikeP, c4]
  rw [if_pos (by simpa using c4)]
  by_cases c5 : a_5 = b_5
  case neg =>
    rw [str_eq, if_neg (by simpa using c5)]
    simp [alikeP, c5]
  rw [str_eq, if_pos (by simpa using c5)]
  by_cases c6 : a_6 = b_6
  case neg =>
    rw [if_neg (by simpa using c6)]
    simp [alikeP, c6]
  rw [if_pos (by simpa using c6)]
  by_cases c7 : a_7 = b_7
  case neg =>
    rw [if_neg (by simpa using c7)]
    simp [alikeP, c7]
  rw [if_pos (by simpa using c7)]
  by_cases c8 : a_8 = b_8
  case neg =>
    rw [if_neg (by simpa using c8)]
    simp [alikeP, c8]
  rw [if_pos (by simpa using c8)]
  by_cases c9 : a_9 = b_9
  case neg =>
    rw [if_neg (by simpa using c9)]
    simp [alikeP, c9]
  rw [if_pos (by simpa using c9)]
  by_cases c10 : a_10 = b_10
  case neg =>
    rw [if_neg (by simpa using c10)]
    simp [alikeP, c10]
  rw [if_pos (by simpa using c10)]
  by_cases c11 : a_11 = b_11
  case neg =>
    rw [if_pos (by simpa using c11)]
    simp [alikeP, c11]
  rw [if_neg (by simpa using c11)]
  by_cases l2 : a_2.length = b_2.length
  case neg =>
    have hne : a_2 ≠ b_2 := fun h => l2 (by rw [h])
    rw [if_neg (by simp; omega)]
    simp [alikeP, hne]
  rw [if_pos (by simp; omega)]
  by_cases l3 : a_3.length = b_3.length
  case neg =>
    have hne : a_3 ≠ b_3 := fun h => l3 (by rw [h])
    rw [if_neg (by simp; omega)]
    simp [alikeP, hne]
  rw [if_pos (by simp; omega)]
  by_cases l12 : a_12.length = b_12.length
  case neg =>
    have hne : a_12 ≠ b_12 := fun h => l12 (by rw [h])
    rw [if_pos (by simp; omega)]
    simp [alikeP, hne]
  rw [if_neg (by simp; omega)]
  refine loop_to (fun d => ∃ i : Nat, i ≤ a_2.length ∧ d = ((i : Int), a_0, a_1, a_2, a_3, a_4, a_5, a_6, a_7, a_8, a_9, a_10, a_11, a_12, a_13, a_14, b_0, b_1, b_2, b_3, b_4, b_5, b_6, b_7, b_8, b_9, b_10, b_11, b_12, b_13, b_14, ()) ∧ ∀ j, j < i → a_2.getD j (ByteArray.empty, ByteArray.empty, ()) = b_2.getD j (ByteArray.empty, ByteArray.empty, ())) (fun d => 140737488355329 - d.1.toNat) ?_ ⟨0, by omega, rfl, fun j h => absurd h (by omega)⟩ (by simp only; omega)
  rintro d ⟨i, hi, rfl, he⟩
  simp only [Int.toNat_natCast]
  by_cases c : i = a_2.length
  case neg =>
    by_cases e : a_2.getD i (ByteArray.empty, ByteArray.empty, ()) = b_2.getD i (ByteArray.empty, ByteArray.empty, ())
    · right
      refine ⟨(((i + 1 : Nat) : Int), a_0, a_1, a_2, a_3, a_4, a_5, a_6, a_7, a_8, a_9, a_10, a_11, a_12, a_13, a_14, b_0, b_1, b_2, b_3, b_4, b_5, b_6, b_7, b_8, b_9, b_10, b_11, b_12, b_13, b_14, ()), fun again0 => ?_, ⟨i + 1, by omega, rfl, fun j hj => ?_⟩, by simp only [Int.toNat_natCast]; omega⟩
      · rw [if_pos (by simp; omega), if_pos (by omega), if_pos (by omega), eqV_is, e, if_neg (by simp), wI64 (by omega)]
        rfl
      · by_cases hj' : j = i
        · rw [hj']; exact e
        · exact he j (by omega)
    · left; intro again0
      rw [if_pos (by simp; omega), if_pos (by omega), if_pos (by omega), eqV_is, if_pos (by simpa using e)]
      have hne : a_2 ≠ b_2 := fun h => e (by rw [h])
      simp [alikeP, hne]
  left; intro again0
  have e2 := list_ext (ByteArray.empty, ByteArray.empty, ()) l2 (fun j hj => he j (by omega))
  rw [if_neg (by simp; omega)]
  clear he hi c i
  refine loop_to (fun d => ∃ i : Nat, i ≤ a_3.length ∧ d = ((i : Int), a_0, a_1, a_2, a_3, a_4, a_5, a_6, a_7, a_8, a_9, a_10, a_11, a_12, a_13, a_14, b_0, b_1, b_2, b_3, b_4, b_5, b_6, b_7, b_8, b_9, b_10, b_11, b_12, b_13, b_14, ()) ∧ ∀ j, j < i → a_3.getD j ByteArray.empty = b_3.getD j ByteArray.empty) (fun d => 140737488355329 - d.1.toNat) ?_ ⟨0, by omega, rfl, fun j h => absurd h (by omega)⟩ (by simp only; omega)
  rintro d ⟨i, hi, rfl, he⟩
  simp only [Int.toNat_natCast]
  by_cases c : i = a_3.length
  case neg =>
    by_cases e : a_3.getD i ByteArray.empty = b_3.getD i ByteArray.empty
    · right
      refine ⟨(((i + 1 : Nat) : Int), a_0, a_1, a_2, a_3, a_4, a_5, a_6, a_7, a_8, a_9, a_10, a_11, a_12, a_13, a_14, b_0, b_1, b_2, b_3, b_4, b_5, b_6, b_7, b_8, b_9, b_10, b_11, b_12, b_13, b_14, ()), fun again1 => ?_, ⟨i + 1, by omega, rfl, fun j hj => ?_⟩, by simp only [Int.toNat_natCast]; omega⟩
      · rw [if_pos (by simp; omega), if_pos (by omega), if_pos (by omega), str_eq, e, if_neg (by simp), wI64 (by omega)]
        rfl
      · by_cases hj' : j = i
        · rw [hj']; exact e
        · exact he j (by omega)
    · left; intro again1
      rw [if_pos (by simp; omega), if_pos (by omega), if_pos (by omega), str_eq, if_pos (by simpa using e)]
      have hne : a_3 ≠ b_3 := fun h => e (by rw [h])
      simp [alikeP, hne]
  left; intro again1
  have e3 := list_ext ByteArray.empty l3 (fun j hj => he j (by omega))
  rw [if_neg (by simp; omega)]
  clear he hi c i
  refine loop_to (fun d => ∃ i : Nat, i ≤ a_12.length ∧ d = ((i : Int), a_0, a_1, a_2, a_3, a_4, a_5, a_6, a_7, a_8, a_9, a_10, a_11, a_12, a_13, a_14, b_0, b_1, b_2, b_3, b_4, b_5, b_6, b_7, b_8, b_9, b_10, b_11, b_12, b_13, b_14, ()) ∧ ∀ j, j < i → a_12.getD j ((0 : Int), (0 : Int), ()) = b_12.getD j ((0 : Int), (0 : Int), ())) (fun d => 140737488355329 - d.1.toNat) ?_ ⟨0, by omega, rfl, fun j h => absurd h (by omega)⟩ (by simp only; omega)
  rintro d ⟨i, hi, rfl, he⟩
  simp only [Int.toNat_natCast]
  by_cases c : i = a_12.length
  case neg =>
    by_cases e : a_12.getD i ((0 : Int), (0 : Int), ()) = b_12.getD i ((0 : Int), (0 : Int), ())
    · right
      refine ⟨(((i + 1 : Nat) : Int), a_0, a_1, a_2, a_3, a_4, a_5, a_6, a_7, a_8, a_9, a_10, a_11, a_12, a_13, a_14, b_0, b_1, b_2, b_3, b_4, b_5, b_6, b_7, b_8, b_9, b_10, b_11, b_12, b_13, b_14, ()), fun again2 => ?_, ⟨i + 1, by omega, rfl, fun j hj => ?_⟩, by simp only [Int.toNat_natCast]; omega⟩
      · rw [if_pos (by simp; omega), if_pos (by omega), if_pos (by omega), eqR_is, e, if_neg (by simp), wI64 (by omega)]
        rfl
      · by_cases hj' : j = i
        · rw [hj']; exact e
        · exact he j (by omega)
    · left; intro again2
      rw [if_pos (by simp; omega), if_pos (by omega), if_pos (by omega), eqR_is, if_pos (by simpa using e)]
      have hne : a_12 ≠ b_12 := fun h => e (by rw [h])
      simp [alikeP, hne]
  left; intro again2
  have e12 := list_ext ((0 : Int), (0 : Int), ()) l12 (fun j hj => he j (by omega))
  rw [if_neg (by simp; omega)]
  clear he hi c i
  simp [alikeP, c0, c1, c4, c5, c6, c7, c8, c9, c10, c11, e2, e3, e12]
theorem p_sj13 (a_0 : ByteArray) (a_1 : ByteArray) (a_2 : List (ByteArray × (ByteArray × Unit))) (a_3 : List ByteArray) (a_4 : Bool) (a_5 : ByteArray) (a_6 : Int) (a_7 : Int) (a_8 : Int) (a_9 : Int) (a_10 : Int) (a_11 : Int) (a_12 : List (Int × (Int × Unit))) (a_13 : Int) (a_14 : Int) (b_0 : ByteArray) (b_1 : ByteArray) (b_2 : List (ByteArray × (ByteArray × Unit))) (b_3 : List ByteArray) (b_4 : Bool) (b_5 : ByteArray) (b_6 : Int) (b_7 : Int) (b_8 : Int) (b_9 : Int) (b_10 : Int) (b_11 : Int) (b_12 : List (Int × (Int × Unit))) (b_13 : Int) (b_14 : Int) (h : c_sj13 a_0 a_1 a_2 a_3 a_4 a_5 a_6 a_7 a_8 a_9 a_10 a_11 a_12 a_13 a_14 b_0 b_1 b_2 b_3 b_4 b_5 b_6 b_7 b_8 b_9 b_10 b_11 b_12 b_13 b_14) : m_sj13 a_0 a_1 a_2 a_3 a_4 a_5 a_6 a_7 a_8 a_9 a_10 a_11 a_12 a_13 a_14 b_0 b_1 b_2 b_3 b_4 b_5 b_6 b_7 b_8 b_9 b_10 b_11 b_12 b_13 b_14 = some (r_sj13 a_0 a_1 a_2 a_3 a_4 a_5 a_6 a_7 a_8 a_9 a_10 a_11 a_12 a_13 a_14 b_0 b_1 b_2 b_3 b_4 b_5 b_6 b_7 b_8 b_9 b_10 b_11 b_12 b_13 b_14) := by
  unfold m_sj13
  exact need_eq h
theorem p_rsame (a_0 : ByteArray) (a_1 : ByteArray) (a_2 : List (ByteArray × (ByteArray × Unit))) (a_3 : List ByteArray) (a_4 : Bool) (a_5 : ByteArray) (a_6 : Int) (a_7 : Int) (a_8 : Int) (a_9 : Int) (a_10 : Int) (a_11 : Int) (a_12 : List (Int × (Int × Unit))) (a_13 : Int) (a_14 : Int) (b_0 : ByteArray) (b_1 : ByteArray) (b_2 : List (ByteArray × (ByteArray × Unit))) (b_3 : List ByteArray) (b_4 : Bool) (b_5 : ByteArray) (b_6 : Int) (b_7 : Int) (b_8 : Int) (b_9 : Int) (b_10 : Int) (b_11 : Int) (b_12 : List (Int × (Int × Unit))) (b_13 : Int) (b_14 : Int) (h : c_rsame a_0 a_1 a_2 a_3 a_4 a_5 a_6 a_7 a_8 a_9 a_10 a_11 a_12 a_13 a_14 b_0 b_1 b_2 b_3 b_4 b_5 b_6 b_7 b_8 b_9 b_10 b_11 b_12 b_13 b_14) : m_rsame a_0 a_1 a_2 a_3 a_4 a_5 a_6 a_7 a_8 a_9 a_10 a_11 a_12 a_13 a_14 b_0 b_1 b_2 b_3 b_4 b_5 b_6 b_7 b_8 b_9 b_10 b_11 b_12 b_13 b_14 = some (r_rsame a_0 a_1 a_2 a_3 a_4 a_5 a_6 a_7 a_8 a_9 a_10 a_11 a_12 a_13 a_14 b_0 b_1 b_2 b_3 b_4 b_5 b_6 b_7 b_8 b_9 b_10 b_11 b_12 b_13 b_14) := by
  unfold m_rsame
  exact need_eq h
theorem p_rplan (old : List (ByteArray × (ByteArray × ((List (ByteArray × (ByteArray × Unit))) × ((List ByteArray) × (Bool × (ByteArray × (Int × (Int × (Int × (Int × (Int × (Int × ((List (Int × (Int × Unit))) × (Int × (Int × Unit)))))))))))))))) (next : List (ByteArray × (ByteArray × ((List (ByteArray × (ByteArray × Unit))) × ((List ByteArray) × (Bool × (ByteArray × (Int × (Int × (Int × (Int × (Int × (Int × ((List (Int × (Int × Unit))) × (Int × (Int × Unit)))))))))))))))) (h : c_rplan old next) : m_rplan 2000000 2000000 old next = some (r_rplan old next) := by
  obtain ⟨⟨hf, hr⟩, hn⟩ := h
  have hF := hf
  have hN := hn
  replace hf : (old.length : Int) ≤ 1000000 := hf
  replace hn : (next.length : Int) ≤ 1000000 := hn
  unfold m_rplan r_rplan
  refine loop_to (fun d => ∃ i : Nat, i ≤ old.length ∧ d = (old, next, (i : Int), (old.take i).map (fun j => (j.1, kindP next j, ())), ())) (fun d => old.length - d.2.2.1.toNat) ?_ ⟨0, by omega, rfl⟩ (by simp only; omega)
  rintro d ⟨i, hi, rfl⟩
  simp only [Int.toNat_natCast]
  by_cases ci : i = old.length
  · left; intro again
    subst ci
    rw [if_neg (by simp), List.take_length]
    refine loop_to (fun d => ∃ i : Nat, i ≤ next.length ∧ d = (old, next, (i : Int), old.map (fun j => (j.1, kindP next j, ())) ++ ((next.take i).filter (fun j => decide (placeP old j.1 < 0))).map (fun j => (j.1, 4, ())), ())) (fun d => next.length - d.2.2.1.toNat) ?_ ⟨0, by omega, by simp⟩ (by simp only; omega)
    rintro d ⟨i, hi, rfl⟩
    simp only [Int.toNat_natCast]
    by_cases ci : i = next.length
    · left; intro again1
      subst ci
      rw [if_neg (by simp), List.take_length]
      rfl
    right
    have hlt : i < next.length := by omega
    have hle : ((next.take i).filter (fun j => decide (placeP old j.1 < 0))).length ≤ i := by
      exact Nat.le_trans (List.length_filter_le _ _) (by rw [List.length_take]; omega)
    refine ⟨(old, next, ((i + 1 : Nat) : Int), _, ()), fun again1 => ?_, ⟨i + 1, by omega, rfl⟩, by simp only [Int.toNat_natCast]; omega⟩
    rw [if_pos (by simp; omega), if_pos (by omega), need_eq hF, wI64 (by omega), take_succ_getD next i J0 hlt, List.filter_append, List.map_append, ← List.append_assoc]
    simp only [bindv]
    by_cases c : placeP old (next.getD i J0).1 < 0
    · have e : [next.getD i J0].filter (fun j => decide (placeP old j.1 < 0)) = [next.getD i J0] := by
        rw [List.filter_cons, if_pos (by simpa using c)]; rfl
      rw [e]
      refine (if_pos (decide_eq_true c)).trans ((if_pos (by omega)).trans ?_)
      exact (if_pos (by simp only [List.length_append, List.length_map, List.length_cons, List.length_nil]; omega))
    · have e : [next.getD i J0].filter (fun j => decide (placeP old j.1 < 0)) = [] := by
        rw [List.filter_cons, if_neg (by simpa using c)]; rfl
      rw [e]
      refine (if_neg (fun h => c (of_decide_eq_true h))).trans ?_
      simp
  right
  have hlt : i < old.length := by omega
  have hok := hr _ (getD_mem old i J0 hlt)
  refine ⟨(old, next, ((i + 1 : Nat) : Int), _, ()), fun again => ?_, ⟨i + 1, by omega, rfl⟩, by simp only [Int.toNat_natCast]; omega⟩
  rw [if_pos (by simp; omega), if_pos (by omega), need_eq hN, wI64 (by omega), take_succ_getD old i J0 hlt, List.map_append]
  simp only [bindv, List.map_cons, List.map_nil]
  have hap : ∀ k : Int, (((old.take i).map (fun j => (j.1, kindP next j, ()))).length + [((old.getD i J0).1, k, ())].length) * 24 ≤ 140737488355328 ∧ ((old.take i).map (fun j => (j.1, kindP next j, ()))).length + [((old.getD i J0).1, k, ())].length ≤ 9223372036854775807 := by
    intro k
    simp only [List.length_map, List.length_take, List.length_cons, List.length_nil]
    omega
  rcases place_cases next (old.getD i J0).1 with ⟨h1, h2⟩ | ⟨h1, h2, h3, h4⟩
  · have e : kindP next (old.getD i J0) = 3 := by unfold kindP; rw [if_pos h1]
    rw [e]
    exact (if_pos (decide_eq_true h1)).trans ((if_pos (by omega)).trans (if_pos (hap 3)))
  · refine (if_neg (fun h => (Int.not_lt.2 h1) (of_decide_eq_true h))).trans ((if_pos (by omega)).trans ((if_pos ⟨h1, h2⟩).trans ?_))
    refine (need_eq hok).trans ?_
    by_cases ca : alikeP (old.getD i J0) (next.getD (placeP next (old.getD i J0).1).toNat J0) = true
    · have e : kindP next (old.getD i J0) = 1 := by unfold kindP; rw [if_neg (by omega), if_pos ca]
      rw [e]
      exact (if_pos ca).trans ((if_pos (by omega)).trans (if_pos (hap 1)))
    · have e : kindP next (old.getD i J0) = 2 := by unfold kindP; rw [if_neg (by omega), if_neg ca]
      rw [e]
      exact (if_neg ca).trans ((if_pos (by omega)).trans (if_pos (hap 2)))
/-- The rows of a job are at most so long. -/
def Small (n : Nat) (j : Job) : Prop := j.2.2.1.length ≤ n ∧ j.2.2.2.1.length ≤ n ∧ j.2.2.2.2.2.2.2.2.2.2.2.2.1.length ≤ n
theorem jobs_all {Pr : Job → Prop} (hP : ∀ (d : Deck) (n : ByteArray) (o : List ByteArray), DeckOk d → o.length ≤ 4 → Pr (jobP d n o).1) (t : Int) : ∀ (k i : Nat) (d : Deck) (out : List Job), DeckOk d → (∀ j ∈ out, Pr j) → (∀ j ∈ (jobsGo t k i d out).1, Pr j) ∧ (jobsGo t k i d out).1.length = out.length + k ∧ DeckOk (jobsGo t k i d out).2
  | 0, i, d, out, hd, h => ⟨h, rfl, hd⟩
  | k + 1, i, d, out, hd, h => by
    have hlen : (names.take i).length ≤ 4 := by rw [List.length_take]; have : names.length = 4 := rfl; omega
    have hJ := hP d (names.getD i ByteArray.empty) (names.take i) hd hlen
    have ih := jobs_all hP t k (i + 1) (jobP d (names.getD i ByteArray.empty) (names.take i)).2 (if t = 0 then out ++ [(jobP d (names.getD i ByteArray.empty) (names.take i)).1] else (jobP d (names.getD i ByteArray.empty) (names.take i)).1 :: out) (job_deck _ _ hd) (fun j hj => by
      split at hj
      · rcases List.mem_append.1 hj with hj | hj
        · exact h j hj
        · rw [List.mem_singleton.1 hj]; exact hJ
      · rcases List.mem_cons.1 hj with rfl | hj
        · exact hJ
        · exact h j hj)
    simp only [jobsGo]
    refine ⟨ih.1, ?_, ih.2.2⟩
    rw [ih.2.1]
    split <;> simp <;> omega
theorem jobs_small {d : Deck} (h : DeckOk d) : (∀ j ∈ (jobsP d).1, Small 4 j) ∧ (1 ≤ (jobsP d).1.length ∧ (jobsP d).1.length ≤ 4) ∧ DeckOk (jobsP d).2 := by
  have r := drange_range (dadv d) (show (1 : Int) ≤ 4 by omega)
  have := jobs_all (Pr := Small 4) (fun d n o hd ho => by obtain ⟨_, h1, h2, h3⟩ := job_rows n o hd; exact ⟨by omega, by omega, by omega⟩) (dnext d 2) (drange (dadv d) 1 4).toNat 0 (dadv (dadv d)) [] (dadv_ok (dadv_ok h)) (by simp)
  refine ⟨this.1, ?_, this.2.2⟩
  have hl : (jobsP d).1.length = 0 + (drange (dadv d) 1 4).toNat := this.2.1
  omega
theorem set_getD {α : Type} (l : List α) (i : Nat) (x z : α) (h : i < l.length) : (l.set i x).getD i z = x := by
  simp [List.getD_eq_getElem?_getD, h]
theorem edit_small {n : Nat} {q : Int} {d : Deck} {j : Job} (h : Small n j) : Small (n + 1) (editP q d j).1 := by
  obtain ⟨j0, j1, j2, j3, j4, j5, j6, j7, j8, j9, j10, j11, j12, j13, j14, ⟨⟩⟩ := j
  obtain ⟨h1, h2, h3⟩ := h
  simp only at h1 h2 h3
  unfold editP
  simp only
  repeat' split
  all_goals exact ⟨by simp only; omega, by simp only [List.length_append, List.length_cons, List.length_nil]; omega, by simp only [List.length_append, List.length_cons, List.length_nil]; omega⟩
theorem edit_deck {q : Int} {d : Deck} {j : Job} : (editP q d j).2 = dadv d ∨ (editP q d j).2 = dadv d := by
  obtain ⟨j0, j1, j2, j3, j4, j5, j6, j7, j8, j9, j10, j11, j12, j13, j14, ⟨⟩⟩ := j
  left
  unfold editP
  simp only
  repeat' split
  all_goals rfl
theorem line_small {n : Nat} {li co : Int} {j : Job} (h : Small n j) : Small n (lineP li co j) := by
  obtain ⟨j0, j1, j2, j3, j4, j5, j6, j7, j8, j9, j10, j11, j12, j13, j14, ⟨⟩⟩ := j
  exact h
theorem p_loose (d_0 : List Int) (d_1 : Int) (h : c_loose d_0 d_1) : m_loose 10 d_0 d_1 = some (r_loose d_0 d_1) := by
  have hd : DeckOk (d_0, (d_1, ())) := h
  obtain ⟨js, ⟨jl1, jl2⟩, jd⟩ := jobs_small hd
  unfold m_loose
  rw [need_eq hd]
  unfold r_loose looseP
  generalize (jobsP (d_0, d_1, ())).1 = X at *
  generalize (jobsP (d_0, d_1, ())).2 = D at *
  have r3 := dnext_range D (n := 3) (by omega)
  have jd' := dadv_ok jd
  rw [bindv, bindv, need_eq ⟨jd, by omega, by unfold I64; omega⟩, bindv]
  generalize hn : (dnext D 3).toNat = n at *
  have en : dnext D 3 = (n : Int) := by omega
  rw [en]
  refine loop_to (fun e => ∃ (k : Nat) (d : Deck) (out : List Job), k ≤ n ∧ DeckOk d ∧ (1 ≤ out.length ∧ out.length ≤ 4) ∧ (∀ j ∈ out, Small (4 + (n - k)) j) ∧ e = ((k : Int), d.1, d.2.1, out, ()) ∧ looseGo k d out = looseGo n (dadv D) X) (fun e => e.1.toNat) ?_ ⟨n, dadv D, X, by omega, jd', ⟨jl1, jl2⟩, (by rw [Nat.sub_self]; exact js), rfl, rfl⟩ (by simp only; omega)
  rintro e ⟨k, d, out, hk, hdk, ⟨hl1, hl2⟩, hs, rfl, he⟩
  cases k with
  | zero =>
    left; intro again
    rw [if_neg (by simp), ← he]
    rfl
  | succ k =>
  right
  have h1 := dadv_ok hdk
  have h2 := dadv_ok h1
  have h3 := dadv_ok h2
  have h4 := dadv_ok h3
  have ri := dnext_range d (n := (out.length : Int)) (by omega)
  have rq := dnext_range (dadv d) (n := 8) (by omega)
  simp only [looseGo] at he
  have hJ := hs _ (getD_mem out (dnext d out.length).toNat J0 (by omega))
  have hset : ∀ A : Job, (out.set (dnext d out.length).toNat A).getD (dnext d out.length).toNat J0 = A := fun A => set_getD out _ A J0 (by omega)
  generalize hD1 : dadv d = D1 at *
  generalize hD2 : dadv D1 = D2 at *
  have hed : (editP (dnext D1 8) D2 (out.getD (dnext d out.length).toNat J0)).2 = dadv D2 := by rcases edit_deck (q := dnext D1 8) (d := D2) (j := out.getD (dnext d out.length).toNat J0) with h | h <;> exact h
  have hsm := line_small (li := dnext (dadv D2) 5) (co := dnext (dadv (dadv D2)) 5) (edit_small (q := dnext D1 8) (d := D2) hJ)
  rw [hed] at he
  generalize hD3 : dadv D2 = D3 at *
  generalize hD4 : dadv D3 = D4 at *
  have r7 := dnext_range D2 (n := 7) (by omega)
  have r4 := dnext_range D2 (n := 4) (by omega)
  have r30 := dnext_range D2 (n := 30) (by omega)
  have r2 := dnext_range D2 (n := 2) (by omega)
  have r3' := dnext_range D2 (n := 3) (by omega)
  have hb : 0 ≤ dnext D2 7 ∧ dnext D2 7 < (bads.length : Int) := by
    show 0 ≤ _ ∧ _ < ((7 : Nat) : Int)
    exact r7
  have hsg : 0 ≤ dnext D2 3 ∧ dnext D2 3 < (sigs3.length : Int) := by
    show 0 ≤ _ ∧ _ < ((3 : Nat) : Int)
    exact r3'
  refine ⟨((k : Int), (dadv D4).1, (dadv D4).2.1, _, ()), fun again => ?_, ⟨k, dadv D4, _, by omega, dadv_ok h4, ⟨by rw [List.length_set]; exact hl1, by rw [List.length_set]; exact hl2⟩, fun j hj => ?_, rfl, he⟩, by simp only; omega⟩
  rotate_left
  · rcases List.mem_or_eq_of_mem_set hj with hj | rfl
    · obtain ⟨a, b, c⟩ := hs j hj
      exact ⟨by omega, by omega, by omega⟩
    · obtain ⟨a, b, c⟩ := hsm
      exact ⟨by omega, by omega, by omega⟩
  dsimp only
  have hJ0 : ((ByteArray.empty, (ByteArray.empty, (([] : List (ByteArray × (ByteArray × Unit))), (([] : List ByteArray), (false, (ByteArray.empty, ((0 : Int), ((0 : Int), ((0 : Int), ((0 : Int), ((0 : Int), ((0 : Int), (([] : List (Int × (Int × Unit))), ((0 : Int), ((0 : Int), ()))))))))))))))) : Job) = J0 := rfl
  rw [hJ0]
  rw [if_pos (by simp), deck_eta, need_eq ⟨hdk, by omega, by unfold I64; omega⟩]
  rw [bindv, bindv, if_pos ri]
  rw [need_eq ⟨h1, by omega, by unfold I64; omega⟩, bindv, hD2]
  have hw : Go.IntKind.wrap .i64 (((k + 1 : Nat) : Int) - 1) = (k : Int) := by rw [wI64 (by omega)]; omega
  obtain ⟨hj1, hj2, hj3⟩ := hJ
  have hq : dnext D1 8 = 0 ∨ dnext D1 8 = 1 ∨ dnext D1 8 = 2 ∨ dnext D1 8 = 3 ∨ dnext D1 8 = 4 ∨ dnext D1 8 = 5 ∨ dnext D1 8 = 6 ∨ dnext D1 8 = 7 := by omega
  rcases hq with hq | hq | hq | hq | hq | hq | hq | hq
  · rw [hq, if_pos (by decide)]
    simp only [bindv, hset, List.set_set, List.length_set, hD3, hD4, hw]
    rw [need_eq h2, if_pos ri.2, need_eq ⟨h3, by omega, by unfold I64; omega⟩, need_eq ⟨h4, by omega, by unfold I64; omega⟩, if_pos ri.2, if_pos ri.2]
    rfl
  · rw [hq, if_neg (by decide), if_pos (by decide)]
    simp only [bindv, hset, List.set_set, List.length_set, hD3, hD4, hw]
    rw [need_eq h2, if_pos ri.2, if_pos (by simp only [List.length_cons, List.length_nil]; omega), if_pos ri.2, need_eq ⟨h3, by omega, by unfold I64; omega⟩, need_eq ⟨h4, by omega, by unfold I64; omega⟩, if_pos ri.2, if_pos ri.2]
    rfl
  · rw [hq, if_neg (by decide), if_neg (by decide), if_pos (by decide)]
    simp only [bindv, hset, List.set_set, List.length_set, hD3, hD4, hw]
    rw [need_eq ⟨h2, by omega, by unfold I64; omega⟩, if_pos (by exact hb), if_pos (by exact hb.2), if_pos ri.2, if_pos ri.2, need_eq ⟨h3, by omega, by unfold I64; omega⟩, need_eq ⟨h4, by omega, by unfold I64; omega⟩, if_pos ri.2, if_pos ri.2]
    rfl
  · rw [hq, if_neg (by decide), if_neg (by decide), if_neg (by decide), if_pos (by decide)]
    simp only [bindv, hset, List.set_set, List.length_set, hD3, hD4, hw]
    rw [need_eq ⟨h2, by omega, by unfold I64; omega⟩, if_pos ri.2, need_eq ⟨h3, by omega, by unfold I64; omega⟩, need_eq ⟨h4, by omega, by unfold I64; omega⟩, if_pos ri.2, if_pos ri.2, wU64 (x := dnext D2 4) (by omega)]
    rfl
  · rw [hq, if_neg (by decide), if_neg (by decide), if_neg (by decide), if_neg (by decide), if_pos (by decide)]
    simp only [bindv, hset, List.set_set, List.length_set, hD3, hD4, hw]
    rw [need_eq ⟨h2, by omega, by unfold I64; omega⟩, if_pos ri.2, need_eq ⟨h3, by omega, by unfold I64; omega⟩, need_eq ⟨h4, by omega, by unfold I64; omega⟩, if_pos ri.2, if_pos ri.2, wI64 (x := dnext D2 30 - 3) (by omega)]
    rfl
  · rw [hq, if_neg (by decide), if_neg (by decide), if_neg (by decide), if_neg (by decide), if_neg (by decide), if_pos (by decide)]
    simp only [bindv, hset, List.set_set, List.length_set, hD3, hD4, hw]
    rw [need_eq ⟨h2, by omega, by unfold I64; omega⟩, if_pos ri.2, need_eq ⟨h3, by omega, by unfold I64; omega⟩, need_eq ⟨h4, by omega, by unfold I64; omega⟩, if_pos ri.2, if_pos ri.2, wU64 (x := dnext D2 2) (by omega)]
    rfl
  · rw [hq, if_neg (by decide), if_neg (by decide), if_neg (by decide), if_neg (by decide), if_neg (by decide), if_neg (by decide), if_pos (by decide)]
    simp only [bindv, hset, List.set_set, List.length_set, hD3, hD4, hw]
    rw [need_eq ⟨h2, by omega, by unfold I64; omega⟩, if_pos (by exact hsg), if_pos (by exact hsg.2), if_pos ri.2, if_pos (by simp only [List.length_cons, List.length_nil]; omega), if_pos ri.2, need_eq ⟨h3, by omega, by unfold I64; omega⟩, need_eq ⟨h4, by omega, by unfold I64; omega⟩, if_pos ri.2, if_pos ri.2]
    rfl
  · rw [hq, if_neg (by decide), if_neg (by decide), if_neg (by decide), if_neg (by decide), if_neg (by decide), if_neg (by decide), if_neg (by decide), if_pos (by decide)]
    simp only [bindv, hset, List.set_set, List.length_set, hD3, hD4, hw]
    rw [need_eq ⟨h2, by omega, by unfold I64; omega⟩, if_pos ri.2, need_eq ⟨h3, by omega, by unfold I64; omega⟩, need_eq ⟨h4, by omega, by unfold I64; omega⟩, if_pos ri.2, if_pos ri.2]
    rfl
theorem loose_go : ∀ (k : Nat) (d : Deck) (out : List Job) (n : Nat), DeckOk d → 1 ≤ out.length → (∀ j ∈ out, Small n j) → (looseGo k d out).1.length = out.length ∧ ∀ j ∈ (looseGo k d out).1, Small (n + k) j
  | 0, d, out, n, _, _, h => ⟨rfl, h⟩
  | k + 1, d, out, n, hd, hl, h => by
    have ri := dnext_range d (n := (out.length : Int)) (by omega)
    have hJ := h _ (getD_mem out (dnext d out.length).toNat J0 (by omega))
    have hed : (editP (dnext (dadv d) 8) (dadv (dadv d)) (out.getD (dnext d out.length).toNat J0)).2 = dadv (dadv (dadv d)) := by rcases edit_deck (q := dnext (dadv d) 8) (d := dadv (dadv d)) (j := out.getD (dnext d out.length).toNat J0) with h | h <;> exact h
    simp only [looseGo]
    rw [hed]
    have ih := loose_go k (dadv (dadv (dadv (dadv (dadv d))))) (out.set (dnext d out.length).toNat (lineP (dnext (dadv (dadv (dadv d))) 5) (dnext (dadv (dadv (dadv (dadv d)))) 5) (editP (dnext (dadv d) 8) (dadv (dadv d)) (out.getD (dnext d out.length).toNat J0)).1)) (n + 1) (dadv_ok (dadv_ok (dadv_ok (dadv_ok (dadv_ok hd))))) (by rw [List.length_set]; exact hl) (fun j hj => by
      rcases List.mem_or_eq_of_mem_set hj with hj | rfl
      · obtain ⟨a, b, c⟩ := h j hj
        exact ⟨by omega, by omega, by omega⟩
      · exact line_small (edit_small hJ))
    rw [List.length_set] at ih
    refine ⟨ih.1, fun j hj => ?_⟩
    have := ih.2 j hj
    rw [show n + (k + 1) = n + 1 + k by omega]
    exact this
theorem loose_ok {d : Deck} (h : DeckOk d) : (1 ≤ (looseP d).1.length ∧ (looseP d).1.length ≤ 4) ∧ JobsOk (looseP d).1 := by
  obtain ⟨js, ⟨l1, l2⟩, jd⟩ := jobs_small h
  have r3 := dnext_range (jobsP d).2 (n := 3) (by omega)
  obtain ⟨g1, g2⟩ := loose_go (dnext (jobsP d).2 3).toNat (dadv (jobsP d).2) (jobsP d).1 4 (dadv_ok jd) l1 js
  have e : (looseP d).1.length = (jobsP d).1.length := g1
  refine ⟨by omega, by unfold Few; omega, fun j hj => ?_⟩
  obtain ⟨a, b, c⟩ := g2 j hj
  exact ⟨by omega, by omega, by omega⟩
theorem deck_new {m : List Int} (h : Wf (.slice (.int .i64)) m) : DeckOk (m, 0, ()) := by
  have hx : ∀ x ∈ m, I64 x := fun x hx => wf64 (h.2 x hx)
  have hl : m.length ≤ 140737488351232 := h.1
  exact ⟨by simp only; omega, by simp, by simp, hx⟩
theorem p_reloadPlans (l : List Int) (m : List Int) (raw : List (ByteArray × (ByteArray × ((List (ByteArray × (ByteArray × Unit))) × ((List ByteArray) × (Bool × (ByteArray × (Int × (Int × (Int × (Int × (Int × (Int × ((List (Int × (Int × Unit))) × (Int × (Int × Unit)))))))))))))))) (h : WfT [.slice (.int .i64), .slice (.int .i64), .slice (.pair (.str) (.pair (.str) (.pair (.slice (.pair (.str) (.pair (.str) (.unit)))) (.pair (.slice (.str)) (.pair (.bool) (.pair (.str) (.pair (.int .i64) (.pair (.int .u64) (.pair (.int .u64) (.pair (.int .u64) (.pair (.int .i64) (.pair (.int .u64) (.pair (.slice (.pair (.int .i64) (.pair (.int .u64) (.unit)))) (.pair (.int .i64) (.pair (.int .i64) (.unit))))))))))))))))] (l, m, raw, ())) : m_reloadPlans 100 100 l m raw = resB true := by
  obtain ⟨hl, hm, hraw, _⟩ := h
  have hd := deck_new hl
  have hd2 := deck_new hm
  have hml : m.length ≤ 140737488351232 := hm.1
  obtain ⟨⟨x1, x2⟩, ox⟩ := loose_ok hd
  obtain ⟨⟨y1, y2⟩, oy⟩ := loose_ok hd2
  unfold m_reloadPlans
  by_cases c8 : (8 : Int) < (raw.length : Int)
  · rw [if_pos (by simpa using c8)]
  have hr8 : raw.length ≤ 8 := by omega
  have oraw : JobsOk raw := ⟨by unfold Few; omega, fun j hj => by
    obtain ⟨_, _, he, hn, _, _, _, _, _, _, _, _, hla, _⟩ := hraw.2 j hj
    have e1 : j.2.2.1.length ≤ 140737488351232 := he.1
    have e2 : j.2.2.2.1.length ≤ 140737488351232 := hn.1
    have e3 : j.2.2.2.2.2.2.2.2.2.2.2.2.1.length ≤ 140737488351232 := hla.1
    exact ⟨by omega, by omega, by omega⟩⟩
  rw [if_neg (by simpa using c8), bindv, need_eq hd, bindv, need_eq hd2]
  generalize (looseP (l, 0, ())).1 = x at *
  generalize (looseP (m, 0, ())).1 = y at *
  have rm : 0 ≤ (m.length : Int) % (x.length : Int) ∧ (m.length : Int) % (x.length : Int) < (x.length : Int) := ⟨Int.emod_nonneg _ (by omega), Int.emod_lt_of_pos _ (by omega)⟩
  rw [if_pos (by simp only [List.length_nil]; omega)]
  rw [List.nil_append, need_eq ⟨by unfold I64; omega, by omega, by unfold I64; omega⟩, bindv, if_pos rm, if_pos rm.2, bindv]
  generalize hz : x.set _ _ = z
  have hzl : z.length = x.length := by rw [← hz, List.length_set]
  clear hz
  have fz : Few z := by unfold Few; omega
  have hP : ∀ i : Nat, i < 4 → JobsOk ([(x, y, ()), (x, z, ()), (x, raw, ()), (raw, y, ())].getD i ([], [], ())).1 ∧ Few ([(x, y, ()), (x, z, ()), (x, raw, ()), (raw, y, ())].getD i ([], [], ())).2.1 ∧ ([(x, y, ()), (x, z, ()), (x, raw, ()), (raw, y, ())].getD i ([], [], ())).1.length ≤ 8 := by
    intro i hi
    have : i = 0 ∨ i = 1 ∨ i = 2 ∨ i = 3 := by omega
    rcases this with rfl | rfl | rfl | rfl
    · exact ⟨ox, oy.1, by show x.length ≤ 8; omega⟩
    · exact ⟨ox, fz, by show x.length ≤ 8; omega⟩
    · exact ⟨ox, oraw.1, by show x.length ≤ 8; omega⟩
    · exact ⟨oraw, oy.1, hr8⟩
  have hPl : [(x, y, ()), (x, z, ()), (x, raw, ()), (raw, y, ())].length = 4 := rfl
  generalize [(x, y, ()), (x, z, ()), (x, raw, ()), (raw, y, ())] = P at *
  refine loop_to (fun d => ∃ i : Nat, i ≤ 4 ∧ d = ((P.length : Int), (i : Int), P, ())) (fun d => 9 - d.2.1.toNat) ?_ ⟨0, by omega, rfl⟩ (by simp only; omega)
  rintro d ⟨i, hi, rfl⟩
  simp only [Int.toNat_natCast]
  by_cases ci : i = 4
  · left; intro again
    rw [if_neg (by simp; omega)]
  right
  have hlt : i < P.length := by omega
  obtain ⟨p1, p2, p3⟩ := hP i (by omega)
  refine ⟨((P.length : Int), ((i + 1 : Nat) : Int), P, ()), fun again => ?_, ⟨i + 1, by omega, rfl⟩, by simp only [Int.toNat_natCast]; omega⟩
  rw [if_pos (by simp; omega), if_pos (by omega), if_pos (by omega)]
  generalize P.getD i ([], [], ()) = p at *
  have hpl : (planP p.1 p.2.1).length ≤ 2000000 := by
    have := congrArg List.length (plan_names p.1 p.2.1)
    simp only [List.length_map, List.length_append] at this
    have h1 := List.length_filter_le (fun j : Job => decide (placeP p.1 j.1 < 0)) p.2.1
    have h2 : (p.1.length : Int) ≤ 1000000 := p1.1
    have h3 : (p.2.1.length : Int) ≤ 1000000 := p2
    omega
  refine (need_eq ⟨p1, p2⟩).trans ?_
  simp only [bindv]
  refine (need_eq ⟨p1, p2⟩).trans ((need_eq (by omega)).trans ?_)
  rw [if_neg (by simp)]
  refine loop_to (fun d => ∃ q : Nat, d = ((q : Int), (P.length : Int), (i : Int), P, p.1, p.2.1, ()) ∧ q ≤ 8) (fun d => 9 - d.1.toNat) ?_ ⟨0, rfl, by omega⟩ (by simp only; omega)
  rintro d ⟨q, rfl, hq⟩
  simp only [Int.toNat_natCast]
  by_cases c1 : q < p.1.length
  · by_cases c2 : q < p.2.1.length
    · right
      have hok := p1.2 _ (getD_mem p.1 q J0 c1)
      refine ⟨(((q + 1 : Nat) : Int), (P.length : Int), (i : Int), P, p.1, p.2.1, ()), fun again1 => ?_, ⟨q + 1, rfl, by omega⟩, by simp only [Int.toNat_natCast]; omega⟩
      rw [if_pos (by simp; omega), if_pos (by simp; omega), if_pos (by omega), if_pos (by omega)]
      refine (need_eq hok).trans ?_
      rw [if_pos (by omega), if_pos (by omega)]
      refine (need_eq hok).trans ?_
      rw [if_neg (by simp), wI64 (by omega)]
      rfl
    · left; intro again1
      rw [if_pos (by simp; omega), if_neg (by simp; omega), wI64 (by omega)]
      rfl
  · left; intro again1
    rw [if_neg (by simp; omega), wI64 (by omega)]
    rfl
end Go.Rlq
