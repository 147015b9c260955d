/- What the models of the commands' functions come to: by plain Lean, with no program in sight. -/
import Derived.Test.YtfpmfjibbhedoaaCmdM
import Derived.Lib.Strings
set_option linter.unusedVariables false
set_option linter.unusedSimpArgs false
set_option linter.unnecessarySimpa false
namespace Go.Cmd
open Go.Ab Go.RowKit
theorem p_mod (x : Int) (y : Int) (h : c_mod x y) : m_mod x y = some (r_mod x y) := by
  obtain ⟨_, h1, h2⟩ := h
  obtain ⟨g1, g2, g3, g4⟩ := tmod_cases x y h1
  unfold m_mod r_mod
  rw [if_pos (by omega)]
  by_cases h : Int.tmod x y < 0
  · rw [if_pos (by simpa using h), wI64 (by omega), g1 h]
  · rw [if_neg (by simpa using h), g2 (by omega)]
theorem str0 (s : ByteArray) : (s.toList == (⟨#[]⟩ : ByteArray).toList) = decide (s.size = 0) := by
  rw [ByteArray.toList_eq, ByteArray.toList_eq, Bool.eq_iff_iff, beq_iff_eq, decide_eq_true_eq]
  cases s with
  | mk d => cases d; simp [ByteArray.size]
theorem str0' (s : ByteArray) : (s.toList == ByteArray.empty.toList) = decide (s.size = 0) := str0 s
theorem data0 (xs : List Int) : ((strOfBytes xs).toList == (strOfBytes []).toList) = decide (xs.length = 0) := by
  rw [ByteArray.toList_eq, ByteArray.toList_eq, Bool.eq_iff_iff, beq_iff_eq, decide_eq_true_eq]
  cases xs <;> simp [strOfBytes]
theorem res_eq {a b : Bool} (h : a = b) : resB a = resB b := by rw [h]
theorem ite_res (p : Prop) [Decidable p] (a b : Bool) : (if p then resB a else resB b) = resB (if p then a else b) := by split <;> rfl
theorem p_proper (c_0 : Int) (c_1 : Int) (c_2 : Int) (c_3 : ByteArray) (c_4 : List Int) (h : c_proper c_0 c_1 c_2 c_3 c_4) : m_proper c_0 c_1 c_2 c_3 c_4 = some (r_proper c_0 c_1 c_2 c_3 c_4) := by
  unfold m_proper
  show _ = resB (properP (c_0, (c_1, (c_2, (c_3, (c_4, ()))))))
  simp only [str0]
  generalize hq : properP (c_0, (c_1, (c_2, (c_3, (c_4, ()))))) = q
  rw [Bool.eq_iff_iff] at hq
  simp only [properP, Proper, decide_eq_true_eq] at hq
  simp only [ite_res]
  refine res_eq ?_
  rw [Bool.eq_iff_iff, ← hq]
  have hk : c_0 = 1 ∨ c_0 = 2 ∨ c_0 = 3 ∨ c_0 = 4 ∨ c_0 = 5 ∨ c_0 = 6 ∨ c_0 = 7 ∨ c_0 = 8 ∨ c_0 = 9 ∨ (c_0 ≠ 1 ∧ c_0 ≠ 2 ∧ c_0 ≠ 3 ∧ c_0 ≠ 4 ∧ c_0 ≠ 5 ∧ c_0 ≠ 6 ∧ c_0 ≠ 7 ∧ c_0 ≠ 8 ∧ c_0 ≠ 9) := by omega
  by_cases z : c_1 = 0
  · subst z
    rcases hk with rfl | rfl | rfl | rfl | rfl | rfl | rfl | rfl | rfl | ⟨a1, a2, a3, a4, a5, a6, a7, a8, a9⟩
    all_goals simp [*]
    all_goals intros
    all_goals first | omega | (constructor <;> (rintro ⟨a, b, c⟩; exact ⟨by omega, by omega, c⟩))
  · rcases hk with rfl | rfl | rfl | rfl | rfl | rfl | rfl | rfl | rfl | ⟨a1, a2, a3, a4, a5, a6, a7, a8, a9⟩
    all_goals simp [*]
theorem clean_1 (c : Command) : (c.1 = 1 → cleanP c = (c.1, c.2.1, c.2.2.1, ByteArray.empty, [], ())) ∧ ((c.1 = 2 ∨ c.1 = 4 ∨ c.1 = 5 ∨ c.1 = 6) → cleanP c = (c.1, 0, 0, c.2.2.2.1, [], ())) ∧
    ((c.1 = 3 ∨ c.1 = 7) → cleanP c = (c.1, 0, 0, ByteArray.empty, c.2.2.2.2.1, ())) ∧ ((c.1 < 1 ∨ 7 < c.1) → cleanP c = (c.1, 0, 0, ByteArray.empty, [], ())) := by
  unfold cleanP
  refine ⟨fun h => if_pos h, fun h => ?_, fun h => ?_, fun h => ?_⟩
  · rw [if_neg (by omega), if_pos h]
  · rw [if_neg (by omega), if_neg (by omega), if_pos h]
  · rw [if_neg (by omega), if_neg (by omega), if_neg (by omega)]
theorem p_clean (c_0 : Int) (c_1 : Int) (c_2 : Int) (c_3 : ByteArray) (c_4 : List Int) (h : c_clean c_0 c_1 c_2 c_3 c_4) : m_clean c_0 c_1 c_2 c_3 c_4 = some (r_clean c_0 c_1 c_2 c_3 c_4) := by
  obtain ⟨h1, h2, h3, h4⟩ := clean_1 (c_0, (c_1, (c_2, (c_3, (c_4, ())))))
  simp only at h1 h2 h3 h4
  unfold m_clean r_clean
  by_cases k1 : c_0 = 1
  · rw [h1 k1]; simp [k1]
  by_cases k2 : c_0 = 2 ∨ c_0 = 4 ∨ c_0 = 5 ∨ c_0 = 6
  · rw [h2 k2]; rcases k2 with k | k | k | k <;> simp [k]
  by_cases k3 : c_0 = 3 ∨ c_0 = 7
  · rw [h3 k3]; rcases k3 with k | k <;> simp [k]
  have e : cleanP (c_0, (c_1, (c_2, (c_3, (c_4, ()))))) = (c_0, (0, (0, (ByteArray.empty, ([], ()))))) := by
    unfold cleanP
    rw [if_neg k1, if_neg k2, if_neg k3]
  rw [e]
  rw [not_or, not_or, not_or] at k2
  rw [not_or] at k3
  simp [k1, k2, k3]
theorem p_same (a_0 : Int) (a_1 : Int) (a_2 : Int) (a_3 : ByteArray) (a_4 : List Int) (b_0 : Int) (b_1 : Int) (b_2 : Int) (b_3 : ByteArray) (b_4 : List Int) (h : c_same a_0 a_1 a_2 a_3 a_4 b_0 b_1 b_2 b_3 b_4) :
    m_same a_0 a_1 a_2 a_3 a_4 b_0 b_1 b_2 b_3 b_4 = some (r_same a_0 a_1 a_2 a_3 a_4 b_0 b_1 b_2 b_3 b_4) := by
  unfold m_same r_same sameP
  simp only
  cases h1 : (a_0 == b_0)
  · simp
  cases h2 : (a_1 == b_1)
  · simp
  cases h3 : (a_2 == b_2)
  · simp
  cases h4 : (a_3.toList == b_3.toList)
  · simp
  · simp
theorem same_clean (c : Command) (h : 1 ≤ c.1 ∧ c.1 ≤ 9) : (sameP c (cleanP c) = true ↔
    ((c.1 = 1 ∧ c.2.2.2.1.size = 0 ∧ c.2.2.2.2.1.length = 0) ∨ ((c.1 = 2 ∨ c.1 = 4 ∨ c.1 = 5 ∨ c.1 = 6) ∧ c.2.1 = 0 ∧ c.2.2.1 = 0 ∧ c.2.2.2.2.1.length = 0) ∨ ((c.1 = 3 ∨ c.1 = 7) ∧ c.2.1 = 0 ∧ c.2.2.1 = 0 ∧ c.2.2.2.1.size = 0) ∨
    ((c.1 = 8 ∨ c.1 = 9) ∧ c.2.1 = 0 ∧ c.2.2.1 = 0 ∧ c.2.2.2.1.size = 0 ∧ c.2.2.2.2.1.length = 0))) := by
  obtain ⟨h1, h2, h3, h4⟩ := clean_1 c
  have hk : c.1 = 1 ∨ (c.1 = 2 ∨ c.1 = 4 ∨ c.1 = 5 ∨ c.1 = 6) ∨ (c.1 = 3 ∨ c.1 = 7) ∨ (c.1 = 8 ∨ c.1 = 9) := by omega
  rcases hk with k | k | k | k
  · rw [h1 k]
    simp only [sameP, str0', data0, BEq.rfl, Bool.true_and, Bool.and_eq_true, decide_eq_true_eq]
    omega
  · rw [h2 k]
    simp only [sameP, str0', data0, BEq.rfl, Bool.true_and, Bool.and_eq_true, decide_eq_true_eq, beq_iff_eq]
    omega
  · rw [h3 k]
    simp only [sameP, str0', data0, BEq.rfl, Bool.true_and, Bool.and_true, Bool.and_eq_true, decide_eq_true_eq, beq_iff_eq]
    omega
  · rw [h4 (by omega)]
    simp only [sameP, str0', data0, BEq.rfl, Bool.true_and, Bool.and_eq_true, decide_eq_true_eq, beq_iff_eq]
    omega
theorem p_rproper (c_0 : Int) (c_1 : Int) (c_2 : Int) (c_3 : ByteArray) (c_4 : List Int) (h : c_rproper c_0 c_1 c_2 c_3 c_4) : m_rproper c_0 c_1 c_2 c_3 c_4 = some (r_rproper c_0 c_1 c_2 c_3 c_4) := by
  unfold m_rproper
  show _ = resB (properP (c_0, (c_1, (c_2, (c_3, (c_4, ()))))))
  simp only [bindv]
  by_cases k : 1 ≤ c_0 ∧ c_0 ≤ 9
  · have hs := same_clean (c_0, (c_1, (c_2, (c_3, (c_4, ()))))) k
    generalize sameP (c_0, (c_1, (c_2, (c_3, (c_4, ()))))) (cleanP (c_0, (c_1, (c_2, (c_3, (c_4, ())))))) = q at *
    simp only at hs
    generalize hq : properP (c_0, (c_1, (c_2, (c_3, (c_4, ()))))) = p
    rw [Bool.eq_iff_iff] at hq
    simp only [properP, Proper, decide_eq_true_eq] at hq
    simp only [ite_res]
    refine res_eq ?_
    rw [Bool.eq_iff_iff, ← hq]
    have hk : c_0 = 1 ∨ c_0 = 2 ∨ c_0 = 3 ∨ c_0 = 4 ∨ c_0 = 5 ∨ c_0 = 6 ∨ c_0 = 7 ∨ c_0 = 8 ∨ c_0 = 9 := by omega
    clear hq k h p
    cases q
    · have hs := mt hs.2 Bool.false_ne_true
      rcases hk with rfl | rfl | rfl | rfl | rfl | rfl | rfl | rfl | rfl
      all_goals (simp only [Int.reduceEq, false_and, and_false, false_or, or_false, true_and, or_true, true_or] at hs ⊢; simp [-List.length_eq_zero_iff, -ByteArray.size_eq_zero_iff] at hs ⊢; first | omega | (simp_all; done) | (simp_all; omega))
    · have hs := hs.1 rfl
      rcases hk with rfl | rfl | rfl | rfl | rfl | rfl | rfl | rfl | rfl
      all_goals (simp only [Int.reduceEq, false_and, and_false, false_or, or_false, true_and, or_true, true_or] at hs ⊢; simp [-List.length_eq_zero_iff, -ByteArray.size_eq_zero_iff] at hs ⊢; first | omega | (simp_all; done) | (simp_all; omega))
  · have hf : properP (c_0, (c_1, (c_2, (c_3, (c_4, ()))))) = false := by
      simp only [properP, decide_eq_false_iff_not]
      intro hp
      rcases hp with h | h | h | h <;> simp only at h <;> omega
    rw [hf]
    by_cases k1 : c_0 < 1
    · rw [if_neg (by simp; omega)]
    · rw [if_pos (by simp; omega), if_neg (by simp; omega)]
theorem enc_len {c : Command} (h : properP c = true) : c.2.2.2.1.size ≤ 32 ∧ c.2.2.2.2.1.length ≤ 4096 := by
  have h : Proper c := of_decide_eq_true h
  rcases h with h | h | h | h <;> exact ⟨by omega, by omega⟩
theorem bos_len (s : ByteArray) : (bytesOfStr s).length = s.size := by simp only [bytesOfStr, List.length_map, Array.length_toList]; rfl
theorem p_enc (c_0 : Int) (c_1 : Int) (c_2 : Int) (c_3 : ByteArray) (c_4 : List Int) (h : c_enc c_0 c_1 c_2 c_3 c_4) : m_enc c_0 c_1 c_2 c_3 c_4 = some (r_enc c_0 c_1 c_2 c_3 c_4) := by
  unfold m_enc r_enc encP
  simp only [bindv]
  by_cases hp : properP (c_0, (c_1, (c_2, (c_3, (c_4, ()))))) = true
  case neg => simp [hp]
  obtain ⟨h1, h2⟩ := enc_len hp
  simp only at h1 h2
  rw [if_neg (by simp [hp])]
  simp only [hp, if_true]
  by_cases k : c_0 = 1
  · rw [if_pos (by simp [k]), if_pos k, if_pos (by simp)]; rfl
  · rw [if_neg (by simp [k]), if_neg k, if_pos (by simp; omega), if_pos (by simp [bos_len]; omega)]; rfl
theorem bos0 {s : ByteArray} (h : s.size = 0) : bytesOfStr s = [] := List.eq_nil_of_length_eq_zero (by rw [bos_len]; exact h)
theorem p_renc (c_0 : Int) (c_1 : Int) (c_2 : Int) (c_3 : ByteArray) (c_4 : List Int) (h : c_renc c_0 c_1 c_2 c_3 c_4) : m_renc c_0 c_1 c_2 c_3 c_4 = some (r_renc c_0 c_1 c_2 c_3 c_4) := by
  unfold m_renc r_renc encP
  simp only [bindv]
  by_cases hp : properP (c_0, (c_1, (c_2, (c_3, (c_4, ()))))) = true
  case neg => simp [hp]
  obtain ⟨h1, h2⟩ := enc_len hp
  simp only at h1 h2
  rw [if_neg (by simp [hp])]
  by_cases k : c_0 = 1
  · have hz : c_3.size = 0 ∧ c_4.length = 0 := by
      have hp : Proper (c_0, (c_1, (c_2, (c_3, (c_4, ()))))) := of_decide_eq_true hp
      rcases hp with h | h | h | h <;> simp only at h <;> exact ⟨by omega, by omega⟩
    have h4 : c_4 = [] := List.eq_nil_of_length_eq_zero hz.2
    subst h4
    rw [if_pos (by simp [k]), if_pos (by simp), if_pos (by simp; omega), if_pos (by simp [bos_len]; omega), bos0 hz.1]
    subst k
    simp only [hp, if_true]
    simp [w8]
  · rw [if_neg (by simp [k]), if_pos (by simp; omega), if_pos (by simp [bos_len]; omega)]
    simp only [hp, if_true, if_neg k]
    rfl
theorem p_sane  (h : c_sane ) : m_sane  = some (r_sane ) := by
  have e : encP (1, 24, 80, ByteArray.empty, [], ()) = ([1, 0, 24, 0, 80], 0) := by decide
  have e' : encP (1, 24, 80, (⟨#[]⟩ : ByteArray), [], ()) = ([1, 0, 24, 0, 80], 0) := by decide
  unfold m_sane
  simp only [bindv, e, e']
  simp [ByteArray.toList_eq, strOfBytes]
  rfl
theorem p_commandLimits (n : Int) (h : WfT [.int .i64] (n, ())) : m_commandLimits 10 n = resB true := by
  obtain ⟨hn, _⟩ := h
  replace hn : I64 n := wf64 hn
  have k1 := Int.emod_nonneg n (show (3 : Int) ≠ 0 by omega)
  have k2 := Int.emod_lt_of_pos n (show (0 : Int) < 3 by omega)
  unfold m_commandLimits
  simp only [bindv]
  generalize n % 3 = k at *
  rw [need_eq ⟨hn, by omega, by unfold I64; omega⟩, wI64 (x := 31 + k) (by omega), wI64 (x := 4094 + k) (by omega), if_pos (by omega), if_pos (by omega)]
  generalize hL : ([_, _, _, _] : List Command) = L
  have hlen : L.length = 4 := by rw [← hL]; rfl
  refine loop_to (fun d => ∃ i : Nat, i ≤ 4 ∧ d = (4, (i : Int), L, ())) (fun d => 4 - d.2.1.toNat) ?_ ⟨0, by omega, by rw [hlen]; rfl⟩ (by simp only; omega)
  rintro d ⟨i, hi, rfl⟩
  simp only
  by_cases ci : i = 4
  · left; intro again
    rw [if_neg (by simp; omega)]
  · right
    refine ⟨(4, (i : Int) + 1, L, ()), fun again => ?_, ⟨i + 1, by omega, by simp⟩, by simp only; omega⟩
    rw [if_pos (by simp; omega), if_pos (by omega), if_pos (by omega), wI64 (by omega)]
    simp
end Go.Cmd
