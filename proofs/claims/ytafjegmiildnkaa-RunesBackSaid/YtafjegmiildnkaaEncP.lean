/- The models of the encoder of characters come to what its definitions say. -/
import Derived.Test.YtafjegmiildnkaaEncM
import Derived.Test.YtafjegmiildnkaaRunP
set_option linter.unusedVariables false
set_option linter.unusedSimpArgs false
set_option maxRecDepth 100000
namespace Go.Enc
open Go.Ab Go.RowKit Go.Run
theorem sh0 (r : Int) : Int.fdiv r (2 ^ min (0 : Int).toNat 64) = r := by simp
theorem p_is (r : Int) (h : c_is r) : m_is r = some (r_is r) := by
  unfold m_is r_is isP
  repeat' split
  all_goals simp_all
  all_goals omega
theorem p_rchar (r : Int) (h : c_rchar r) : m_rchar r = some (r_rchar r) := by
  unfold m_rchar r_rchar isP
  repeat' split
  all_goals simp_all
  all_goals omega
theorem p_tail (s : Int) (r_0 : Int) (h : c_tail s r_0) : m_tail s r_0 = some (r_tail s r_0) := by
  unfold m_tail r_tail
  rw [if_pos h.1]
  rfl
theorem p_enc (r : Int) (h : c_enc r) : m_enc r = some (r_enc r) := by
  unfold m_enc r_enc encP
  simp only [need_eq (show 0 ≤ (6 : Int) ∧ (6 : Int) ≤ 18 by omega), need_eq (show 0 ≤ (0 : Int) ∧ (0 : Int) ≤ 18 by omega), need_eq (show 0 ≤ (12 : Int) ∧ (12 : Int) ≤ 18 by omega), bindv]
  by_cases hi : isP r = true
  · rw [if_neg (by simp [hi]), if_pos hi]
    unfold enc1
    repeat' split
    all_goals first | rfl | (simp_all; done) | (simp_all; omega)
  · rw [if_pos (by simp [hi]), if_neg hi]
    rfl
theorem p_renc (r : Int) (h : c_renc r) : m_renc r = some (r_renc r) := by
  unfold m_renc r_renc encP
  by_cases hi : isP r = true
  · rw [if_neg (by simp [hi]), if_pos hi]
    unfold enc1 tailP sh
    simp only [sh0]
    repeat' split
    all_goals first | rfl | (simp_all; done) | (simp_all; omega)
  · rw [if_pos (by simp [hi]), if_neg hi]
    unfold enc1 tailP sh
    simp only [sh0]
    rfl
theorem p_runesEncodes (r : Int) (h : WfT [.int .i64] (r, ())) : m_runesEncodes 10 r = resB true := by
  obtain ⟨hr, _⟩ := h
  replace hr : I64 r := wf64 hr
  have a1 := Int.emod_nonneg r (show (1114128 : Int) ≠ 0 by omega)
  have a2 := Int.emod_lt_of_pos r (show 0 < (1114128 : Int) by omega)
  have b1 := Int.emod_nonneg r (show (2304 : Int) ≠ 0 by omega)
  have b2 := Int.emod_lt_of_pos r (show 0 < (2304 : Int) by omega)
  have c1 := Int.emod_nonneg r (show (2080 : Int) ≠ 0 by omega)
  have c2 := Int.emod_lt_of_pos r (show 0 < (2080 : Int) by omega)
  have hx : ∀ x ∈ ([r, r % 1114128, r % 2304, Go.IntKind.wrap .i64 ((55280 : Int) + r % 2080)] : List Int), I64 x := by
    simp only [List.mem_cons, List.not_mem_nil, or_false]
    rintro x (rfl | rfl | rfl | rfl)
    · exact hr
    · unfold I64; omega
    · unfold I64; omega
    · exact wI64_range _
  unfold m_runesEncodes
  rw [need_eq ⟨hr, by omega, by unfold I64; omega⟩]
  simp only [bindv]
  rw [need_eq ⟨hr, by omega, by unfold I64; omega⟩, need_eq ⟨hr, by omega, by unfold I64; omega⟩]
  generalize hL : ([r, r % 1114128, r % 2304, Go.IntKind.wrap .i64 ((55280 : Int) + r % 2080)] : List Int) = L at hx
  have hl : L.length = 4 := by rw [← hL]; rfl
  refine loop_to (fun d => ∃ i : Nat, i ≤ 4 ∧ d = (4, (i : Int), L, ())) (fun d => 4 - d.2.1.toNat) ?_ ⟨0, by omega, by rw [hl]; rfl⟩ (by simp only; omega)
  rintro d ⟨i, hi, rfl⟩
  simp only [Int.toNat_natCast]
  by_cases ci : i = 4
  · left; intro again
    rw [if_neg (by simp; omega)]
  · right
    refine ⟨(4, (i : Int) + 1, L, ()), fun again => ?_, ⟨i + 1, by omega, by simp⟩, by simp only; omega⟩
    have := hx _ (getD_mem L i 0 (by omega))
    rw [if_pos (by simp; omega), if_pos (by omega), if_pos (by omega), need_eq this, need_eq this, if_neg (by simp), wI64 (by omega)]
end Go.Enc
