/- What the models of the ladder's functions come to: by plain Lean, with no program in sight. -/
import Derived.Test.YtinhdhaohmnbeaaLadM
set_option linter.unusedVariables false
set_option linter.unusedSimpArgs false
set_option linter.unnecessarySimpa false
namespace Go.Lad
open Go.Ab Go.RowKit
theorem p_add (x : Int) (y : Int) (h : c_add x y) : m_add x y = some (r_add x y) := by
  obtain ⟨⟨h1, h2⟩, h3, h4⟩ := h
  unfold m_add r_add satAdd
  rw [if_pos (by omega)]
  by_cases h : x + y < 18446744073709551616
  · rw [show (x + y + 0) / 18446744073709551616 = 0 by omega, show (x + y + 0) % 18446744073709551616 = min (x + y) 18446744073709551615 by omega]; rfl
  · rw [show (x + y + 0) / 18446744073709551616 = 1 by omega, show min (x + y) 18446744073709551615 = 18446744073709551615 by omega]; rfl
theorem p_rAdd (x : Int) (y : Int) (h : c_rAdd x y) : m_rAdd x y = some (r_rAdd x y) := by
  obtain ⟨⟨h1, h2⟩, h3, h4⟩ := h
  unfold m_rAdd r_rAdd satAdd
  rw [if_pos (by omega)]
  by_cases h : x + y < 18446744073709551616
  · rw [show (x + y + 0) / 18446744073709551616 = 0 by omega, show (x + y + 0) % 18446744073709551616 = min (x + y) 18446744073709551615 by omega]; rfl
  · rw [show (x + y + 0) / 18446744073709551616 = 1 by omega, show min (x + y) 18446744073709551615 = 18446744073709551615 by omega]; rfl
theorem p_mod (x : Int) (y : Int) (h : c_mod x y) : m_mod x y = some (r_mod x y) := by
  obtain ⟨_, h1, h2⟩ := h
  obtain ⟨g1, g2, g3, g4⟩ := tmod_cases x y h1
  unfold m_mod r_mod
  rw [if_pos (by omega)]
  by_cases h : Int.tmod x y < 0
  · rw [if_pos (by simpa using h), wI64 (by omega), g1 h]
  · rw [if_neg (by simpa using h), g2 (by omega)]
theorem next_is (l : List Rung) (k a : Int) (h : RungsOk l ∧ I64 k ∧ U64 a) : m_next l k a = some (r_next l k a) := by
  obtain ⟨⟨h1, h2⟩, h3, h4⟩ := h
  unfold m_next r_next nextP bindv
  by_cases c1 : k < 0
  · simp [c1]
  by_cases c2 : (l.length : Int) < k
  · simp [c1, c2]
  by_cases c3 : k = l.length
  · subst c3; simp [c1]
  · have hm := h2 _ (getD_mem l k.toNat ((0 : Int), ((0 : Int), ())) (by omega))
    rw [if_pos (by simpa using c1), if_neg (by simpa using c2), if_neg (by simpa using c3), if_pos (by omega), if_pos (by omega), need_eq ⟨h4, hm⟩]
    simp [c1, c2, c3]
theorem p_next (l : List (Int × (Int × Unit))) (k : Int) (a : Int) (h : c_next l k a) : m_next l k a = some (r_next l k a) := next_is l k a h
theorem p_rnext (l : List (Int × (Int × Unit))) (k : Int) (a : Int) (h : c_rnext l k a) : m_rnext l k a = some (r_rnext l k a) := next_is l k a h
theorem satAdd_ok {x y : Int} (h1 : U64 x) (h2 : U64 y) : U64 (satAdd x y) := by unfold satAdd U64 at *; omega
theorem next_ok {l : List Rung} {k a : Int} (h : RungsOk l) (ha : U64 a) : U64 (nextP l k a).2.1 := by
  unfold nextP
  split
  · exact ⟨by decide, by decide⟩
  split
  · exact ⟨by decide, by decide⟩
  · exact satAdd_ok ha (h.2 _ (getD_mem l k.toNat (0, 0, ()) (by omega)))
theorem steps_len : ∀ (l : List Rung) (a : Int), (stepsP l a).length = l.length + 1
  | [], _ => rfl
  | _ :: l, a => by simp [stepsP, steps_len l]
/-- One round of the steps. -/
theorem steps_next {l : List Rung} {i : Nat} (a : Int) (h : i < l.length) : stepsP (l.drop i) a = (a, (nextP l i a).1, ()) :: stepsP (l.drop (i + 1)) (nextP l i a).2.1 := by
  rw [drop_getD l i (0, 0, ()) h]
  have : ¬ ((i : Int) < 0 ∨ (l.length : Int) < i) := by omega
  have h2 : ¬ ((i : Int) = l.length) := by omega
  simp only [stepsP, nextP]
  rw [if_neg this, if_neg h2, Int.toNat_natCast]
theorem steps_last (l : List Rung) (a : Int) : stepsP (l.drop l.length) a = [(a, (nextP l l.length a).1, ())] := by
  have : ¬ ((l.length : Int) < 0 ∨ (l.length : Int) < l.length) := by omega
  simp only [stepsP, nextP]
  rw [if_neg this, List.drop_length]; simp [stepsP]
theorem p_rsteps (l : List (Int × (Int × Unit))) (a : Int) (h : c_rsteps l a) : m_rsteps 3000 l a = some (r_rsteps l a) := by
  obtain ⟨hR, ha⟩ := h
  have hl := hR.1
  unfold m_rsteps
  refine loop_to (fun d => d.1 = l ∧ U64 d.2.1 ∧ ∃ i : Nat, d.2.2.1 = i ∧ i ≤ l.length + 1 ∧ d.2.2.2.1.length = i ∧ (i ≤ l.length → d.2.2.2.1 ++ stepsP (l.drop i) d.2.1 = stepsP l a) ∧ (i = l.length + 1 → d.2.2.2.1 = stepsP l a))
    (fun d => l.length + 1 - d.2.2.1.toNat) ?_ ⟨rfl, ha, 0, rfl, by omega, rfl, fun _ => rfl, fun h => by omega⟩ (by simp only; omega)
  rintro ⟨l', b, i', out, ⟨⟩⟩ hI
  simp only at hI ⊢
  obtain ⟨rfl, hb, i, rfl, hi, hlen, h1, h2⟩ := hI
  by_cases c : i = l'.length + 1
  · left; intro again
    rw [if_neg (by simp; omega), h2 c]; rfl
  · right
    refine ⟨(l', (nextP l' i b).2.1, (i : Int) + 1, out ++ [(b, (nextP l' i b).1, ())], ()), fun again => ?_, ⟨rfl, next_ok hR hb, i + 1, by simp, by omega, by simp [hlen], fun h => ?_, fun h => ?_⟩, ?_⟩
    · rw [if_pos (by simp; omega), need_eq ⟨hR, by unfold I64; omega, hb⟩]
      simp only [bindv]
      rw [if_pos (by simp [hlen]; omega), wI64 (by omega)]
    · rw [← h1 (by omega), steps_next b (by omega)]; simp
    · rw [← h1 (by omega), show i = l'.length by omega, steps_last]
    · simp only; omega
end Go.Lad
