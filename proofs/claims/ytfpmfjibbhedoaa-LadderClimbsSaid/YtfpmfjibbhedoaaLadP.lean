/- What the models of the ladder's functions come to: by plain Lean, with no program in sight. -/
import Derived.Test.YtfpmfjibbhedoaaLadM
set_option linter.unusedVariables false
set_option linter.unusedSimpArgs false
set_option linter.unnecessarySimpa false
namespace Go.Lad
open Go.Ab Go.RowKit
theorem p_add (x : Int) (y : Int) (h : c_add x y) : m_add x y = some (r_add x y) := by
  obtain ⟨⟨h1, h2⟩, h3, h4⟩ := h
  unfold m_add r_add satAdd
  rw [if_pos (by omega)]
  by_cases h : x + y < 18446744073709551616
  · rw [show (x + y + 0) / 18446744073709551616 = 0 by omega, show (x + y + 0) % 18446744073709551616 = min (x + y) 18446744073709551615 by omega]; rfl
  · rw [show (x + y + 0) / 18446744073709551616 = 1 by omega, show min (x + y) 18446744073709551615 = 18446744073709551615 by omega]; rfl
theorem p_rAdd (x : Int) (y : Int) (h : c_rAdd x y) : m_rAdd x y = some (r_rAdd x y) := by
  obtain ⟨⟨h1, h2⟩, h3, h4⟩ := h
  unfold m_rAdd r_rAdd satAdd
  rw [if_pos (by omega)]
  by_cases h : x + y < 18446744073709551616
  · rw [show (x + y + 0) / 18446744073709551616 = 0 by omega, show (x + y + 0) % 18446744073709551616 = min (x + y) 18446744073709551615 by omega]; rfl
  · rw [show (x + y + 0) / 18446744073709551616 = 1 by omega, show min (x + y) 18446744073709551615 = 18446744073709551615 by omega]; rfl
theorem tmod_cases (x y : Int) (hy : 0 < y) : (Int.tmod x y < 0 → Int.tmod x y + y = x % y) ∧ (0 ≤ Int.tmod x y → Int.tmod x y = x % y) ∧ -y < Int.tmod x y ∧ Int.tmod x y < y := by
  have h0 := Int.tmod_eq_emod (a := x) (b := y)
  have h1 := Int.emod_nonneg x (show y ≠ 0 by omega)
  have h2 := Int.emod_lt_of_pos x hy
  have e : (y.natAbs : Int) = y := by omega
  split at h0 <;> rw [h0] <;> omega
theorem p_mod (x : Int) (y : Int) (h : c_mod x y) : m_mod x y = some (r_mod x y) := by
  obtain ⟨_, h1, h2⟩ := h
  obtain ⟨g1, g2, g3, g4⟩ := tmod_cases x y h1
  unfold m_mod r_mod
  rw [if_pos (by omega)]
  by_cases h : Int.tmod x y < 0
  · rw [if_pos (by simpa using h), wI64 (by omega), g1 h]
  · rw [if_neg (by simpa using h), g2 (by omega)]
theorem next_is (l : List Rung) (k a : Int) (h : RungsOk l ∧ I64 k ∧ U64 a) : m_next l k a = some (r_next l k a) := by
  obtain ⟨⟨h1, h2⟩, h3, h4⟩ := h
  unfold m_next r_next nextP bindv
  by_cases c1 : k < 0
  · simp [c1]
  by_cases c2 : (l.length : Int) < k
  · simp [c1, c2]
  by_cases c3 : k = l.length
  · subst c3; simp [c1]
  · have hm := h2 _ (getD_mem l k.toNat ((0 : Int), ((0 : Int), ())) (by omega))
    rw [if_pos (by simpa using c1), if_neg (by simpa using c2), if_neg (by simpa using c3), if_pos (by omega), if_pos (by omega), need_eq ⟨h4, hm⟩]
    simp [c1, c2, c3]
theorem p_next (l : List (Int × (Int × Unit))) (k : Int) (a : Int) (h : c_next l k a) : m_next l k a = some (r_next l k a) := next_is l k a h
theorem p_rnext (l : List (Int × (Int × Unit))) (k : Int) (a : Int) (h : c_rnext l k a) : m_rnext l k a = some (r_rnext l k a) := next_is l k a h
theorem satAdd_ok {x y : Int} (h1 : U64 x) (h2 : U64 y) : U64 (satAdd x y) := by unfold satAdd U64 at *; omega
theorem next_ok {l : List Rung} {k a : Int} (h : RungsOk l) (ha : U64 a) : U64 (nextP l k a).2.1 := by
  unfold nextP
  split
  · exact ⟨by decide, by decide⟩
  split
  · exact ⟨by decide, by decide⟩
  · exact satAdd_ok ha (h.2 _ (getD_mem l k.toNat (0, 0, ()) (by omega)))
theorem steps_len : ∀ (l : List Rung) (a : Int), (stepsP l a).length = l.length + 1
  | [], _ => rfl
  | _ :: l, a => by simp [stepsP, steps_len l]
/-- One round of the steps. -/
theorem steps_next {l : List Rung} {i : Nat} (a : Int) (h : i < l.length) : stepsP (l.drop i) a = (a, (nextP l i a).1, ()) :: stepsP (l.drop (i + 1)) (nextP l i a).2.1 := by
  rw [drop_getD l i (0, 0, ()) h]
  have : ¬ ((i : Int) < 0 ∨ (l.length : Int) < i) := by omega
  have h2 : ¬ ((i : Int) = l.length) := by omega
  simp only [stepsP, nextP]
  rw [if_neg this, if_neg h2, Int.toNat_natCast]
theorem steps_last (l : List Rung) (a : Int) : stepsP (l.drop l.length) a = [(a, (nextP l l.length a).1, ())] := by
  have : ¬ ((l.length : Int) < 0 ∨ (l.length : Int) < l.length) := by omega
  simp only [stepsP, nextP]
  rw [if_neg this, List.drop_length]; simp [stepsP]
theorem p_steps (l : List (Int × (Int × Unit))) (a : Int) (h : c_steps l a) : m_steps 3000 l a = some (r_steps l a) := by
  obtain ⟨hR, ha⟩ := h
  have hl := hR.1
  unfold m_steps
  rw [wI64 (x := (l.length : Int) + 1) (by omega)]
  refine loop_to (fun d => d.1 = l ∧ U64 d.2.1 ∧ d.2.2.1 = l.length + 1 ∧ ∃ i : Nat, d.2.2.2.1 = i ∧ i ≤ l.length + 1 ∧ d.2.2.2.2.1.length = i ∧ (i ≤ l.length → d.2.2.2.2.1 ++ stepsP (l.drop i) d.2.1 = stepsP l a) ∧ (i = l.length + 1 → d.2.2.2.2.1 = stepsP l a))
    (fun d => l.length + 1 - d.2.2.2.1.toNat) ?_ ⟨rfl, ha, rfl, 0, rfl, by omega, rfl, fun _ => rfl, fun h => by omega⟩ (by simp only; omega)
  rintro ⟨l', b, n, i', out, ⟨⟩⟩ hI
  simp only at hI ⊢
  obtain ⟨rfl, hb, rfl, i, rfl, hi, hlen, h1, h2⟩ := hI
  by_cases c : i = l'.length + 1
  · left; intro again
    rw [if_neg (by simp; omega), h2 c]; rfl
  · right
    refine ⟨(l', (nextP l' i b).2.1, (l'.length : Int) + 1, (i : Int) + 1, out ++ [(b, (nextP l' i b).1, ())], ()), fun again => ?_, ⟨rfl, next_ok hR hb, rfl, i + 1, by simp, by omega, by simp [hlen], fun h => ?_, fun h => ?_⟩, ?_⟩
    · rw [if_pos (by simp; omega), need_eq ⟨hR, by unfold I64; omega, hb⟩]
      simp only [bindv]
      rw [if_pos (by simp [hlen]; omega), wI64 (by omega)]
    · rw [← h1 (by omega), steps_next b (by omega)]; simp
    · rw [← h1 (by omega), show i = l'.length by omega, steps_last]
    · simp only; omega
theorem p_rsteps (l : List (Int × (Int × Unit))) (a : Int) (h : c_rsteps l a) : m_rsteps 3000 l a = some (r_rsteps l a) := by
  obtain ⟨hR, ha⟩ := h
  have hl := hR.1
  unfold m_rsteps
  refine loop_to (fun d => d.1 = l ∧ U64 d.2.1 ∧ ∃ i : Nat, d.2.2.1 = i ∧ i ≤ l.length + 1 ∧ d.2.2.2.1.length = i ∧ (i ≤ l.length → d.2.2.2.1 ++ stepsP (l.drop i) d.2.1 = stepsP l a) ∧ (i = l.length + 1 → d.2.2.2.1 = stepsP l a))
    (fun d => l.length + 1 - d.2.2.1.toNat) ?_ ⟨rfl, ha, 0, rfl, by omega, rfl, fun _ => rfl, fun h => by omega⟩ (by simp only; omega)
  rintro ⟨l', b, i', out, ⟨⟩⟩ hI
  simp only at hI ⊢
  obtain ⟨rfl, hb, i, rfl, hi, hlen, h1, h2⟩ := hI
  by_cases c : i = l'.length + 1
  · left; intro again
    rw [if_neg (by simp; omega), h2 c]; rfl
  · right
    refine ⟨(l', (nextP l' i b).2.1, (i : Int) + 1, out ++ [(b, (nextP l' i b).1, ())], ()), fun again => ?_, ⟨rfl, next_ok hR hb, i + 1, by simp, by omega, by simp [hlen], fun h => ?_, fun h => ?_⟩, ?_⟩
    · rw [if_pos (by simp; omega), need_eq ⟨hR, by unfold I64; omega, hb⟩]
      simp only [bindv]
      rw [if_pos (by simp [hlen]; omega), wI64 (by omega)]
    · rw [← h1 (by omega), steps_next b (by omega)]; simp
    · rw [← h1 (by omega), show i = l'.length by omega, steps_last]
    · simp only; omega
theorem p_same (x : List (Int × (Int × Unit))) (y : List (Int × (Int × Unit))) (h : c_same x y) : m_same 3000 x y = some (r_same x y) := by
  have hx : (x.length : Int) ≤ 1000 := h
  unfold m_same r_same sameP
  by_cases hl : x.length = y.length
  · rw [if_neg (by simp [hl])]
    refine loop_to (fun d => d.1 = x ∧ d.2.1 = y ∧ ∃ i : Nat, d.2.2.1 = i ∧ i ≤ x.length ∧ x.take i = y.take i)
      (fun d => x.length - d.2.2.1.toNat) ?_ ⟨rfl, rfl, 0, rfl, by omega, rfl⟩ (by simp only; omega)
    rintro ⟨x', y', i', ⟨⟩⟩ hI
    simp only at hI ⊢
    obtain ⟨rfl, rfl, i, rfl, hi, ht⟩ := hI
    by_cases c : i = x'.length
    · left; intro again
      rw [if_neg (by simp; omega)]
      have : x' = y' := by rw [c] at ht; rw [List.take_length, hl, List.take_length] at ht; exact ht
      simp [this]
    · have hi1 : i < x'.length := by omega
      have hi2 : i < y'.length := by omega
      by_cases e : x'.getD i (0, 0, ()) = y'.getD i (0, 0, ())
      · right
        refine ⟨(x', y', (i : Int) + 1, ()), fun again => ?_, ⟨rfl, rfl, i + 1, by simp, by omega, ?_⟩, ?_⟩
        · rw [if_pos (by simp; omega), if_pos (by omega), if_pos (by omega), Int.toNat_natCast, e, wI64 (by omega)]
          simp
        · rw [take_succ_getD x' i (0, 0, ()) hi1, take_succ_getD y' i (0, 0, ()) hi2, ht, e]
        · simp only; omega
      · left; intro again
        have hne : x' ≠ y' := fun h => e (by rw [h])
        rw [if_pos (by simp; omega), if_pos (by omega), if_pos (by omega), Int.toNat_natCast]
        rw [if_pos]
        · simp [hne]
        · rw [Bool.not_eq_true', Bool.eq_false_iff]
          intro h
          simp only [Bool.and_true, Bool.and_eq_true, beq_iff_eq] at h
          exact e (Prod.ext h.1 (Prod.ext h.2 rfl))
  · rw [if_pos (by simp; omega)]
    have : x ≠ y := fun h => hl (by rw [h])
    simp [this]
theorem p_sane  (h : c_sane ) : m_sane  = some (r_sane ) := by
  unfold m_sane
  have h1 : RungsOk ([(15, (5, ())), (2, (2, ()))] : List (Int × (Int × Unit))) := ⟨by decide, by intro r hr; simp at hr; rcases hr with rfl | rfl <;> exact ⟨by decide, by decide⟩⟩
  rw [need_eq ⟨h1, by decide, by decide⟩]
  rw [show stepsP ([(15, (5, ())), (2, (2, ()))] : List (Int × (Int × Unit))) 10 = [(10, 15, ()), (15, 2, ()), (17, 9, ())] by decide]
  simp [bindv, r_sane]
theorem tmodN {x y : Int} (h : 0 ≤ x) : Int.tmod x y = x % y := Int.tmod_eq_emod_of_nonneg h
theorem wf_rungs {l : List Rung} (h : Wf (.slice (.pair (.int .i64) (.pair (.int .u64) .unit))) l) : ∀ r ∈ l, I64 r.1 ∧ U64 r.2.1 := fun r hr => ⟨wf64 (h.2 r hr).1, wfu64 (h.2 r hr).2.1⟩
theorem p_ladderSteps (l : List (Int × (Int × Unit))) (sent : Int) (a : Int) (h : WfT [.slice (.pair (.int .i64) (.pair (.int .u64) (.unit))), .int .i64, .int .u64] (l, sent, a, ())) : m_ladderSteps 5 l sent a = resB true := by
  obtain ⟨hl, hs, ha, _⟩ := h
  replace hs : I64 sent := wf64 hs
  replace ha : U64 a := wfu64 ha
  have hr := wf_rungs hl
  unfold m_ladderSteps
  by_cases c : (20 : Int) < l.length
  · rw [if_pos (by simpa using c)]
  have hR : RungsOk l := ⟨by omega, fun r h => (hr r h).2⟩
  rw [if_neg (by simpa using c), need_eq ⟨hs, by rw [wI64 (by omega)]; omega, wI64_range _⟩, wI64 (by omega)]
  simp only [bindv]
  have h1 := Int.emod_nonneg sent (show (l.length : Int) + 3 ≠ 0 by omega)
  have h2 := Int.emod_lt_of_pos sent (show 0 < (l.length : Int) + 3 by omega)
  refine loop_to (fun d => d.1 = l ∧ d.2.1 = a ∧ d.2.2.1 = 2 ∧ (∃ i : Nat, d.2.2.2.1 = i ∧ i ≤ 2) ∧ d.2.2.2.2.1.length = 2 ∧ ∀ x ∈ d.2.2.2.2.1, I64 x) (fun d => 2 - d.2.2.2.1.toNat) ?_
    ⟨rfl, rfl, rfl, ⟨0, rfl, by omega⟩, rfl, fun x hx => ?_⟩ (by simp only; omega)
  · rintro ⟨l', a', n, i', x, ⟨⟩⟩ hI
    simp only at hI ⊢
    obtain ⟨rfl, rfl, rfl, ⟨i, rfl, hi⟩, hx, hall⟩ := hI
    by_cases c : i = 2
    · left; intro again
      have hsm : (stepsP l' a').length = l'.length + 1 := steps_len l' a'
      have hmod : U64 (Int.tmod a' 1000) := by rw [tmodN (by omega)]; unfold U64; omega
      rw [if_neg (by simp; omega), need_eq ⟨hR, ha⟩, need_eq ⟨hR, ha⟩, need_eq (by rw [hsm]; omega), need_eq ⟨hR, hmod⟩, need_eq ⟨hR, hmod⟩, need_eq (by rw [steps_len]; omega)]
      simp [sameP]
    · right
      refine ⟨(l', a', 2, (i : Int) + 1, x, ()), fun again => ?_, ⟨rfl, rfl, rfl, ⟨i + 1, by simp, by omega⟩, hx, hall⟩, by simp only; omega⟩
      have hm := hall _ (getD_mem x i (0 : Int) (by omega))
      rw [if_pos (by simp; omega), if_pos (by omega), if_pos (by omega), Int.toNat_natCast, need_eq ⟨hR, hm, ha⟩, need_eq ⟨hR, hm, ha⟩, wI64 (by omega)]
      simp
  · simp only [List.mem_cons, List.not_mem_nil, or_false] at hx
    rcases hx with rfl | rfl
    · exact hs
    · exact wI64_range _
/-! ### ladders of bounded waits -/
def clamp (r : Rung) : Rung := (r.1, r.2.1 % 1099511627776, ())
def sumW : List Rung → Int
  | [] => 0
  | r :: l => r.2.1 + sumW l
theorem sumW_append : ∀ (l m : List Rung), sumW (l ++ m) = sumW l + sumW m
  | [], m => by simp [sumW]
  | r :: l, m => by simp only [List.cons_append, sumW, sumW_append l m]; omega
def Small (l : List Rung) : Prop := ∀ r ∈ l, 0 ≤ r.2.1 ∧ r.2.1 < 1099511627776
theorem sumW_bound : ∀ {l : List Rung}, Small l → 0 ≤ sumW l ∧ sumW l ≤ l.length * 1099511627776
  | [], _ => by simp [sumW]
  | r :: l, h => by
    have := sumW_bound (l := l) fun x hx => h x (List.mem_cons_of_mem _ hx)
    have := h r (by simp)
    simp only [sumW, List.length_cons]
    omega
theorem small_take {l : List Rung} (h : Small l) (i : Nat) : Small (l.take i) := fun r hr => h r (List.mem_of_mem_take hr)
theorem small_clamp (l : List Rung) : Small (l.map clamp) := fun r hr => by
  obtain ⟨x, _, rfl⟩ := List.mem_map.1 hr
  simp only [clamp]; omega
def shotAt (x : List Rung) (a : Int) (i : Nat) : Shot := (a + sumW (x.take i), (if i < x.length then (x.getD i (0, 0, ())).1 else 9), ())
theorem steps_list : ∀ (x : List Rung) (a : Int), Small x → 0 ≤ a → a + sumW x ≤ 18446744073709551615 → stepsP x a = (List.range (x.length + 1)).map (shotAt x a)
  | [], a, _, _, _ => by simp [stepsP, shotAt, sumW]
  | r :: l, a, hs, ha, hb => by
    have h1 := sumW_bound (l := l) fun x hx => hs x (List.mem_cons_of_mem _ hx)
    have h2 := hs r (by simp)
    simp only [sumW] at hb
    have e : satAdd a r.2.1 = a + r.2.1 := by unfold satAdd; omega
    rw [List.length_cons, List.range_succ_eq_map, List.map_cons, List.map_map]
    simp only [stepsP]
    rw [e, steps_list l (a + r.2.1) (fun x hx => hs x (List.mem_cons_of_mem _ hx)) (by omega) (by omega)]
    congr 1
    · simp [shotAt, sumW]
    · refine List.map_congr_left fun i hi => ?_
      simp only [shotAt, Function.comp, Nat.succ_eq_add_one, List.take_succ_cons, sumW, List.length_cons, List.getD_cons_succ, Nat.add_lt_add_iff_right]
      rw [Int.add_assoc]
theorem range_getD {α : Type} (f : Nat → α) (n i : Nat) (x : α) (h : i < n) : ((List.range n).map f).getD i x = f i := by
  simp [List.getD, h]
theorem shot_next {x : List Rung} {a : Int} {i : Nat} (hs : Small x) (ha : 0 ≤ a) (hb : a + sumW x ≤ 18446744073709551615) (hi : i ≤ x.length) :
    (nextP x i (shotAt x a i).1).1 = (shotAt x a i).2.1 ∧ (nextP x i (shotAt x a i).1).2.2 = decide (i < x.length) ∧ (i < x.length → (nextP x i (shotAt x a i).1).2.1 = (shotAt x a (i + 1)).1) := by
  have h0 : ¬ ((i : Int) < 0 ∨ (x.length : Int) < i) := by omega
  unfold nextP
  rw [if_neg h0]
  by_cases c : i = x.length
  · subst c
    rw [if_pos rfl]
    simp [shotAt]
  · have hlt : i < x.length := by omega
    rw [if_neg (by omega), Int.toNat_natCast]
    refine ⟨by simp only [shotAt]; rw [if_pos hlt], by simp [hlt], fun _ => ?_⟩
    have h1 : sumW (x.take (i + 1)) = sumW (x.take i) + (x.getD i (0, 0, ())).2.1 := by rw [take_succ_getD x i (0, 0, ()) hlt, sumW_append]; simp [sumW]
    have h2 : sumW (x.take (i + 1)) + sumW (x.drop (i + 1)) = sumW x := by rw [← sumW_append, List.take_append_drop]
    have h3 := sumW_bound (l := x.drop (i + 1)) fun r hr => hs r (List.mem_of_mem_drop hr)
    simp only [shotAt, satAdd, h1]
    omega
theorem shot_mono {x : List Rung} {a : Int} {i : Nat} (hs : Small x) (hi : i < x.length) : (shotAt x a i).1 ≤ (shotAt x a (i + 1)).1 := by
  have h1 : sumW (x.take (i + 1)) = sumW (x.take i) + (x.getD i (0, 0, ())).2.1 := by rw [take_succ_getD x i (0, 0, ()) hi, sumW_append]; simp [sumW]
  have := hs _ (getD_mem x i (0, 0, ()) hi)
  simp only [shotAt, h1]
  omega
theorem shot_u64 {x : List Rung} {a : Int} {i : Nat} (hs : Small x) (ha : 0 ≤ a) (hb : a + sumW x ≤ 18446744073709551615) : U64 (shotAt x a i).1 := by
  have h1 := sumW_bound (small_take hs i)
  have h2 : sumW (x.take i) + sumW (x.drop i) = sumW x := by rw [← sumW_append, List.take_append_drop]
  have h3 := sumW_bound (l := x.drop i) fun r hr => hs r (List.mem_of_mem_drop hr)
  unfold shotAt U64
  simp only
  omega
theorem p_ladderClimbs (l : List (Int × (Int × Unit))) (a : Int) (h : WfT [.slice (.pair (.int .i64) (.pair (.int .u64) (.unit))), .int .u64] (l, a, ())) : m_ladderClimbs 3000 3000 l a = resB true := by
  obtain ⟨hl, ha, _⟩ := h
  replace ha : U64 a := wfu64 ha
  have hr := wf_rungs hl
  unfold m_ladderClimbs
  by_cases c : (20 : Int) < l.length
  · rw [if_pos (by simpa using c)]
  rw [if_neg (by simpa using c), tmodN (x := a) (by omega)]
  have hat : 0 ≤ a % 1099511627776 ∧ a % 1099511627776 < 1099511627776 := by omega
  generalize a % 1099511627776 = b at hat
  refine loop_to (fun d => d.1 = b ∧ d.2.2.1 = l ∧ d.2.2.2.1 = l.length ∧ ∃ i : Nat, d.2.2.2.2.1 = i ∧ i ≤ l.length ∧ d.2.2.2.2.2.1 = (l.take i).map clamp ∧ d.2.1 = b + sumW ((l.take i).map clamp)) (fun d => l.length - d.2.2.2.2.1.toNat) ?_
    ⟨rfl, rfl, rfl, 0, rfl, by omega, rfl, by simp [sumW]⟩ (by simp only; omega)
  rintro ⟨b', s, l', n, i', x, ⟨⟩⟩ hI
  simp only at hI ⊢
  obtain ⟨rfl, rfl, rfl, i, rfl, hi, rfl, rfl⟩ := hI
  have hsm := sumW_bound (small_clamp (l'.take i))
  rw [List.length_map, List.length_take] at hsm
  by_cases c : i = l'.length
  · left; intro again
    rw [c, List.take_length]
    rw [c, List.take_length] at hsm
    have hS := small_clamp l'
    have hlen : (l'.map clamp).length = l'.length := List.length_map _
    generalize l'.map clamp = x at *
    have hR : RungsOk x := ⟨by omega, fun r h => by have := hS r h; unfold U64; omega⟩
    rw [if_neg (by simp), need_eq ⟨hR, by unfold U64; omega⟩, steps_list x b' hS (by omega) (by omega), wI64 (by omega)]
    simp only [bindv, List.length_map, List.length_range, Int.toNat_natCast, Int.toNat_zero]
    rw [range_getD _ _ _ _ (by omega), range_getD _ _ _ _ (by omega)]
    rw [if_pos (by simp), if_pos (by omega), if_pos (by omega), if_pos (by simp [shotAt]), if_pos (by omega), if_pos (by omega), if_neg (by simp [shotAt, sumW])]
    refine loop_to (fun d => d.1 = x.length + 1 ∧ d.2.2.1 = x ∧ d.2.2.2.1 = (List.range (x.length + 1)).map (shotAt x b') ∧ ∃ i : Nat, d.2.1 = i ∧ i ≤ x.length + 1) (fun d => x.length + 1 - d.2.1.toNat) ?_
      ⟨by simp, rfl, rfl, 0, rfl, by omega⟩ (by simp only; omega)
    rintro ⟨n, j', x', st, ⟨⟩⟩ hI
    simp only at hI ⊢
    obtain ⟨rfl, rfl, rfl, j, rfl, hj⟩ := hI
    by_cases cj : j = x'.length + 1
    · left; intro again
      rw [if_neg (by simp; omega)]
    · right
      refine ⟨((x'.length : Int) + 1, (j : Int) + 1, x', (List.range (x'.length + 1)).map (shotAt x' b'), ()), fun again => ?_, ⟨rfl, rfl, rfl, j + 1, by simp, by omega⟩, by simp only; omega⟩
      simp only [List.length_map, List.length_range, bindv]
      obtain ⟨h1, h2, h3⟩ := shot_next (a := b') (i := j) hS (by omega) (by omega) (by omega)
      rw [if_pos (by simp; omega), if_pos (by omega), if_pos (by omega), Int.toNat_natCast, range_getD _ _ _ _ (by omega), need_eq ⟨hR, by unfold I64; omega, shot_u64 hS (by omega) (by omega)⟩]
      rw [h1, h2, if_pos (by simp), if_pos (by simp), wI64 (by omega), wI64 (by omega)]
      have hmono : (j : Int) > 0 → (shotAt x' b' ((j : Int) - 1).toNat).1 ≤ (shotAt x' b' j).1 := fun hj0 => by
        have := shot_mono (a := b') (i := ((j : Int) - 1).toNat) hS (by omega)
        rwa [show ((j : Int) - 1).toNat + 1 = j by omega] at this
      by_cases cl : j < x'.length
      · rw [if_pos (by simp [cl]), if_pos (by omega), if_pos (by omega), h3 cl, show ((j : Int) + 1).toNat = j + 1 by omega, range_getD _ _ _ _ (by omega), if_pos (by simp)]
        by_cases c0 : (j : Int) > 0
        · rw [if_pos (by simpa using c0), if_pos (by omega), if_pos (by omega), range_getD _ _ _ _ (by omega), if_neg (by have := hmono c0; rw [decide_eq_true_eq]; omega)]
        · rw [if_neg (by simpa using c0)]
      · rw [if_neg (by simp [cl])]
        by_cases c0 : (j : Int) > 0
        · rw [if_pos (by simpa using c0), if_pos (by omega), if_pos (by omega), range_getD _ _ _ _ (by omega), if_neg (by have := hmono c0; rw [decide_eq_true_eq]; omega)]
        · rw [if_neg (by simpa using c0)]
  · right
    have hlt : i < l'.length := by omega
    have hm := hr _ (getD_mem l' i (0, 0, ()) hlt)
    have ht : (l'.take (i + 1)).map clamp = (l'.take i).map clamp ++ [clamp (l'.getD i (0, 0, ()))] := by rw [take_succ_getD l' i (0, 0, ()) hlt]; simp
    refine ⟨(b', b' + sumW ((l'.take (i + 1)).map clamp), l', (l'.length : Int), (i : Int) + 1, (l'.take (i + 1)).map clamp, ()), fun again => ?_, ⟨rfl, rfl, rfl, i + 1, by simp, by omega, rfl, rfl⟩, by simp only; omega⟩
    have hU := hm.2
    rw [if_pos (by simp; omega), if_pos (by omega), Int.toNat_natCast, tmodN hU.1, if_pos (by simp; omega), ht, sumW_append, wI64 (by omega), wU64 (by omega)]
    simp only [clamp, sumW, Int.add_zero, Int.add_assoc]
theorem p_ladderShifts (l : List (Int × (Int × Unit))) (a : Int) (later : Int) (cut : Int) (h : WfT [.slice (.pair (.int .i64) (.pair (.int .u64) (.unit))), .int .u64, .int .u64, .int .i64] (l, a, later, cut, ())) : m_ladderShifts 3000 3000 l a later cut = resB true := by
  obtain ⟨hl, ha, hla, hcut, _⟩ := h
  replace ha : U64 a := wfu64 ha
  replace hla : U64 later := wfu64 hla
  replace hcut : I64 cut := wf64 hcut
  have hr := wf_rungs hl
  unfold m_ladderShifts
  by_cases c : (12 : Int) < l.length
  · rw [if_pos (by simpa using c)]
  rw [if_neg (by simpa using c)]
  refine loop_to (fun d => d.1 = a ∧ d.2.1 = later ∧ d.2.2.1 = cut ∧ d.2.2.2.1 = l ∧ d.2.2.2.2.1 = l.length ∧ ∃ i : Nat, d.2.2.2.2.2.1 = i ∧ i ≤ l.length ∧ d.2.2.2.2.2.2.1 = (l.take i).map clamp) (fun d => l.length - d.2.2.2.2.2.1.toNat) ?_
    ⟨rfl, rfl, rfl, rfl, rfl, 0, rfl, by omega, rfl⟩ (by simp only; omega)
  rintro ⟨a', la, cu, l', n, i', x, ⟨⟩⟩ hI
  simp only at hI ⊢
  obtain ⟨rfl, rfl, rfl, rfl, rfl, i, rfl, hi, rfl⟩ := hI
  by_cases c : i = l'.length
  · left; intro again
    rw [c, List.take_length, tmodN (x := a') (by omega), tmodN (x := la) (by omega), if_neg (by simp)]
    have hat : 0 ≤ a' % 1099511627776 ∧ a' % 1099511627776 < 1099511627776 := by omega
    have hlt : 0 ≤ la % 1099511627776 ∧ la % 1099511627776 < 1099511627776 := by omega
    generalize a' % 1099511627776 = b at *
    generalize la % 1099511627776 = e at *
    have hsm := sumW_bound (small_clamp l')
    have hS := small_clamp l'
    have hlen : (l'.map clamp).length = l'.length := List.length_map _
    generalize l'.map clamp = x at *
    have hR : RungsOk x := ⟨by omega, fun r h => by have := hS r h; unfold U64; omega⟩
    simp only [bindv]
    rw [need_eq ⟨hR, by unfold U64; omega⟩, need_eq ⟨hR, by rw [wU64 (by omega)]; unfold U64; omega⟩, wI64 (x := (x.length : Int) + 1) (by omega), need_eq ⟨hcut, by omega, by unfold I64; omega⟩, wU64 (by omega)]
    have k1 := Int.emod_nonneg cu (show (x.length : Int) + 1 ≠ 0 by omega)
    have k2 := Int.emod_lt_of_pos cu (show 0 < (x.length : Int) + 1 by omega)
    generalize hk : cu % ((x.length : Int) + 1) = k at *
    obtain ⟨k, rfl⟩ : ∃ q : Nat, k = q := ⟨k.toNat, by omega⟩
    have hRk : RungsOk (x.take k) := ⟨by rw [List.length_take]; omega, fun r h => hR.2 r (List.mem_of_mem_take h)⟩
    have hSk := small_take hS k
    have hbk := sumW_bound hSk
    rw [List.length_take] at hbk
    have hlk : (x.take k).length = k := by rw [List.length_take]; omega
    rw [if_pos (by omega), Int.toNat_natCast, Int.toNat_zero, List.drop_zero, need_eq ⟨hRk, by unfold U64; omega⟩]
    rw [steps_list x b hS (by omega) (by omega), steps_list x (b + e) hS (by omega) (by omega), steps_list (x.take k) b hSk (by omega) (by omega), hlk]
    simp only [List.length_map, List.length_range]
    rw [if_pos (by simp), if_pos (by simp), need_eq ⟨hcut, by omega, by unfold I64; omega⟩, wI64 (by omega), if_neg (by simp)]
    refine loop_to (fun d => d.1 = e ∧ d.2.1 = x.length + 1 ∧ d.2.2.2.1 = (List.range (x.length + 1)).map (shotAt x b) ∧ d.2.2.2.2.1 = (List.range (x.length + 1)).map (shotAt x (b + e)) ∧ d.2.2.2.2.2.1 = (List.range (k + 1)).map (shotAt (x.take k) b) ∧ ∃ i : Nat, d.2.2.1 = i ∧ i ≤ x.length + 1) (fun d => x.length + 1 - d.2.2.1.toNat) ?_
      ⟨rfl, by simp, rfl, rfl, rfl, 0, rfl, by omega⟩ (by simp only; omega)
    rintro ⟨e', n, j', s1, s2, s3, ⟨⟩⟩ hI
    simp only at hI ⊢
    obtain ⟨rfl, rfl, rfl, rfl, rfl, j, rfl, hj⟩ := hI
    simp only [List.length_map, List.length_range]
    by_cases cj : j = x.length + 1
    · left; intro again
      have e1 : Go.IntKind.wrap .i64 (((k + 1 : Nat) : Int) - 1) = k := by rw [wI64 (by omega)]; omega
      rw [e1, if_neg (by simp; omega), if_pos (by omega), if_pos (by omega), Int.toNat_natCast, List.drop_zero, List.drop_zero]
      have e2 : ((List.range (x.length + 1)).map (shotAt x b)).take k = ((List.range (k + 1)).map (shotAt (x.take k) b)).take k := by
        rw [← List.map_take, ← List.map_take, List.take_range, List.take_range, show min k (x.length + 1) = k by omega, show min k (k + 1) = k by omega]
        refine List.map_congr_left fun q hq => ?_
        have hq := List.mem_range.1 hq
        have e3 : (x.take k).getD q (0, 0, ()) = x.getD q (0, 0, ()) := by simp [List.getD, List.getElem?_take, hq]
        simp only [shotAt, List.take_take, show min q k = q by omega, hlk, e3]
        rw [if_pos (by omega), if_pos hq]
      rw [need_eq (by rw [List.length_take]; omega), e2, if_pos (by simp [sameP]), if_pos (by omega), if_pos (by omega), if_pos (by omega), if_pos (by omega), range_getD _ _ _ _ (by omega), range_getD _ _ _ _ (by omega)]
      simp [shotAt, List.take_take]
    · right
      refine ⟨(e', (x.length : Int) + 1, (j : Int) + 1, (List.range (x.length + 1)).map (shotAt x b), (List.range (x.length + 1)).map (shotAt x (b + e')), (List.range (k + 1)).map (shotAt (x.take k) b), ()), fun again => ?_, ⟨rfl, rfl, rfl, rfl, rfl, j + 1, by simp, by omega⟩, by simp only; omega⟩
      have hu := shot_u64 (a := b) (i := j) hS (by omega) (by omega)
      have hv := shot_u64 (a := b + e') (i := j) hS (by omega) (by omega)
      have ee : (shotAt x (b + e') j).1 = (shotAt x b j).1 + e' := by simp only [shotAt]; omega
      rw [if_pos (by simp; omega), if_pos (by omega), if_pos (by omega), if_pos (by omega), if_pos (by omega), if_pos (by omega), if_pos (by omega), Int.toNat_natCast, range_getD _ _ _ _ (by omega), range_getD _ _ _ _ (by omega), wI64 (by omega)]
      rw [wU64 (by rw [← ee]; exact hv), ee]
      simp [shotAt]
  · right
    have hlt : i < l'.length := by omega
    have hm := hr _ (getD_mem l' i (0, 0, ()) hlt)
    have ht : (l'.take (i + 1)).map clamp = (l'.take i).map clamp ++ [clamp (l'.getD i (0, 0, ()))] := by rw [take_succ_getD l' i (0, 0, ()) hlt]; simp
    refine ⟨(a', la, cu, l', (l'.length : Int), (i : Int) + 1, (l'.take (i + 1)).map clamp, ()), fun again => ?_, ⟨rfl, rfl, rfl, rfl, rfl, i + 1, by simp, by omega, rfl⟩, by simp only; omega⟩
    have hU := hm.2
    rw [if_pos (by simp; omega), if_pos (by omega), Int.toNat_natCast, tmodN hU.1, if_pos (by simp; omega), ht, wI64 (by omega)]
    simp only [clamp]
end Go.Lad
