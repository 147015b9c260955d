/- The models of the limits of restarts come to what their definitions say; the laws of the limits. -/
import Derived.Test.YtinhdhaohmnbeaaBurM
set_option linter.unusedVariables false
set_option linter.unusedSimpArgs false
set_option linter.unnecessarySimpa false
set_option maxRecDepth 100000
namespace Go.Bur
open Go.Ab Go.RowKit
theorem u64_getD {l : List Int} (h : ∀ x ∈ l, U64 x) (i : Nat) : U64 (l.getD i 0) := by
  by_cases c : i < l.length
  · exact h _ (getD_mem l i 0 c)
  · rw [List.getD_eq_getElem?_getD, List.getElem?_eq_none (by omega)]; simp [U64]
theorem p_sub (a : Int) (b : Int) (h : c_sub a b) : m_sub a b = some (r_sub a b) := by
  obtain ⟨⟨a0, a1⟩, b0, b1⟩ := h
  unfold m_sub r_sub subP
  rw [if_pos (by omega)]
  by_cases c : a < b
  · rw [if_pos (by rw [if_pos (by omega)]; rfl), if_pos c]
  · rw [if_neg (by rw [if_neg (by omega)]; simp), if_neg c]
    have : (a + 18446744073709551616 - b - 0) % 18446744073709551616 = a - b := by omega
    rw [this]
theorem p_out (t : Int) (now_0 : Int) (window_0 : Int) (h : c_out t now_0 window_0) : m_out t now_0 window_0 = some (r_out t now_0 window_0) := by
  unfold m_out
  rw [need_eq ⟨h.2.1, h.1⟩]
  rfl
theorem p_clone_nil : m_clone_nil = some (r_clone []) := rfl
theorem p_clone (l : List Int) (h : c_clone l) : m_clone l = some (r_clone l) := by
  have := h.1
  unfold m_clone r_clone
  rw [if_pos (by simp; omega)]
  simp
theorem p_idx (l : List Int) (now : Int) (window : Int) (h : c_idx l now window) : m_idx 2000000000000 l now window = some (r_idx l now window) := by
  obtain ⟨⟨hl, hx⟩, hn, hw⟩ := h
  unfold m_idx r_idx
  refine loop_to (fun d => ∃ i : Nat, i ≤ l.length ∧ d = (l, (l.length : Int), (i : Int), now, window, ()) ∧ firstP l now window = firstGo now window (l.drop i) i) (fun d => l.length - d.2.2.1.toNat) ?_ ⟨0, by omega, rfl, rfl⟩ (by simp only; omega)
  rintro d ⟨i, hi, rfl, hf⟩
  simp only [Int.toNat_natCast]
  by_cases ci : i = l.length
  · left; intro again
    rw [if_neg (by simp; omega), hf, ci, List.drop_length]
    rfl
  have hlt : i < l.length := by omega
  have hd := drop_getD l i 0 hlt
  rw [hd] at hf
  by_cases co : outP now window (l.getD i 0) = true
  · left; intro again
    rw [if_pos (by simp; omega), if_pos (by omega), need_eq ⟨u64_getD hx i, hn, hw⟩]
    simp only [bindv]
    rw [if_pos co, hf]
    simp only [firstGo, co, if_true]
  · right
    refine ⟨(l, (l.length : Int), ((i + 1 : Nat) : Int), now, window, ()), fun again => ?_, ⟨i + 1, by omega, rfl, ?_⟩, by simp only [Int.toNat_natCast]; omega⟩
    · rw [if_pos (by simp; omega), if_pos (by omega), need_eq ⟨u64_getD hx i, hn, hw⟩]
      simp only [bindv]
      rw [if_neg co, wI64 (by omega)]
      rfl
    · rw [hf]
      simp only [firstGo, co, Bool.false_eq_true, if_false]
      rfl
theorem first_ge (now window : Int) : ∀ (l : List Int) (i : Int), firstGo now window l i = -1 ∨ i ≤ firstGo now window l i
  | [], i => .inl rfl
  | t :: l, i => by
    simp only [firstGo]
    split
    · right; omega
    · rcases first_ge now window l (i + 1) with h | h
      · exact .inl h
      · right; omega
theorem first_none (now window : Int) : ∀ (l : List Int) (i : Int), 0 ≤ i → firstGo now window l i = -1 → trimP l now window = l
  | [], i, _, _ => rfl
  | t :: l, i, h0, h => by
    simp only [firstGo] at h
    split at h
    · omega
    · rename_i c
      unfold trimP
      rw [List.filter_cons, if_pos (by simpa using c)]
      congr 1
      exact first_none now window l (i + 1) (by omega) h
theorem first_at (now window : Int) : ∀ (l : List Int) (i : Int), 0 ≤ i → firstGo now window l i ≠ -1 → ∃ f : Nat, firstGo now window l i = i + f ∧ f < l.length ∧ trimP (l.take (f + 1)) now window = l.take f
  | [], i, _, h => absurd rfl h
  | t :: l, i, h0, h => by
    simp only [firstGo] at h ⊢
    by_cases c : outP now window t = true
    · rw [if_pos c]
      refine ⟨0, by omega, by simp, ?_⟩
      simp [trimP, c]
    · rw [if_neg c] at h ⊢
      obtain ⟨f, h1, h2, h3⟩ := first_at now window l (i + 1) (by omega) h
      refine ⟨f + 1, by omega, by simpa using h2, ?_⟩
      unfold trimP at h3 ⊢
      rw [List.take_succ_cons, List.filter_cons, if_pos (by simpa using c), h3, List.take_succ_cons]
theorem trim_len (l : List Int) (now window : Int) : (trimP l now window).length ≤ l.length := List.length_filter_le _ _
theorem trim_mem {l : List Int} {now window x : Int} (h : x ∈ trimP l now window) : x ∈ l := (List.mem_filter.1 h).1
theorem trim_us {l : List Int} (h : Us l) (now window : Int) : Us (trimP l now window) := ⟨by have := trim_len l now window; have := h.1; omega, fun x hx => h.2 x (trim_mem hx)⟩
theorem trim_append (a b : List Int) (now window : Int) : trimP (a ++ b) now window = trimP a now window ++ trimP b now window := List.filter_append ..
theorem trim_out {now window t : Int} (h : outP now window t = true) : trimP [t] now window = [] := by
  unfold trimP; rw [List.filter_cons, h]; rfl
theorem trim_in {now window t : Int} (h : outP now window t = false) : trimP [t] now window = [t] := by
  unfold trimP; rw [List.filter_cons, h]; rfl
theorem p_del (l : List Int) (now : Int) (window : Int) (h : c_del l now window) : m_del 2000000000000 l now window = some (r_del l now window) := by
  have hc := h
  obtain ⟨⟨hl, hx⟩, hn, hw⟩ := h
  unfold m_del r_del
  rw [need_eq (show Us l ∧ U64 now ∧ U64 window from hc)]
  simp only [bindv]
  by_cases c1 : firstP l now window = -1
  · rw [if_pos (by simp [c1]), first_none now window l 0 (by omega) c1]
  rw [if_neg (by simpa using c1)]
  obtain ⟨f, h1, h2, h3⟩ := first_at now window l 0 (by omega) c1
  have hf : firstP l now window = (f : Int) := by unfold firstP; rw [h1]; omega
  rw [hf, wI64 (by omega)]
  refine loop_to (fun d => ∃ (i j : Nat) (xs : List Int), i < j ∧ j ≤ l.length ∧ xs.length = l.length ∧ d = ((i : Int), (j : Int), now, window, xs, ()) ∧ xs.take i = trimP (l.take j) now window ∧ xs.drop j = l.drop j) (fun d => l.length - d.2.1.toNat) ?_ ⟨f, f + 1, l, by omega, by omega, rfl, by simp, h3.symm, rfl⟩ (by simp only; omega)
  rintro d ⟨i, j, xs, hij, hj, hlen, rfl, ht, hd⟩
  simp only [Int.toNat_natCast]
  by_cases cj : j = l.length
  · left; intro again
    rw [if_neg (by simp; omega), if_pos (by omega), if_pos (by simp; omega)]
    have e1 : (xs.take i ++ List.replicate (xs.length - i) (0 : Int) ++ xs.drop xs.length).take i = xs.take i := by
      rw [List.append_assoc, List.take_append_of_le_length (by simp; omega), List.take_take, Nat.min_self]
    rw [e1, ht, cj, List.take_length]
  right
  have hlt : j < l.length := by omega
  have hv : xs.getD j 0 = l.getD j 0 := by
    have q1 := drop_getD xs j 0 (by omega)
    have q2 := drop_getD l j 0 hlt
    rw [hd, q2] at q1
    simp only [List.cons.injEq] at q1
    exact q1.1.symm
  have hd1 : xs.drop (j + 1) = l.drop (j + 1) := by
    have q1 := drop_getD xs j 0 (by omega)
    have q2 := drop_getD l j 0 hlt
    rw [hd, q2] at q1
    simp only [List.cons.injEq] at q1
    exact q1.2.symm
  have htk := take_succ_getD l j 0 hlt
  by_cases co : outP now window (l.getD j 0) = true
  · refine ⟨((i : Int), ((j + 1 : Nat) : Int), now, window, xs, ()), fun again => ?_, ⟨i, j + 1, xs, by omega, by omega, hlen, rfl, ?_, hd1⟩, by simp only [Int.toNat_natCast]; omega⟩
    · rw [if_pos (by simp; omega), if_pos (by omega), if_pos (by omega), hv, need_eq ⟨u64_getD hx j, hn, hw⟩, co, if_neg (by simp), wI64 (by omega)]
      rfl
    · rw [ht, htk, trim_append, trim_out co, List.append_nil]
  · replace co := (Bool.not_eq_true _).mp co
    refine ⟨(((i + 1 : Nat) : Int), ((j + 1 : Nat) : Int), now, window, xs.set i (l.getD j 0), ()), fun again => ?_, ⟨i + 1, j + 1, _, by omega, by omega, by rw [List.length_set]; exact hlen, rfl, ?_, ?_⟩, by simp only [Int.toNat_natCast]; omega⟩
    · rw [if_pos (by simp; omega), if_pos (by omega), if_pos (by omega), hv, need_eq ⟨u64_getD hx j, hn, hw⟩, co, if_pos (by simp), if_pos (by omega), if_pos (by omega), wI64 (x := (i : Int) + 1) (by omega), wI64 (x := (j : Int) + 1) (by omega)]
      rfl
    · rw [List.take_set, take_succ_getD xs i 0 (by omega), List.set_append_right _ _ (by simp; omega)]
      have : i - (xs.take i).length = 0 := by simp; omega
      rw [this, List.set_cons_zero, ht, htk, trim_append, trim_in co]
    · rw [List.drop_set, if_pos (by omega), hd1]
theorem p_trim (l : List Int) (now : Int) (window : Int) (h : c_trim l now window) : m_trim l now window = some (r_trim l now window) := by
  unfold m_trim
  rw [need_eq (show Us l from h.1), need_eq (show Us l ∧ U64 now ∧ U64 window from h)]
  rfl
theorem p_allow (l : List Int) (most : Int) (now : Int) (window : Int) (h : c_allow l most now window) : m_allow l most now window = some (r_allow l most now window) := by
  unfold m_allow r_allow allowP
  rw [need_eq (show Us l ∧ U64 now ∧ U64 window from h)]
  simp only [bindv]
  have := trim_len l now window
  have := h.1.1
  by_cases c : most ≤ ((trimP l now window).length : Int)
  · rw [if_pos (decide_eq_true c), if_pos c]
  · rw [if_neg (fun hh => c (of_decide_eq_true hh)), if_pos (by simp; omega), if_neg c]
theorem allow_us {l : List Int} {now : Int} (h : Us l) (hn : U64 now) (hb : (l.length : Int) + 1 ≤ 1099511627776) (most window : Int) : Us (allowP l most now window).1 ∧ (allowP l most now window).1.length ≤ l.length + 1 := by
  have ht := trim_us h now window
  have hl := trim_len l now window
  unfold allowP
  split
  · exact ⟨ht, by simp only; omega⟩
  · refine ⟨⟨by simp; omega, fun x hx => ?_⟩, by simp; omega⟩
    rcases List.mem_append.1 hx with hx | hx
    · exact ht.2 x hx
    · simp only [List.mem_singleton] at hx; subst hx; exact hn
theorem out_later {now now' window t : Int} (h : now ≤ now') (ho : outP now window t = true) : outP now' window t = true := by
  unfold outP subP at *
  simp only [decide_eq_true_eq] at *
  split at ho <;> split <;> omega
theorem trim_trim (l : List Int) {now now' : Int} (window : Int) (h : now ≤ now') : trimP (trimP l now window) now' window = trimP l now' window := by
  unfold trimP
  rw [List.filter_filter]
  congr 1
  funext t
  cases c : outP now window t with
  | false => simp
  | true => simp [out_later h c]
end Go.Bur
