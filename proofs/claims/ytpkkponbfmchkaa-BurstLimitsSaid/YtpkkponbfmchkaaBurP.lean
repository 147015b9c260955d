/- The models of the limits of restarts come to what their definitions say; the laws of the limits. -/
import Derived.Test.YtpkkponbfmchkaaBurM
set_option linter.unusedVariables false
set_option linter.unusedSimpArgs false
set_option linter.unnecessarySimpa false
set_option maxRecDepth 100000
namespace Go.Bur
open Go.Ab Go.RowKit
theorem u64_getD {l : List Int} (h : ∀ x ∈ l, U64 x) (i : Nat) : U64 (l.getD i 0) := by
  by_cases c : i < l.length
  · exact h _ (getD_mem l i 0 c)
  · rw [List.getD_eq_getElem?_getD, List.getElem?_eq_none (by omega)]; simp [U64]
theorem p_sub (a : Int) (b : Int) (h : c_sub a b) : m_sub a b = some (r_sub a b) := by
  obtain ⟨⟨a0, a1⟩, b0, b1⟩ := h
  unfold m_sub r_sub subP
  rw [if_pos (by omega)]
  by_cases c : a < b
  · rw [if_pos (by rw [if_pos (by omega)]; rfl), if_pos c]
  · rw [if_neg (by rw [if_neg (by omega)]; simp), if_neg c]
    have : (a + 18446744073709551616 - b - 0) % 18446744073709551616 = a - b := by omega
    rw [this]
theorem p_out (t : Int) (now_0 : Int) (window_0 : Int) (h : c_out t now_0 window_0) : m_out t now_0 window_0 = some (r_out t now_0 window_0) := by
  unfold m_out
  rw [need_eq ⟨h.2.1, h.1⟩]
  rfl
theorem p_clone_nil : m_clone_nil = some (r_clone []) := rfl
theorem p_clone (l : List Int) (h : c_clone l) : m_clone l = some (r_clone l) := by
  have := h.1
  unfold m_clone r_clone
  rw [if_pos (by simp; omega)]
  simp
theorem p_idx (l : List Int) (now : Int) (window : Int) (h : c_idx l now window) : m_idx 2000000000000 l now window = some (r_idx l now window) := by
  obtain ⟨⟨hl, hx⟩, hn, hw⟩ := h
  unfold m_idx r_idx
  refine loop_to (fun d => ∃ i : Nat, i ≤ l.length ∧ d = (l, (l.length : Int), (i : Int), now, window, ()) ∧ firstP l now window = firstGo now window (l.drop i) i) (fun d => l.length - d.2.2.1.toNat) ?_ ⟨0, by omega, rfl, rfl⟩ (by simp only; omega)
  rintro d ⟨i, hi, rfl, hf⟩
  simp only [Int.toNat_natCast]
  by_cases ci : i = l.length
  · left; intro again
    rw [if_neg (by simp; omega), hf, ci, List.drop_length]
    rfl
  have hlt : i < l.length := by omega
  have hd := drop_getD l i 0 hlt
  rw [hd] at hf
  by_cases co : outP now window (l.getD i 0) = true
  · left; intro again
    rw [if_pos (by simp; omega), if_pos (by omega), need_eq ⟨u64_getD hx i, hn, hw⟩]
    simp only [bindv]
    rw [if_pos co, hf]
    simp only [firstGo, co, if_true]
  · right
    refine ⟨(l, (l.length : Int), ((i + 1 : Nat) : Int), now, window, ()), fun again => ?_, ⟨i + 1, by omega, rfl, ?_⟩, by simp only [Int.toNat_natCast]; omega⟩
    · rw [if_pos (by simp; omega), if_pos (by omega), need_eq ⟨u64_getD hx i, hn, hw⟩]
      simp only [bindv]
      rw [if_neg co, wI64 (by omega)]
      rfl
    · rw [hf]
      simp only [firstGo, co, Bool.false_eq_true, if_false]
      rfl
theorem first_ge (now window : Int) : ∀ (l : List Int) (i : Int), firstGo now window l i = -1 ∨ i ≤ firstGo now window l i
  | [], i => .inl rfl
  | t :: l, i => by
    simp only [firstGo]
    split
    · right; omega
    · rcases first_ge now window l (i + 1) with h | h
      · exact .inl h
      · right; omega
theorem first_none (now window : Int) : ∀ (l : List Int) (i : Int), 0 ≤ i → firstGo now window l i = -1 → trimP l now window = l
  | [], i, _, _ => rfl
  | t :: l, i, h0, h => by
    simp only [firstGo] at h
    split at h
    · omega
    · rename_i c
      unfold trimP
      rw [List.filter_cons, if_pos (by simpa using c)]
      congr 1
      exact first_none now window l (i + 1) (by omega) h
theorem first_at (now window : Int) : ∀ (l : List Int) (i : Int), 0 ≤ i → firstGo now window l i ≠ -1 → ∃ f : Nat, firstGo now window l i = i + f ∧ f < l.length ∧ trimP (l.take (f + 1)) now window = l.take f
  | [], i, _, h => absurd rfl h
  | t :: l, i, h0, h => by
    simp only [firstGo] at h ⊢
    by_cases c : outP now window t = true
    · rw [if_pos c]
      refine ⟨0, by omega, by simp, ?_⟩
      simp [trimP, c]
    · rw [if_neg c] at h ⊢
      obtain ⟨f, h1, h2, h3⟩ := first_at now window l (i + 1) (by omega) h
      refine ⟨f + 1, by omega, by simpa using h2, ?_⟩
      unfold trimP at h3 ⊢
      rw [List.take_succ_cons, List.filter_cons, if_pos (by simpa using c), h3, List.take_succ_cons]
theorem trim_len (l : List Int) (now window : Int) : (trimP l now window).length ≤ l.length := List.length_filter_le _ _
theorem trim_mem {l : List Int} {now window x : Int} (h : x ∈ trimP l now window) : x ∈ l := (List.mem_filter.1 h).1
theorem trim_us {l : List Int} (h : Us l) (now window : Int) : Us (trimP l now window) := ⟨by have := trim_len l now window; have := h.1; omega, fun x hx => h.2 x (trim_mem hx)⟩
theorem trim_append (a b : List Int) (now window : Int) : trimP (a ++ b) now window = trimP a now window ++ trimP b now window := List.filter_append ..
theorem trim_out {now window t : Int} (h : outP now window t = true) : trimP [t] now window = [] := by
  unfold trimP; rw [List.filter_cons, h]; rfl
theorem trim_in {now window t : Int} (h : outP now window t = false) : trimP [t] now window = [t] := by
  unfold trimP; rw [List.filter_cons, h]; rfl
theorem p_del (l : List Int) (now : Int) (window : Int) (h : c_del l now window) : m_del 2000000000000 l now window = some (r_del l now window) := by
  have hc := h
  obtain ⟨⟨hl, hx⟩, hn, hw⟩ := h
  unfold m_del r_del
  rw [need_eq (show Us l ∧ U64 now ∧ U64 window from hc)]
  simp only [bindv]
  by_cases c1 : firstP l now window = -1
  · rw [if_pos (by simp [c1]), first_none now window l 0 (by omega) c1]
  rw [if_neg (by simpa using c1)]
  obtain ⟨f, h1, h2, h3⟩ := first_at now window l 0 (by omega) c1
  have hf : firstP l now window = (f : Int) := by unfold firstP; rw [h1]; omega
  rw [hf, wI64 (by omega)]
  refine loop_to (fun d => ∃ (i j : Nat) (xs : List Int), i < j ∧ j ≤ l.length ∧ xs.length = l.length ∧ d = ((i : Int), (j : Int), now, window, xs, ()) ∧ xs.take i = trimP (l.take j) now window ∧ xs.drop j = l.drop j) (fun d => l.length - d.2.1.toNat) ?_ ⟨f, f + 1, l, by omega, by omega, rfl, by simp, h3.symm, rfl⟩ (by simp only; omega)
  rintro d ⟨i, j, xs, hij, hj, hlen, rfl, ht, hd⟩
  simp only [Int.toNat_natCast]
  by_cases cj : j = l.length
  · left; intro again
    rw [if_neg (by simp; omega), if_pos (by omega), if_pos (by simp; omega)]
    have e1 : (xs.take i ++ List.replicate (xs.length - i) (0 : Int) ++ xs.drop xs.length).take i = xs.take i := by
      rw [List.append_assoc, List.take_append_of_le_length (by simp; omega), List.take_take, Nat.min_self]
    rw [e1, ht, cj, List.take_length]
  right
  have hlt : j < l.length := by omega
  have hv : xs.getD j 0 = l.getD j 0 := by
    have q1 := drop_getD xs j 0 (by omega)
    have q2 := drop_getD l j 0 hlt
    rw [hd, q2] at q1
    simp only [List.cons.injEq] at q1
    exact q1.1.symm
  have hd1 : xs.drop (j + 1) = l.drop (j + 1) := by
    have q1 := drop_getD xs j 0 (by omega)
    have q2 := drop_getD l j 0 hlt
    rw [hd, q2] at q1
    simp only [List.cons.injEq] at q1
    exact q1.2.symm
  have htk := take_succ_getD l j 0 hlt
  by_cases co : outP now window (l.getD j 0) = true
  · refine ⟨((i : Int), ((j + 1 : Nat) : Int), now, window, xs, ()), fun again => ?_, ⟨i, j + 1, xs, by omega, by omega, hlen, rfl, ?_, hd1⟩, by simp only [Int.toNat_natCast]; omega⟩
    · rw [if_pos (by simp; omega), if_pos (by omega), if_pos (by omega), hv, need_eq ⟨u64_getD hx j, hn, hw⟩, co, if_neg (by simp), wI64 (by omega)]
      rfl
    · rw [ht, htk, trim_append, trim_out co, List.append_nil]
  · replace co := (Bool.not_eq_true _).mp co
    refine ⟨(((i + 1 : Nat) : Int), ((j + 1 : Nat) : Int), now, window, xs.set i (l.getD j 0), ()), fun again => ?_, ⟨i + 1, j + 1, _, by omega, by omega, by rw [List.length_set]; exact hlen, rfl, ?_, ?_⟩, by simp only [Int.toNat_natCast]; omega⟩
    · rw [if_pos (by simp; omega), if_pos (by omega), if_pos (by omega), hv, need_eq ⟨u64_getD hx j, hn, hw⟩, co, if_pos (by simp), if_pos (by omega), if_pos (by omega), wI64 (x := (i : Int) + 1) (by omega), wI64 (x := (j : Int) + 1) (by omega)]
      rfl
    · rw [List.take_set, take_succ_getD xs i 0 (by omega), List.set_append_right _ _ (by simp; omega)]
      have : i - (xs.take i).length = 0 := by simp; omega
      rw [this, List.set_cons_zero, ht, htk, trim_append, trim_in co]
    · rw [List.drop_set, if_pos (by omega), hd1]
theorem p_trim (l : List Int) (now : Int) (window : Int) (h : c_trim l now window) : m_trim l now window = some (r_trim l now window) := by
  unfold m_trim
  rw [need_eq (show Us l from h.1), need_eq (show Us l ∧ U64 now ∧ U64 window from h)]
  rfl
theorem p_allow (l : List Int) (most : Int) (now : Int) (window : Int) (h : c_allow l most now window) : m_allow l most now window = some (r_allow l most now window) := by
  unfold m_allow r_allow allowP
  rw [need_eq (show Us l ∧ U64 now ∧ U64 window from h)]
  simp only [bindv]
  have := trim_len l now window
  have := h.1.1
  by_cases c : most ≤ ((trimP l now window).length : Int)
  · rw [if_pos (decide_eq_true c), if_pos c]
  · rw [if_neg (fun hh => c (of_decide_eq_true hh)), if_pos (by simp; omega), if_neg c]
theorem allow_us {l : List Int} {now : Int} (h : Us l) (hn : U64 now) (hb : (l.length : Int) + 1 ≤ 1099511627776) (most window : Int) : Us (allowP l most now window).1 ∧ (allowP l most now window).1.length ≤ l.length + 1 := by
  have ht := trim_us h now window
  have hl := trim_len l now window
  unfold allowP
  split
  · exact ⟨ht, by simp only; omega⟩
  · refine ⟨⟨by simp; omega, fun x hx => ?_⟩, by simp; omega⟩
    rcases List.mem_append.1 hx with hx | hx
    · exact ht.2 x hx
    · simp only [List.mem_singleton] at hx; subst hx; exact hn
theorem p_play (most : Int) (window : Int) (l : List Int) (h : c_play most window l) : m_play 2000000000000 most window l = some (r_play most window l) := by
  obtain ⟨⟨hl, hx⟩, hw⟩ := h
  unfold m_play r_play
  refine loop_to (fun d => ∃ (i : Nat) (now : Int) (ts : List Int) (o : List Bool), i ≤ l.length ∧ d = (most, window, now, l, (l.length : Int), (i : Int), ts, o, ()) ∧ U64 now ∧ Us ts ∧ ts.length ≤ i ∧ o.length = i ∧ playP most window l = o ++ playGo most window (l.drop i) ts now) (fun d => l.length - d.2.2.2.2.2.1.toNat) ?_
    ⟨0, 0, [], [], by omega, rfl, by unfold U64; omega, ⟨by simp, fun x hx => by simp at hx⟩, by simp, rfl, rfl⟩ (by simp only; omega)
  rintro d ⟨i, now, ts, o, hi, rfl, hn, hts, htl, hol, hp⟩
  simp only [Int.toNat_natCast]
  by_cases ci : i = l.length
  · left; intro again
    rw [if_neg (by simp; omega), hp, ci, List.drop_length]
    simp [playGo]
  right
  have hlt : i < l.length := by omega
  have hu := u64_getD hx i
  have hmx : Go.Ab.maxK now (l.getD i 0) = max now (l.getD i 0) := maxK_eq _ _
  have hmu : U64 (max now (l.getD i 0)) := by obtain ⟨a, b⟩ := hn; obtain ⟨c, d⟩ := hu; constructor <;> omega
  rw [drop_getD l i 0 hlt] at hp
  simp only [playGo] at hp
  have ha := allow_us (most := most) (window := window) hts hmu (by omega)
  refine ⟨(most, window, max now (l.getD i 0), l, (l.length : Int), ((i + 1 : Nat) : Int), (allowP ts most (max now (l.getD i 0)) window).1, o ++ [(allowP ts most (max now (l.getD i 0)) window).2], ()), fun again => ?_, ⟨i + 1, _, _, _, by omega, rfl, hmu, ha.1, by omega, by simp [hol], ?_⟩, by simp only [Int.toNat_natCast]; omega⟩
  · rw [if_pos (by simp; omega), if_pos (by omega), hmx, need_eq ⟨hts, hmu, hw⟩]
    simp only [bindv]
    rw [if_pos (by simp; omega), wI64 (by omega)]
    rfl
  · rw [hp]; simp
theorem p_small (l : List Int) (n : Int) (h : c_small l n) : m_small 2000000000000 l n = some (r_small l n) := by
  obtain ⟨⟨hl, hx⟩, hn, hn2⟩ := h
  unfold m_small r_small
  refine loop_to (fun d => ∃ (i : Nat), i ≤ l.length ∧ d = (n, l, (l.length : Int), (i : Int), smallP (l.take i) n, ())) (fun d => l.length - d.2.2.2.1.toNat) ?_ ⟨0, by omega, rfl⟩ (by simp only; omega)
  rintro d ⟨i, hi, rfl⟩
  simp only [Int.toNat_natCast]
  by_cases ci : i = l.length
  · left; intro again
    rw [if_neg (by simp; omega), ci, List.take_length]
  right
  have hlt : i < l.length := by omega
  have hu := u64_getD hx i
  have hsl : (smallP (l.take i) n).length = i := by unfold smallP; simp; omega
  refine ⟨(n, l, (l.length : Int), ((i + 1 : Nat) : Int), smallP (l.take (i + 1)) n, ()), fun again => ?_, ⟨i + 1, by omega, rfl⟩, by simp only [Int.toNat_natCast]; omega⟩
  rw [if_pos (by simp; omega), if_pos (by omega), if_pos (by omega), if_pos (by simp [hsl]; omega), wI64 (by omega), tmodN hu.1]
  have : smallP (l.take (i + 1)) n = smallP (l.take i) n ++ [l.getD i 0 % n] := by unfold smallP; rw [take_succ_getD l i 0 hlt]; simp
  rw [this]
  rfl
theorem p_same (a : List Int) (b : List Int) (h : c_same a b) : m_same 2000000000000 a b = some (r_same a b) := by
  have hx := h.1
  unfold m_same r_same
  by_cases hl : a.length = b.length
  · rw [if_neg (by simp [hl])]
    refine loop_to (fun d => ∃ i : Nat, i ≤ a.length ∧ d = (a, b, (i : Int), ()) ∧ a.take i = b.take i) (fun d => a.length - d.2.2.1.toNat) ?_ ⟨0, by omega, rfl, rfl⟩ (by simp only; omega)
    rintro d ⟨i, hi, rfl, ht⟩
    simp only [Int.toNat_natCast]
    by_cases c : i = a.length
    · left; intro again
      rw [if_neg (by simp; omega)]
      have : a = b := by rw [c] at ht; rw [List.take_length, hl, List.take_length] at ht; exact ht
      simp [this]
    · have hi1 : i < a.length := by omega
      have hi2 : i < b.length := by omega
      by_cases e : a.getD i 0 = b.getD i 0
      · right
        refine ⟨(a, b, (i : Int) + 1, ()), fun again => ?_, ⟨i + 1, by omega, by simp, ?_⟩, by simp only; omega⟩
        · rw [if_pos (by simp; omega), if_pos (by omega), if_pos (by omega), e, wI64 (by omega)]
          simp
        · rw [take_succ_getD a i 0 hi1, take_succ_getD b i 0 hi2, ht, e]
      · left; intro again
        have hne : a ≠ b := fun h => e (by rw [h])
        rw [if_pos (by simp; omega), if_pos (by omega), if_pos (by omega), if_pos (by rw [bne_iff_ne]; exact e)]
        simp [hne]
  · rw [if_pos (by simp; omega)]
    have : a ≠ b := fun h => hl (by rw [h])
    simp [this]
theorem p_sane  (h : c_sane ) : m_sane  = some (r_sane ) := by
  have e : playP 2 10 [0, 5, 9, 10, 30] = [true, true, false, true, true] := by decide
  unfold m_sane
  rw [need_eq ⟨⟨by simp, fun x hx => by simp only [List.mem_cons, List.not_mem_nil, or_false] at hx; rcases hx with rfl | rfl | rfl | rfl | rfl <;> (unfold U64; omega)⟩, by unfold U64; omega⟩, e]
  rfl
/-! ### the laws -/
theorem out_later {now now' window t : Int} (h : now ≤ now') (ho : outP now window t = true) : outP now' window t = true := by
  unfold outP subP at *
  simp only [decide_eq_true_eq] at *
  split at ho <;> split <;> omega
theorem trim_trim (l : List Int) {now now' : Int} (window : Int) (h : now ≤ now') : trimP (trimP l now window) now' window = trimP l now' window := by
  unfold trimP
  rw [List.filter_filter]
  congr 1
  funext t
  cases c : outP now window t with
  | false => simp
  | true => simp [out_later h c]
theorem small_us {l : List Int} (h : (l.length : Int) ≤ 60) (hl : ∀ x ∈ l, U64 x) : Us (smallP l 100) ∧ (∀ x ∈ smallP l 100, 0 ≤ x ∧ x < 100) ∧ (smallP l 100).length = l.length := by
  have hb : ∀ x ∈ smallP l 100, 0 ≤ x ∧ x < 100 := by
    intro x hx
    unfold smallP at hx
    obtain ⟨y, _, rfl⟩ := List.mem_map.1 hx
    omega
  have hlen : (smallP l 100).length = l.length := by unfold smallP; simp
  refine ⟨⟨by omega, fun x hx => ?_⟩, hb, hlen⟩
  have := hb x hx
  unfold U64; omega
theorem p_burstForgets (l : List Int) (now : Int) (more : Int) (window : Int) (h : WfT [.slice (.int .u64), .int .u64, .int .u64, .int .u64] (l, now, more, window, ())) : m_burstForgets l now more window = resB true := by
  obtain ⟨hl, hn, hm, hw, _⟩ := h
  have hL : ∀ x ∈ l, U64 x := fun x hx => wfu64 (hl.2 x hx)
  replace hn : U64 now := wfu64 hn
  replace hm : U64 more := wfu64 hm
  replace hw : U64 window := wfu64 hw
  unfold m_burstForgets
  by_cases c : (60 : Int) < l.length
  · rw [if_pos (by simpa using c)]
  rw [if_neg (by simpa using c)]
  obtain ⟨hx, hb, hlen⟩ := small_us (by omega) hL
  rw [need_eq ⟨⟨by omega, hL⟩, by omega, by unfold U64; omega⟩]
  simp only [bindv]
  generalize smallP l 100 = x at hx hb hlen
  rw [tmodN hn.1, tmodN hm.1, tmodN hw.1, tdivN (by omega)]
  have n1 : 0 ≤ now % 120 ∧ now % 120 < 120 := by omega
  have m1 : 0 ≤ more % 50 ∧ more % 50 < 50 := by omega
  have w1 : 0 ≤ window % 60 ∧ window % 60 < 60 := by omega
  generalize now % 120 = N at n1
  generalize more % 50 = Mo at m1
  generalize window % 60 = W at w1
  rw [wU64 (x := N + Mo) (by omega), wU64 (x := W / 2) (by omega)]
  have uN : U64 N := by unfold U64; omega
  have uNM : U64 (N + Mo) := by unfold U64; omega
  have uW : U64 W := by unfold U64; omega
  have uW2 : U64 (W / 2) := by unfold U64; omega
  have ha : allowP x ((trimP x N W).length : Int) N W = (trimP x N W, false) := by unfold allowP; rw [if_pos (by omega)]
  have t1 := trim_us hx N W
  have e1 := trim_trim x W (Int.le_refl N)
  have e2 := trim_trim x W (show N ≤ N + Mo by omega)
  have hle : (trimP x N (W / 2)).length ≤ (trimP x N W).length := by
    unfold trimP
    have : x.filter (fun t => !outP N (W / 2) t) = (x.filter (fun t => !outP N W t)).filter (fun t => !outP N (W / 2) t) := by
      rw [List.filter_filter]
      congr 1
      funext t
      cases c : outP N (W / 2) t with
      | true => simp
      | false =>
        have : outP N W t = false := by
          unfold outP at *
          simp only [decide_eq_false_iff_not] at *
          omega
        simp [this]
    rw [this]
    exact List.length_filter_le _ _
  rw [need_eq ⟨hx, uN, uW⟩, need_eq ⟨hx, uNM, uW⟩, need_eq ⟨hx, uN, uW⟩, ha, need_eq ⟨t1, uN, uW⟩, e1, need_eq t1, if_pos (by simp), need_eq ⟨t1, uNM, uW⟩, e2, need_eq (trim_us hx _ _), if_pos (by simp), need_eq ⟨hx, uN, uW2⟩, if_pos (by simp; omega), if_pos (show (!(trimP x N W, false).snd) = true from rfl), need_eq t1]
  simp
/-! #### the limit -/
def selP : List Int → List Bool → List Int
  | x :: xs, b :: bs => if b = true then x :: selP xs bs else selP xs bs
  | _, _ => []
theorem sel_append : ∀ {xs : List Int} {bs : List Bool} (x : Int) (b : Bool), xs.length = bs.length → selP (xs ++ [x]) (bs ++ [b]) = selP xs bs ++ (if b = true then [x] else [])
  | [], [], x, b, _ => by cases b <;> rfl
  | y :: xs, c :: bs, x, b, h => by
    have ih := sel_append (xs := xs) (bs := bs) x b (by simpa using h)
    cases c <;> simp [selP, ih]
  | [], _ :: _, _, _, h => by simp at h
  | _ :: _, [], _, _, h => by simp at h
theorem play_len (most window : Int) : ∀ (l ts : List Int) (now : Int), (playGo most window l ts now).length = l.length
  | [], _, _ => rfl
  | t :: l, ts, now => by simp [playGo, play_len most window l]
theorem play_spec (most window : Int) : ∀ (rest pre : List Int) (okp : List Bool) (ts : List Int) (now : Int), pre.length = okp.length → (∀ now', now ≤ now' → trimP ts now' window = trimP (selP pre okp) now' window) → (now :: rest).Pairwise (· ≤ ·) →
    ∀ i, i < rest.length → (playGo most window rest ts now).getD i false = decide (((trimP (selP (pre ++ rest.take i) (okp ++ (playGo most window rest ts now).take i)) (rest.getD i 0) window).length : Int) < most)
  | [], _, _, _, _, _, _, _, i, hi => by simp at hi
  | t :: rest, pre, okp, ts, now, hl, hI, hs, i, hi => by
    rw [List.pairwise_cons] at hs
    obtain ⟨hs1, hs2⟩ := hs
    have hnt : now ≤ t := hs1 t (by simp)
    have hm : max now t = t := by omega
    have hok : (allowP ts most t window).2 = decide (((trimP ts t window).length : Int) < most) := by
      unfold allowP
      split
      · simp only; symm; rw [decide_eq_false_iff_not]; omega
      · simp only; symm; rw [decide_eq_true_iff]; omega
    cases i with
    | zero =>
      simp only [playGo, hm, List.getD_cons_zero, List.take_zero, List.append_nil]
      rw [hok, hI t hnt]
    | succ i =>
      simp only [playGo, hm, List.getD_cons_succ, List.take_succ_cons]
      have ih := play_spec most window rest (pre ++ [t]) (okp ++ [(allowP ts most t window).2]) (allowP ts most t window).1 t (by simp [hl]) (fun now' hn => ?_) hs2 i (by simpa using hi)
      · simp only [List.append_assoc, List.singleton_append] at ih
        exact ih
      · rw [sel_append t _ hl, trim_append, ← hI now' (by omega)]
        unfold allowP
        split
        · simp only [Bool.false_eq_true, if_false]
          rw [trim_trim _ _ hn]
          simp [trimP]
        · simp only [if_true]
          rw [trim_append, trim_trim _ _ hn]
theorem sorted_pair {x : List Int} (h0 : ∀ y ∈ x, 0 ≤ y) (h : ∀ a b : Nat, a ≤ b → b < x.length → x.getD a 0 ≤ x.getD b 0) : ((0 : Int) :: x).Pairwise (· ≤ ·) := by
  rw [List.pairwise_cons]
  refine ⟨h0, ?_⟩
  rw [List.pairwise_iff_getElem]
  intro i j hi hj hij
  have := h i j (by omega) hj
  simpa [List.getD_eq_getElem?_getD, hi, hj] using this
theorem p_burstLimits (most : Int) (window : Int) (l : List Int) (h : WfT [.int .i64, .int .u64, .slice (.int .u64)] (most, window, l, ())) : m_burstLimits 100 100 100 most window l = resB true := by
  obtain ⟨hmo, hw, hl, _⟩ := h
  have hL : ∀ x ∈ l, U64 x := fun x hx => wfu64 (hl.2 x hx)
  replace hw : U64 window := wfu64 hw
  unfold m_burstLimits
  by_cases c : (60 : Int) < l.length
  · rw [if_pos (by simpa using c)]
  rw [if_neg (by simpa using c)]
  obtain ⟨hx, hb, hlen⟩ := small_us (by omega) hL
  rw [need_eq ⟨⟨by omega, hL⟩, by omega, by unfold U64; omega⟩]
  simp only [bindv]
  generalize smallP l 100 = x at hx hb hlen
  rw [tmodN hw.1]
  have w1 : 0 ≤ window % 30 ∧ window % 30 < 30 := by omega
  generalize window % 30 = W at w1
  have uW : U64 W := by unfold U64; omega
  generalize Go.IntKind.wrap .i64 ((1 : Int) + (Int.tmod (Go.IntKind.wrap .i64 ((Int.tmod most (5 : Int)) + (5 : Int))) (5 : Int))) = K
  have hxl : x.length ≤ 60 := by omega
  refine loop_to (fun d => ∃ (i : Nat) (y : List Int), 1 ≤ i ∧ (i ≤ y.length ∨ i = 1) ∧ y.length = x.length ∧ d = (K, W, (i : Int), y, ()) ∧ (∀ t ∈ y, 0 ≤ t ∧ t < 100) ∧ (∀ a b : Nat, a ≤ b → b < i → b < y.length → y.getD a 0 ≤ y.getD b 0)) (fun d => 99 - d.2.2.1.toNat) ?_
    ⟨1, x, by omega, .inr rfl, rfl, rfl, hb, fun a b h1 h2 h3 => by have : a = b := by omega
                                                                    subst this; omega⟩ (by simp only; decide)
  rintro d ⟨i, y, hi1, hi, hyl, rfl, hyb, hys⟩
  simp only [Int.toNat_natCast]
  by_cases ci : i < y.length
  · right
    have hgd : ∀ (z : List Int) (v : Int) (q : Nat), i < z.length → (z.set i v).getD q 0 = if q = i then v else z.getD q 0 := by
      intro z v q hz
      simp only [List.getD_eq_getElem?_getD, List.getElem?_set]
      by_cases hq : i = q
      · subst hq; simp [hz]
      · rw [if_neg hq, if_neg (fun h => hq h.symm)]
    have hy0 := hyb _ (getD_mem y i 0 ci)
    have hy1 := hyb _ (getD_mem y (i - 1) 0 (by omega))
    refine ⟨(K, W, ((i + 1 : Nat) : Int), y.set i (max (y.getD i 0) (y.getD (i - 1) 0)), ()), fun again => ?_, ⟨i + 1, _, by omega, .inl (by rw [List.length_set]; omega), by rw [List.length_set]; exact hyl, rfl, fun t ht => ?_, fun a b h1 h2 h3 => ?_⟩, by simp only [Int.toNat_natCast]; omega⟩
    · rw [if_pos (by simp; omega), if_pos (by omega), if_pos (by omega), wI64 (x := (i : Int) - 1) (by omega), if_pos (by omega), if_pos (by omega), if_pos (by omega), if_pos (by omega), wI64 (x := (i : Int) + 1) (by omega), maxK_eq, show ((i : Int) - 1).toNat = i - 1 by omega]
      rfl
    · rcases List.mem_or_eq_of_mem_set ht with ht | rfl
      · exact hyb t ht
      · omega
    · rw [List.length_set] at h3
      rw [hgd y _ a ci, hgd y _ b ci]
      by_cases hb' : b = i
      · subst hb'
        rw [if_pos rfl]
        split
        · omega
        · have := hys a (b - 1) (by omega) (by omega) (by omega)
          omega
      · rw [if_neg hb', if_neg (by omega)]
        exact hys a b h1 (by omega) h3
  left; intro again
  have hyu : Us y := ⟨by omega, fun t ht => by have := hyb t ht; unfold U64; omega⟩
  have hys' : ∀ a b : Nat, a ≤ b → b < y.length → y.getD a 0 ≤ y.getD b 0 := fun a b h1 h2 => hys a b h1 (by omega) h2
  have hsp := play_spec K W y [] [] [] 0 rfl (fun _ _ => rfl) (sorted_pair (fun t ht => (hyb t ht).1) hys')
  have hpl : (playP K W y).length = y.length := play_len K W y [] 0
  rw [if_neg (by simp; omega), need_eq ⟨hyu, uW⟩]
  have hpe : playGo K W y [] 0 = playP K W y := rfl
  rw [hpe] at hsp
  generalize playP K W y = O at hsp hpl
  rw [if_neg (by simp; omega)]
  simp only [List.nil_append] at hsp
  refine loop_to (fun d => ∃ i : Nat, i ≤ y.length ∧ d = (K, W, (y.length : Int), (i : Int), y, O, ())) (fun d => 99 - d.2.2.2.1.toNat) ?_ ⟨0, by omega, rfl⟩ (by simp only; decide)
  rintro d ⟨i, hi, rfl⟩
  simp only [Int.toNat_natCast]
  by_cases ci : i = y.length
  · left; intro again
    rw [if_neg (by simp; omega)]
  right
  have hlt : i < y.length := by omega
  refine ⟨(K, W, (y.length : Int), ((i + 1 : Nat) : Int), y, O, ()), fun again1 => ?_, ⟨i + 1, by omega, rfl⟩, by simp only [Int.toNat_natCast]; omega⟩
  rw [if_pos (by simp; omega)]
  have hyi := hyb _ (getD_mem y i 0 hlt)
  refine loop_to (fun d => ∃ j : Nat, j ≤ i ∧ d = (K, W, (i : Int), ((trimP (selP (y.take j) (O.take j)) (y.getD i 0) W).length : Int), (j : Int), (y.length : Int), (i : Int), y, O, ())) (fun d => 99 - d.2.2.2.2.1.toNat) ?_ ⟨0, by omega, rfl⟩ (by simp only; decide)
  rintro d ⟨j, hj, rfl⟩
  simp only [Int.toNat_natCast]
  have hlen : (trimP (selP (y.take j) (O.take j)) (y.getD i 0) W).length ≤ j := by
    have h1 := trim_len (selP (y.take j) (O.take j)) (y.getD i 0) W
    have h2 : ∀ (a : List Int) (b : List Bool), (selP a b).length ≤ a.length := by
      intro a
      induction a with
      | nil => intro b; simp [selP]
      | cons x a ih =>
        intro b
        cases b with
        | nil => simp [selP]
        | cons c b =>
          have := ih b
          simp only [selP]
          split <;> simp <;> omega
    have h3 := h2 (y.take j) (O.take j)
    rw [List.length_take] at h3
    omega
  by_cases cj : j = i
  · left; intro again2
    subst cj
    rw [if_neg (by simp), if_pos (by omega), if_pos (by omega), hsp j hlt, if_neg (by simp), wI64 (by omega)]
    rfl
  right
  have hjl : j < y.length := by omega
  have hyj := hyb _ (getD_mem y j 0 hjl)
  have hle := hys' j i (by omega) hlt
  have htk1 := take_succ_getD y j 0 hjl
  have htk2 := take_succ_getD O j false (by omega)
  have hst : trimP (selP (y.take (j + 1)) (O.take (j + 1))) (y.getD i 0) W = trimP (selP (y.take j) (O.take j)) (y.getD i 0) W ++ (if O.getD j false = true ∧ y.getD i 0 - y.getD j 0 < W then [y.getD j 0] else []) := by
    rw [htk1, htk2, sel_append _ _ (by simp; omega), trim_append]
    congr 1
    cases hO : O.getD j false with
    | false => simp [trimP]
    | true =>
      have hs : subP (y.getD i 0) (y.getD j 0) = y.getD i 0 - y.getD j 0 := by unfold subP; rw [if_neg (by omega)]
      by_cases hW : y.getD i 0 - y.getD j 0 < W
      · have : outP (y.getD i 0) W (y.getD j 0) = false := by unfold outP; rw [hs, decide_eq_false_iff_not]; omega
        simp only [if_true, true_and]
        rw [if_pos hW]
        unfold trimP
        rw [List.filter_cons, this]
        rfl
      · have : outP (y.getD i 0) W (y.getD j 0) = true := by unfold outP; rw [hs, decide_eq_true_iff]; omega
        simp only [if_true, true_and]
        rw [if_neg hW]
        unfold trimP
        rw [List.filter_cons, this]
        rfl
  refine ⟨(K, W, (i : Int), ((trimP (selP (y.take (j + 1)) (O.take (j + 1))) (y.getD i 0) W).length : Int), ((j + 1 : Nat) : Int), (y.length : Int), (i : Int), y, O, ()), fun again2 => ?_, ⟨j + 1, by omega, rfl⟩, by simp only [Int.toNat_natCast]; omega⟩
  rw [if_pos (by simp; omega), if_pos (by omega), if_pos (by omega), wI64 (x := (j : Int) + 1) (by omega), hst]
  by_cases hO : O.getD j false = true
  · rw [if_pos hO, if_pos (by omega), if_pos (by omega), if_pos (by omega), if_pos (by omega)]
    by_cases hW : y.getD i 0 - y.getD j 0 < W
    · rw [if_pos (decide_eq_true (by rw [wU64 (by omega)]; exact hW)), if_pos ⟨hO, hW⟩, wI64 (by omega)]
      simp
    · rw [if_neg (fun h => hW (by have := of_decide_eq_true h; rwa [wU64 (by omega)] at this)), if_neg (fun h => hW h.2)]
      simp
  · rw [if_neg hO, if_neg (fun h => hO h.1)]
    simp
end Go.Bur
