/- Encodings that are read back: the characters come again. -/
import Derived.Test.YtafjegmiildnkaaBacM
import Derived.Test.YtafjegmiildnkaaEncP
import Derived.Test.YtafjegmiildnkaaDecP
set_option linter.unusedVariables false
set_option linter.unusedSimpArgs false
set_option linter.unnecessarySimpa false
set_option maxRecDepth 100000
namespace Go.Bac
open Go.Ab Go.RowKit
open Go.Run (I64 Len decGo decP partP sizeP secondP okAt charP feed validP dec_append dec_len)
open Go.Enc (isP encP enc1 tailP sh)
open Go.Dec (numP flushP char_num and_mod)
theorem fin_nat {p : Int → Prop} (k : Nat) (h : ∀ n : Fin k, p ((n.val : Nat) : Int)) {x : Int} (h0 : 0 ≤ x) (h1 : x < k) : p x := by
  have := h ⟨x.toNat, by omega⟩
  simpa [Int.toNat_of_nonneg h0] using this
theorem or128 {y : Int} (h : 0 ≤ y ∧ y < 64) : Go.IntKind.wrap .u8 (Go.Enc.or64 128 y) = 128 + y :=
  fin_nat (p := fun y => Go.IntKind.wrap .u8 (Go.Enc.or64 128 y) = 128 + y) 64 (by decide +kernel) h.1 h.2
theorem or192 {y : Int} (h : 0 ≤ y ∧ y < 32) : Go.IntKind.wrap .u8 (Go.Enc.or64 192 y) = 192 + y :=
  fin_nat (p := fun y => Go.IntKind.wrap .u8 (Go.Enc.or64 192 y) = 192 + y) 32 (by decide +kernel) h.1 h.2
theorem or224 {y : Int} (h : 0 ≤ y ∧ y < 16) : Go.IntKind.wrap .u8 (Go.Enc.or64 224 y) = 224 + y :=
  fin_nat (p := fun y => Go.IntKind.wrap .u8 (Go.Enc.or64 224 y) = 224 + y) 16 (by decide +kernel) h.1 h.2
theorem or240 {y : Int} (h : 0 ≤ y ∧ y < 8) : Go.IntKind.wrap .u8 (Go.Enc.or64 240 y) = 240 + y :=
  fin_nat (p := fun y => Go.IntKind.wrap .u8 (Go.Enc.or64 240 y) = 240 + y) 8 (by decide +kernel) h.1 h.2
theorem id8 {y : Int} (h : 0 ≤ y ∧ y < 128) : Go.IntKind.wrap .u8 y = y :=
  fin_nat (p := fun y => Go.IntKind.wrap .u8 y = y) 128 (by decide +kernel) h.1 h.2
theorem sh_div {r s : Int} (m : Int) (hm : (2 : Int) ^ min s.toNat 64 = m) (h : 0 ≤ r) : sh r s = r / m := by
  unfold sh
  rw [hm]
  subst hm
  exact Int.fdiv_eq_ediv_of_nonneg _ (Int.pow_nonneg (by omega))
theorem tail_eq {r s : Int} (m : Int) (hm : (2 : Int) ^ min s.toNat 64 = m) (m0 : 0 < m) (h : 0 ≤ r ∧ r ≤ 1114111) : tailP r s = 128 + r / m % 64 := by
  unfold tailP
  rw [sh_div m hm h.1]
  have h0 : 0 ≤ r / m := Int.ediv_nonneg h.1 (by omega)
  have h1 : r / m ≤ r := Int.ediv_le_self _ h.1
  have e : Go.Enc.and64 (r / m) 63 = r / m % 64 := and_mod (k := 6) 63 rfl (by omega) (by omega)
  rw [e, or128 (by omega)]
theorem part_x {l : List Int} {n : Int} (hs : sizeP (l.getD 0 0) = n) (h1 : 1 ≤ l.length) (hn : (l.length : Int) ≤ n) (hok : ∀ i, i < l.length → okAt l i = true) :
    partP l = (decide ((l.length : Int) ≠ n), decide ((l.length : Int) = n)) := by
  unfold partP
  rw [hs, if_neg (by omega), if_pos (by rw [List.all_eq_true]; intro i hi; exact hok i (List.mem_range.1 hi))]
theorem ok0 (l : List Int) : okAt l 0 = true := rfl
theorem ok1 {l : List Int} (h : secondP (l.getD 0 0) (l.getD 1 0) = true) : okAt l 1 = true := h
theorem ok2 {l : List Int} {i : Nat} (hi : 2 ≤ i) (h : 128 ≤ l.getD i 0 ∧ l.getD i 0 ≤ 191) : okAt l i = true := by
  unfold okAt
  rw [if_neg (by omega), if_neg (by omega)]
  exact decide_eq_true h
theorem lt1 {i : Nat} (h : i < 1) : i = 0 := by omega
theorem p1 {a n : Int} (hs : sizeP a = n) (hn : 1 ≤ n) : partP [a] = (decide ((1 : Int) ≠ n), decide ((1 : Int) = n)) :=
  part_x (l := [a]) hs (by simp) (by simpa using hn) (by intro i hi; have : i = 0 := lt1 hi; subst this; exact ok0 _)
theorem p2 {a b n : Int} (hs : sizeP a = n) (hn : 2 ≤ n) (h : secondP a b = true) : partP [a, b] = (decide ((2 : Int) ≠ n), decide ((2 : Int) = n)) :=
  part_x (l := [a, b]) hs (by simp) (by simpa using hn) (by
    intro i hi
    have : i = 0 ∨ i = 1 := by simp only [List.length_cons, List.length_nil] at hi; omega
    rcases this with rfl | rfl
    · exact ok0 _
    · exact ok1 h)
theorem p3 {a b c n : Int} (hs : sizeP a = n) (hn : 3 ≤ n) (h : secondP a b = true) (hc : 128 ≤ c ∧ c ≤ 191) : partP [a, b, c] = (decide ((3 : Int) ≠ n), decide ((3 : Int) = n)) :=
  part_x (l := [a, b, c]) hs (by simp) (by simpa using hn) (by
    intro i hi
    have : i = 0 ∨ i = 1 ∨ i = 2 := by simp only [List.length_cons, List.length_nil] at hi; omega
    rcases this with rfl | rfl | rfl
    · exact ok0 _
    · exact ok1 h
    · exact ok2 (by omega) hc)
theorem p4 {a b c d n : Int} (hs : sizeP a = n) (hn : 4 ≤ n) (h : secondP a b = true) (hc : 128 ≤ c ∧ c ≤ 191) (hd : 128 ≤ d ∧ d ≤ 191) : partP [a, b, c, d] = (decide ((4 : Int) ≠ n), decide ((4 : Int) = n)) :=
  part_x (l := [a, b, c, d]) hs (by simp) (by simpa using hn) (by
    intro i hi
    have : i = 0 ∨ i = 1 ∨ i = 2 ∨ i = 3 := by simp only [List.length_cons, List.length_nil] at hi; omega
    rcases this with rfl | rfl | rfl | rfl
    · exact ok0 _
    · exact ok1 h
    · exact ok2 (by omega) hc
    · exact ok2 (by omega) hd)
theorem feed_on {r : List Int} {b : Int} (h : partP (r ++ [b]) = (true, false)) : feed r b = (r ++ [b], []) := by
  unfold feed; rw [if_pos (by rw [h])]
theorem feed_end {r : List Int} {b : Int} (h : partP (r ++ [b]) = (false, true)) : feed r b = ([], [charP (r ++ [b])]) := by
  unfold feed; rw [if_neg (by rw [h]; simp), if_pos (by rw [h])]
theorem dec_1 {a : Int} (hs : sizeP a = 1) : decGo [] [a] = ([], [charP [a]]) := by
  have h := feed_end (r := []) (b := a) (p1 hs (by omega))
  simp only [decGo, h, List.nil_append, List.append_nil]
theorem dec_2 {a b : Int} (hs : sizeP a = 2) (h2 : secondP a b = true) : decGo [] [a, b] = ([], [charP [a, b]]) := by
  have h := feed_on (r := []) (b := a) (p1 hs (by omega))
  have h' := feed_end (r := [a]) (b := b) (p2 hs (by omega) h2)
  simp only [decGo, h, h', List.nil_append, List.append_nil, List.cons_append]
theorem dec_3 {a b c : Int} (hs : sizeP a = 3) (h2 : secondP a b = true) (hc : 128 ≤ c ∧ c ≤ 191) : decGo [] [a, b, c] = ([], [charP [a, b, c]]) := by
  have h := feed_on (r := []) (b := a) (p1 hs (by omega))
  have h' := feed_on (r := [a]) (b := b) (p2 hs (by omega) h2)
  have h'' := feed_end (r := [a, b]) (b := c) (p3 hs (by omega) h2 hc)
  simp only [decGo, h, h', h'', List.nil_append, List.append_nil, List.cons_append]
theorem dec_4 {a b c d : Int} (hs : sizeP a = 4) (h2 : secondP a b = true) (hc : 128 ≤ c ∧ c ≤ 191) (hd : 128 ≤ d ∧ d ≤ 191) : decGo [] [a, b, c, d] = ([], [charP [a, b, c, d]]) := by
  have h := feed_on (r := []) (b := a) (p1 hs (by omega))
  have h' := feed_on (r := [a]) (b := b) (p2 hs (by omega) h2)
  have h'' := feed_on (r := [a, b]) (b := c) (p3 hs (by omega) h2 hc)
  have h3 := feed_end (r := [a, b, c]) (b := d) (p4 hs (by omega) h2 hc hd)
  simp only [decGo, h, h', h'', h3, List.nil_append, List.append_nil, List.cons_append]
theorem is_iff {r : Int} : isP r = true ↔ 0 ≤ r ∧ r ≤ 1114111 ∧ (r < 55296 ∨ 57343 < r) := by
  unfold isP; rw [decide_eq_true_iff]
theorem second_ok {a b : Int} (h : (if a = 224 then 160 else if a = 240 then 144 else 128) ≤ b ∧ b ≤ (if a = 237 then 159 else if a = 244 then 143 else 191)) : secondP a b = true := by
  unfold secondP; exact decide_eq_true h
theorem enc_back {r : Int} (h : isP r = true) : decGo [] (encP r) = ([], [r]) ∧ (encP r).length ≤ 4 := by
  have h' := is_iff.1 h
  obtain ⟨h0, h1, hx⟩ := h'
  have t0 := tail_eq (r := r) (s := 0) 1 rfl (by omega) ⟨h0, h1⟩
  have t6 := tail_eq (r := r) (s := 6) 64 rfl (by omega) ⟨h0, h1⟩
  have t12 := tail_eq (r := r) (s := 12) 4096 rfl (by omega) ⟨h0, h1⟩
  unfold encP
  rw [if_pos h]
  unfold enc1
  by_cases c1 : r < 128
  · rw [if_pos c1, id8 ⟨h0, c1⟩]
    have hs : sizeP r = 1 := by unfold sizeP; rw [if_pos c1]
    refine ⟨?_, by simp⟩
    rw [dec_1 hs, char_num (l := [r]) (by simp; omega) (by simp) (by simp)]
    rfl
  rw [if_neg c1]
  by_cases c2 : r < 2048
  · rw [if_pos c2, sh_div 64 rfl h0, or192 (by omega), t0]
    generalize ha : 192 + r / 64 = a
    generalize hb : 128 + r / 1 % 64 = b
    have hs : sizeP a = 2 := by unfold sizeP; rw [if_neg (by omega), if_pos (by omega)]
    have h2 : secondP a b = true := second_ok (by rw [if_neg (by omega), if_neg (by omega), if_neg (by omega), if_neg (by omega)]; omega)
    refine ⟨?_, by simp⟩
    rw [dec_2 hs h2, char_num (l := [a, b]) (by simp; omega) (by simp) (by simp)]
    have e2 : numP [a, b] ([a, b] : List Int).length 0 = a % 32 * 64 + b % 64 := rfl
    rw [e2, show a % 32 * 64 + b % 64 = r by omega]
  rw [if_neg c2]
  by_cases c3 : r < 65536
  · rw [if_pos c3, sh_div 4096 rfl h0, or224 (by omega), t0, t6]
    generalize ha : 224 + r / 4096 = a
    generalize hb : 128 + r / 64 % 64 = b
    generalize hc : 128 + r / 1 % 64 = c
    have hs : sizeP a = 3 := by unfold sizeP; rw [if_neg (by omega), if_neg (by omega), if_pos (by omega)]
    have h2 : secondP a b = true := second_ok (by
      rw [if_neg (show ¬ a = 240 by omega), if_neg (show ¬ a = 244 by omega)]
      split <;> split <;> omega)
    refine ⟨?_, by simp⟩
    rw [dec_3 hs h2 (by omega), char_num (l := [a, b, c]) (by simp; omega) (by simp) (by simp)]
    have e2 : numP [a, b, c] ([a, b, c] : List Int).length 0 = (a % 16 * 64 + b % 64) * 64 + c % 64 := rfl
    rw [e2, show (a % 16 * 64 + b % 64) * 64 + c % 64 = r by omega]
  · rw [if_neg c3, sh_div 262144 rfl h0, or240 (by omega), t0, t6, t12]
    generalize ha : 240 + r / 262144 = a
    generalize hb : 128 + r / 4096 % 64 = b
    generalize hc : 128 + r / 64 % 64 = c
    generalize hd : 128 + r / 1 % 64 = d
    have hs : sizeP a = 4 := by unfold sizeP; rw [if_neg (by omega), if_neg (by omega), if_neg (by omega), if_pos (by omega)]
    have h2 : secondP a b = true := second_ok (by
      rw [if_neg (show ¬ a = 224 by omega), if_neg (show ¬ a = 237 by omega)]
      split <;> split <;> omega)
    refine ⟨?_, by simp⟩
    rw [dec_4 hs h2 (by omega) (by omega), char_num (l := [a, b, c, d]) (by simp; omega) (by simp) (by simp)]
    have e2 : numP [a, b, c, d] ([a, b, c, d] : List Int).length 0 = ((a % 8 * 64 + b % 64) * 64 + c % 64) * 64 + d % 64 := rfl
    rw [e2, show ((a % 8 * 64 + b % 64) * 64 + c % 64) * 64 + d % 64 = r by omega]
theorem is_rep : isP 65533 = true := by decide
theorem p_few (l : List Int) (h : c_few l) : m_few l = some (r_few l) := rfl
theorem p_runesBack (l : List Int) (h : WfT [.slice (.int .i64)] (l, ())) : m_runesBack 1000 l = resB true := by
  obtain ⟨hl, _⟩ := h
  have hL : ∀ x ∈ l, I64 x := fun x hx => wf64 (hl.2 x hx)
  unfold m_runesBack
  simp only [bindv]
  by_cases c : ¬ (l.length : Int) ≤ 200
  · rw [if_pos (by simpa using c)]
  replace c : (l.length : Int) ≤ 200 := by omega
  rw [if_neg (by simpa using c)]
  refine loop_to (fun d => ∃ (i : Nat) (b w : List Int), i ≤ l.length ∧ d = (l, (l.length : Int), (i : Int), b, w, ()) ∧ b.length ≤ 4 * i ∧ w.length = i ∧ decGo [] b = ([], w)) (fun d => l.length - d.2.2.1.toNat) ?_ ⟨0, [], [], by omega, rfl, by simp, rfl, rfl⟩ (by simp only; omega)
  rintro d ⟨i, b, w, hi, rfl, hb, hw, hd⟩
  simp only [Int.toNat_natCast]
  by_cases ci : i = l.length
  · left; intro again
    have e : decP ([] : List Int) b = ([], w) := by
      unfold decP
      rw [show (if validP ([] : List Int) = true then ([] : List Int) else []) = [] by split <;> rfl, hd]
    rw [if_neg (by simp; omega), need_eq ⟨by unfold Len; simp, by unfold Len; omega⟩]
    rw [e]
    simp only
    rw [if_pos (by simp), need_eq (show Len w by unfold Len; omega), if_pos (by simp), need_eq (show Len ([] : List Int) by unfold Len; simp)]
    rfl
  right
  have hlt : i < l.length := by omega
  have hx := hL _ (getD_mem l i 0 hlt)
  have a1 := Int.emod_nonneg (l.getD i 0) (show (1114112 : Int) ≠ 0 by omega)
  have a2 := Int.emod_lt_of_pos (l.getD i 0) (show 0 < (1114112 : Int) by omega)
  have key : ∀ r : Int, isP r = true → decGo [] (b ++ encP r) = ([], w ++ [r]) ∧ (b ++ encP r).length ≤ 4 * (i + 1) := by
    intro r hr
    have hk := enc_back hr
    refine ⟨?_, by rw [List.length_append]; omega⟩
    rw [dec_append, hd]
    simp only
    rw [hk.1]
  have hm : I64 (l.getD i 0) ∧ (0 : Int) < 1114112 ∧ I64 1114112 := ⟨hx, by omega, by unfold I64; omega⟩
  have fin : ∀ r : Int, isP r = true → ∀ again : (List Int) × Int × Int × (List Int) × (List Int) × Unit → Option Res,
      need (Go.Run.I64 r) (if (b.length + (encP r).length) * 1 ≤ 140737488355328 ∧ b.length + (encP r).length ≤ 9223372036854775807 then (if (w.length + ([r] : List Int).length) * 8 ≤ 140737488355328 ∧ w.length + ([r] : List Int).length ≤ 9223372036854775807 then again (l, (l.length : Int), Go.IntKind.wrap .i64 ((i : Int) + (1 : Int)), b ++ (encP r), w ++ ([r] : List Int), ())
      else none)
     else none) = again (l, (l.length : Int), ((i + 1 : Nat) : Int), b ++ encP r, w ++ [r], ()) := by
    intro r hr again
    have hk2 := (enc_back hr).2
    have h' := is_iff.1 hr
    rw [need_eq (by unfold I64; omega), if_pos (by omega), if_pos (by simp; omega), wI64 (by omega)]
    rfl
  by_cases cs : 55296 ≤ l.getD i 0 % 1114112 ∧ l.getD i 0 % 1114112 ≤ 57343
  · have hk := key 65533 is_rep
    refine ⟨(l, (l.length : Int), ((i + 1 : Nat) : Int), b ++ encP 65533, w ++ [65533], ()), fun again => ?_, ⟨i + 1, _, _, by omega, rfl, hk.2, by simp [hw], hk.1⟩, by simp only [Int.toNat_natCast]; omega⟩
    rw [if_pos (by simp; omega), if_pos (by omega), need_eq hm, if_pos (decide_eq_true cs.1), if_pos (decide_eq_true cs.2)]
    exact fin _ is_rep again
  · have hr : isP (l.getD i 0 % 1114112) = true := is_iff.2 ⟨a1, by omega, by omega⟩
    have hk := key _ hr
    refine ⟨(l, (l.length : Int), ((i + 1 : Nat) : Int), b ++ encP (l.getD i 0 % 1114112), w ++ [l.getD i 0 % 1114112], ()), fun again => ?_, ⟨i + 1, _, _, by omega, rfl, hk.2, by simp [hw], hk.1⟩, by simp only [Int.toNat_natCast]; omega⟩
    rw [if_pos (by simp; omega), if_pos (by omega), need_eq hm]
    by_cases c1 : 55296 ≤ l.getD i 0 % 1114112
    · rw [if_pos (decide_eq_true c1), if_neg (fun h => cs ⟨c1, of_decide_eq_true h⟩)]
      exact fin _ hr again
    · rw [if_neg (fun h => c1 (of_decide_eq_true h))]
      exact fin _ hr again
end Go.Bac
