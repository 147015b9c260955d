/- The models of the reference's decoder come to what the program's definitions say. -/
import Derived.Test.YtafjegmiildnkaaDecM
import Derived.Test.YtafjegmiildnkaaRunP
set_option linter.unusedVariables false
set_option linter.unusedSimpArgs false
set_option linter.unnecessarySimpa false
set_option maxRecDepth 100000
namespace Go.Dec
open Go.Ab Go.RowKit Go.Run
/-! ### bits of bytes -/
theorem ofInt_nat (n w : Nat) : BitVec.ofInt w (n : Int) = BitVec.ofNat w n := by
  apply BitVec.eq_of_toNat_eq
  simp
theorem and_mod {x : Int} {k : Nat} (m : Int) (hm : m = 2 ^ k - 1) (hk : k ≤ 62) (h : 0 ≤ x ∧ x < 4611686018427387904) : Go.IntKind.wrap .i64 ((BitVec.ofInt 64 x &&& BitVec.ofInt 64 m).toNat : Int) = x % 2 ^ k := by
  obtain ⟨n, rfl⟩ : ∃ n : Nat, x = n := ⟨x.toNat, by omega⟩
  have hp : (0 : Nat) < 2 ^ k := Nat.two_pow_pos k
  have hle : (2 : Nat) ^ k ≤ 2 ^ 62 := Nat.pow_le_pow_right (by omega) hk
  have hm' : m = ((2 ^ k - 1 : Nat) : Int) := by
    have h2 : ((2 ^ k : Nat) : Int) = (2 : Int) ^ k := by push_cast; rfl
    rw [hm, ← h2]; omega
  rw [hm', ofInt_nat, ofInt_nat, BitVec.toNat_and, BitVec.toNat_ofNat, BitVec.toNat_ofNat, Nat.mod_eq_of_lt (show n < 2 ^ 64 by omega), Nat.mod_eq_of_lt (show 2 ^ k - 1 < 2 ^ 64 by omega), Nat.and_two_pow_sub_one_eq_mod]
  have := Nat.mod_lt n hp
  rw [wI64 (by omega)]
  simp
theorem or_add {x y : Int} (hx : 0 ≤ x ∧ x < 1073741824) (hy : 0 ≤ y ∧ y < 64) : Go.IntKind.wrap .i64 ((BitVec.ofInt 64 (Go.IntKind.wrap .i64 (x * 2 ^ min (6 : Int).toNat 64)) ||| BitVec.ofInt 64 y).toNat : Int) = x * 64 + y := by
  have e : x * 2 ^ min (6 : Int).toNat 64 = x * 64 := rfl
  rw [e, wI64 (x := x * 64) (by omega)]
  obtain ⟨n, rfl⟩ : ∃ n : Nat, x = n := ⟨x.toNat, by omega⟩
  obtain ⟨m, rfl⟩ : ∃ m : Nat, y = m := ⟨y.toNat, by omega⟩
  have e2 : (n : Int) * 64 = ((n * 64 : Nat) : Int) := by push_cast; rfl
  have e3 : n * 64 = n <<< 6 := by rw [Nat.shiftLeft_eq]
  rw [e2, ofInt_nat, ofInt_nat, BitVec.toNat_or, BitVec.toNat_ofNat, BitVec.toNat_ofNat, Nat.mod_eq_of_lt (show n * 64 < 2 ^ 64 by omega), Nat.mod_eq_of_lt (show m < 2 ^ 64 by omega), e3, ← Nat.shiftLeft_add_eq_or_of_lt (show m < 2 ^ 6 by omega), ← e3]
  rw [wI64 (by omega)]
  push_cast; rfl
theorem and8_63 {x : Int} (h : 0 ≤ x ∧ x ≤ 255) : and8 x 63 = x % 64 := by
  have : ∀ n : Fin 256, and8 ((n.val : Nat) : Int) 63 = ((n.val : Nat) : Int) % 64 := by decide +kernel
  have := this ⟨x.toNat, by omega⟩
  simpa [Int.toNat_of_nonneg h.1] using this
theorem and8_192 {x : Int} (h : 0 ≤ x ∧ x ≤ 255) : (Go.IntKind.wrap .u8 ((BitVec.ofInt 8 x &&& BitVec.ofInt 8 (192 : Int)).toNat : Int) != (128 : Int)) = !decide (128 ≤ x ∧ x ≤ 191) := by
  have : ∀ n : Fin 256, (Go.IntKind.wrap .u8 ((BitVec.ofInt 8 ((n.val : Nat) : Int) &&& BitVec.ofInt 8 (192 : Int)).toNat : Int) != (128 : Int)) = !decide (128 ≤ ((n.val : Nat) : Int) ∧ ((n.val : Nat) : Int) ≤ 191) := by decide +kernel
  have := this ⟨x.toNat, by omega⟩
  simpa [Int.toNat_of_nonneg h.1] using this
theorem byte_at {l : List Int} (h : ∀ x ∈ l, 0 ≤ x ∧ x ≤ 255) (i : Nat) : 0 ≤ l.getD i 0 ∧ l.getD i 0 ≤ 255 := by
  by_cases c : i < l.length
  · exact h _ (getD_mem l i 0 c)
  · rw [List.getD_eq_getElem?_getD, List.getElem?_eq_none (by omega)]; simp
/-! ### numbers -/
theorem digit_bound {b : List Int} (hb : ∀ x ∈ b, 0 ≤ x ∧ x ≤ 255) {d : Int} (hd : 0 ≤ d ∧ d ≤ 63) (i : Nat) : 0 ≤ digit b d i ∧ digit b d i < 64 := by
  unfold digit
  split
  · have := byte_at hb i; omega
  · omega
theorem num_bound {b : List Int} (hb : ∀ x ∈ b, 0 ≤ x ∧ x ≤ 255) {d m : Int} (hd : 0 ≤ d ∧ d ≤ 63) (hm : 0 < m) : ∀ i : Nat, 0 ≤ numR b d m i ∧ numR b d m i < 256 * 64 ^ i
  | 0 => by
    have h1 := Int.emod_nonneg (b.getD 0 0) (show m ≠ 0 by omega)
    have := byte_at hb 0
    have h2 : b.getD 0 0 % m ≤ b.getD 0 0 := by
      by_cases c : b.getD 0 0 < m
      · rw [Int.emod_eq_of_lt (by omega) c]; omega
      · have := Int.emod_lt_of_pos (b.getD 0 0) hm; omega
    simp only [numR]
    omega
  | i + 1 => by
    have h1 := num_bound hb hd hm i
    have h2 := digit_bound hb hd (i + 1)
    simp only [numR, Int.pow_succ]
    omega
theorem p_num (b : List Int) (n : Int) (d : Int) (h : c_num b n d) : m_num 100 b n d = some (r_num b n d) := by
  obtain ⟨⟨hl, hb⟩, h1, hn1, hn4, hd0, hd1⟩ := h
  have b0 := byte_at hb 0
  have t0 : (0 : Int).toNat = 0 := rfl
  unfold m_num r_num numP
  simp only [t0]
  by_cases c : n = 1
  · rw [if_pos (by simp [c]), if_pos (by omega), if_pos c, wI64 (by omega)]
  rw [if_neg (by simpa using c), if_pos (by omega), wI64 (x := 7 - n) (by omega), if_pos (by omega), if_neg c, wI64 (x := b.getD 0 0) (by omega)]
  have hmask : Go.IntKind.wrap .i64 ((BitVec.ofInt 64 (b.getD 0 0) &&& BitVec.ofInt 64 (Go.IntKind.wrap .i64 ((Go.IntKind.wrap .i64 ((1 : Int) * 2 ^ min (7 - n).toNat 64)) - (1 : Int)))).toNat : Int) = numR b d (2 ^ (7 - n).toNat) 0 := by
    have hn : n = 2 ∨ n = 3 ∨ n = 4 := by omega
    rcases hn with rfl | rfl | rfl
    · exact and_mod (k := 5) _ rfl (by omega) (by omega)
    · exact and_mod (k := 4) _ rfl (by omega) (by omega)
    · exact and_mod (k := 3) _ rfl (by omega) (by omega)
  rw [hmask]
  generalize hM : (2 : Int) ^ (7 - n).toNat = M
  have hM0 : 0 < M := by
    have hn : n = 2 ∨ n = 3 ∨ n = 4 := by omega
    rcases hn with rfl | rfl | rfl <;> (subst hM; decide)
  refine loop_to (fun dd => ∃ i : Nat, 1 ≤ i ∧ (i : Int) ≤ n ∧ dd = (b, n, d, numR b d M (i - 1), (i : Int), ())) (fun dd => 100 - 1 - dd.2.2.2.2.1.toNat) ?_ ⟨1, by omega, by omega, rfl⟩ (by simp only; omega)
  rintro dd ⟨i, hi1, hi, rfl⟩
  simp only [Int.toNat_natCast]
  by_cases ci : (i : Int) = n
  · left; intro again
    rw [if_neg (by simp; omega), show i - 1 = (n - 1).toNat by omega]
  · right
    have hbd := num_bound hb ⟨hd0, hd1⟩ hM0 (i - 1)
    have hp : (64 : Int) ^ (i - 1) ≤ 4096 := by
      have : i - 1 = 0 ∨ i - 1 = 1 ∨ i - 1 = 2 := by omega
      rcases this with h | h | h <;> rw [h] <;> decide
    have hdg := digit_bound hb ⟨hd0, hd1⟩ i
    refine ⟨(b, n, d, numR b d M i, ((i + 1 : Nat) : Int), ()), fun again => ?_, ⟨i + 1, by omega, by omega, rfl⟩, by simp only [Int.toNat_natCast]; omega⟩
    have hR : numR b d M i = numR b d M (i - 1) * 64 + digit b d i := by
      obtain ⟨j, rfl⟩ : ∃ j, i = j + 1 := ⟨i - 1, by omega⟩
      rfl
    rw [if_pos (by simp; omega)]
    by_cases cl : i < b.length
    · have bi := byte_at hb i
      have ea : Go.IntKind.wrap .i64 ((BitVec.ofInt 64 (Go.IntKind.wrap .i64 (b.getD i 0)) &&& BitVec.ofInt 64 (63 : Int)).toNat : Int) = digit b d i := by
        rw [wI64 (x := b.getD i 0) (by omega), and_mod (k := 6) 63 rfl (by omega) (by omega)]
        unfold digit
        rw [if_pos cl]; rfl
      rw [if_pos (by simp; omega), if_pos (by omega), ea, or_add (by omega) hdg, wI64 (x := (i : Int) + 1) (by omega), ← hR]
      rfl
    · have ed : digit b d i = d := by unfold digit; rw [if_neg cl]
      rw [ed] at hR hdg
      rw [if_neg (by simp; omega), or_add (by omega) hdg, wI64 (x := (i : Int) + 1) (by omega), ← hR]
      rfl
theorem charP_cons (a : Int) (t : List Int) (ht : 1 ≤ t.length) (n : Nat) (m : Int) (hn : t.length + 1 = n) (hm : Int.fdiv 127 (2 ^ min ((n : Int)).toNat 64) = m) : charP (a :: t) = charGo (and64 (Go.IntKind.wrap .i64 a) m) t := by
  unfold charP
  rw [if_pos (by simp only [List.length_cons]; omega), List.length_cons, hn, hm]
  rfl
theorem char_num {l : List Int} (hb : ∀ x ∈ l, 0 ≤ x ∧ x ≤ 255) (h1 : 1 ≤ l.length) (h4 : l.length ≤ 4) : charP l = numP l l.length 0 := by
  have step : ∀ {r x : Int}, 0 ≤ r ∧ r < 1073741824 → 0 ≤ x ∧ x ≤ 255 → or64 (Go.IntKind.wrap .i64 (r * 2 ^ min (6 : Int).toNat 64)) (Go.IntKind.wrap .i64 (and8 x 63)) = r * 64 + x % 64 := by
    intro r x hr hx
    rw [and8_63 hx, wI64 (x := x % 64) (by omega)]
    exact or_add hr (by omega)
  match l, h1, h4 with
  | [a], _, _ =>
    have ha := hb a (by simp)
    simp [charP, charGo, numP]
    rw [wI64 (by omega)]
  | [a, b], _, _ =>
    have ha := hb a (by simp)
    have hb' := hb b (by simp)
    have e : and64 (Go.IntKind.wrap .i64 a) 31 = a % 32 := by rw [wI64 (by omega)]; exact and_mod (k := 5) 31 rfl (by omega) (by omega)
    have e1 : charP [a, b] = or64 (Go.IntKind.wrap .i64 (and64 (Go.IntKind.wrap .i64 a) 31 * 2 ^ min (6 : Int).toNat 64)) (Go.IntKind.wrap .i64 (and8 b 63)) := charP_cons a [b] (by simp) 2 31 rfl (by decide)
    have e2 : numP [a, b] ([a, b] : List Int).length 0 = a % 32 * 64 + b % 64 := rfl
    rw [e1, e2, e, step (by omega) hb']
  | [a, b, c], _, _ =>
    have ha := hb a (by simp)
    have hb' := hb b (by simp)
    have hc := hb c (by simp)
    have e : and64 (Go.IntKind.wrap .i64 a) 15 = a % 16 := by rw [wI64 (by omega)]; exact and_mod (k := 4) 15 rfl (by omega) (by omega)
    have e1 : charP [a, b, c] = or64 (Go.IntKind.wrap .i64 (or64 (Go.IntKind.wrap .i64 (and64 (Go.IntKind.wrap .i64 a) 15 * 2 ^ min (6 : Int).toNat 64)) (Go.IntKind.wrap .i64 (and8 b 63)) * 2 ^ min (6 : Int).toNat 64)) (Go.IntKind.wrap .i64 (and8 c 63)) := charP_cons a [b, c] (by simp) 3 15 rfl (by decide)
    have e2 : numP [a, b, c] ([a, b, c] : List Int).length 0 = (a % 16 * 64 + b % 64) * 64 + c % 64 := rfl
    rw [e1, e2, e, step (by omega) hb', step (by omega) hc]
  | [a, b, c, d], _, _ =>
    have ha := hb a (by simp)
    have hb' := hb b (by simp)
    have hc := hb c (by simp)
    have hd := hb d (by simp)
    have e : and64 (Go.IntKind.wrap .i64 a) 7 = a % 8 := by rw [wI64 (by omega)]; exact and_mod (k := 3) 7 rfl (by omega) (by omega)
    have e1 : charP [a, b, c, d] = or64 (Go.IntKind.wrap .i64 (or64 (Go.IntKind.wrap .i64 (or64 (Go.IntKind.wrap .i64 (and64 (Go.IntKind.wrap .i64 a) 7 * 2 ^ min (6 : Int).toNat 64)) (Go.IntKind.wrap .i64 (and8 b 63)) * 2 ^ min (6 : Int).toNat 64)) (Go.IntKind.wrap .i64 (and8 c 63)) * 2 ^ min (6 : Int).toNat 64)) (Go.IntKind.wrap .i64 (and8 d 63)) := charP_cons a [b, c, d] (by simp) 4 7 rfl (by decide)
    have e2 : numP [a, b, c, d] ([a, b, c, d] : List Int).length 0 = ((a % 8 * 64 + b % 64) * 64 + c % 64) * 64 + d % 64 := rfl
    rw [e1, e2, e, step (by omega) hb', step (by omega) hc, step (by omega) hd]
/-! ### beginnings -/
theorem p_flush (d_0 : List Int) (h : c_flush d_0) : m_flush d_0 = some (r_flush d_0) := by
  unfold m_flush r_flush flushP
  by_cases c : d_0.length = 0
  · rw [if_neg (by simp [c])]; simp [c]
  · rw [if_pos (by simpa using c), need_eq (show Len ((d_0, ())).1 from h)]
    simp only [bindv]
    cases hv : validP d_0 <;> simp [c]
theorem p_rsize (b : Int) (h : c_rsize b) : m_rsize b = some (r_rsize b) := by
  unfold m_rsize r_rsize sizeP
  by_cases h1 : b < 128 <;> by_cases h2 : b ≥ 194 <;> by_cases h3 : b < 224 <;> by_cases h4 : b ≥ 224 <;> by_cases h5 : b < 240 <;> by_cases h6 : b ≥ 240 <;> by_cases h7 : b < 245 <;> first | (exfalso; omega) | (simp [h1, h2, h3, h4, h5, h6, h7]; try (repeat' split) <;> first | rfl | omega)
def low (n : Int) : Int := ([0, 0, 128, 2048, 65536] : List Int).getD n.toNat 0
/-- Digits that can follow: the numbers that may come are those of characters. -/
theorem range_ok (b : List Int) (hb : ∀ x ∈ b, 0 ≤ x ∧ x ≤ 255) (h1 : 1 ≤ b.length) (hs : (b.length : Int) ≤ sizeP (b.getD 0 0)) (hd : ∀ i, 1 ≤ i → i < b.length → 128 ≤ b.getD i 0 ∧ b.getD i 0 ≤ 191) :
    (numP b (sizeP (b.getD 0 0)) 63 < low (sizeP (b.getD 0 0)) ∨ 1114111 < numP b (sizeP (b.getD 0 0)) 0 ∨ (55296 ≤ numP b (sizeP (b.getD 0 0)) 0 ∧ numP b (sizeP (b.getD 0 0)) 63 ≤ 57343)) ↔ ¬ (List.range b.length).all (okAt b) = true := by
  have hall : (List.range b.length).all (okAt b) = true ↔ (b.length ≤ 1 ∨ secondP (b.getD 0 0) (b.getD 1 0) = true) := by
    rw [List.all_eq_true]
    constructor
    · intro h
      rcases Nat.lt_or_ge 1 b.length with hl | hl
      case inr => exact .inl hl
      right
      have := h 1 (List.mem_range.2 hl)
      unfold okAt at this
      rwa [if_neg (by omega), if_pos rfl] at this
    · intro h i hi
      have hi := List.mem_range.1 hi
      unfold okAt
      by_cases e0 : i = 0
      · rw [if_pos e0]
      by_cases e1 : i = 1
      · rw [if_neg e0, if_pos e1, e1]; exact h.resolve_left (by omega)
      · rw [if_neg e0, if_neg e1, decide_eq_true_eq]; exact hd i (by omega) hi
  rw [hall]
  have hn : sizeP (b.getD 0 0) = 1 ∧ b.getD 0 0 < 128 ∨ sizeP (b.getD 0 0) = 2 ∧ 194 ≤ b.getD 0 0 ∧ b.getD 0 0 ≤ 223 ∨ sizeP (b.getD 0 0) = 3 ∧ 224 ≤ b.getD 0 0 ∧ b.getD 0 0 ≤ 239 ∨ sizeP (b.getD 0 0) = 4 ∧ 240 ≤ b.getD 0 0 ∧ b.getD 0 0 ≤ 244 := by
    have := byte_at hb 0
    unfold sizeP at *
    repeat' split at hs
    all_goals first | (rename_i h; simp_all; done) | omega
  have a0 := byte_at hb 0
  have hd1 : b.length ≤ 1 ∨ (128 ≤ b.getD 1 0 ∧ b.getD 1 0 ≤ 191) := by
    rcases Nat.lt_or_ge 1 b.length with h | h
    · exact .inr (hd 1 (by omega) h)
    · exact .inl h
  have hd2 : b.length ≤ 2 ∨ (128 ≤ b.getD 2 0 ∧ b.getD 2 0 ≤ 191) := by
    rcases Nat.lt_or_ge 2 b.length with h | h
    · exact .inr (hd 2 (by omega) h)
    · exact .inl h
  have hd3 : b.length ≤ 3 ∨ (128 ≤ b.getD 3 0 ∧ b.getD 3 0 ≤ 191) := by
    rcases Nat.lt_or_ge 3 b.length with h | h
    · exact .inr (hd 3 (by omega) h)
    · exact .inl h
  have hsec : secondP (b.getD 0 0) (b.getD 1 0) = true ↔ ((if b.getD 0 0 = 224 then 160 else if b.getD 0 0 = 240 then 144 else 128) ≤ b.getD 1 0 ∧ b.getD 1 0 ≤ (if b.getD 0 0 = 237 then 159 else if b.getD 0 0 = 244 then 143 else 191)) := by
    unfold secondP; rw [decide_eq_true_eq]
  rw [hsec]
  have n1 : ∀ d, numP b 1 d = b.getD 0 0 := fun d => rfl
  have n2 : ∀ d, numP b 2 d = b.getD 0 0 % 32 * 64 + digit b d 1 := fun d => rfl
  have n3 : ∀ d, numP b 3 d = (b.getD 0 0 % 16 * 64 + digit b d 1) * 64 + digit b d 2 := fun d => rfl
  have n4 : ∀ d, numP b 4 d = ((b.getD 0 0 % 8 * 64 + digit b d 1) * 64 + digit b d 2) * 64 + digit b d 3 := fun d => rfl
  have l1 : low 1 = 0 := rfl
  have l2 : low 2 = 128 := rfl
  have l3 : low 3 = 2048 := rfl
  have l4 : low 4 = 65536 := rfl
  generalize b.getD 0 0 = x at *
  unfold digit at n2 n3 n4
  generalize b.getD 1 0 = y at *
  generalize b.getD 2 0 = z at *
  generalize b.getD 3 0 = t at *
  rcases hn with ⟨e, hx⟩ | ⟨e, hx⟩ | ⟨e, hx⟩ | ⟨e, hx⟩
  · rw [e] at hs ⊢
    rw [n1, n1, l1]
    omega
  · rw [e] at hs ⊢
    rw [n2, n2, l2]
    repeat' split
    all_goals omega
  · rw [e] at hs ⊢
    rw [n3, n3, l3]
    by_cases k1 : 1 < b.length <;> by_cases k2 : 2 < b.length <;> simp only [k1, k2, if_true, if_false] <;> repeat' split
    all_goals omega
  · rw [e] at hs ⊢
    rw [n4, n4, l4]
    by_cases k1 : 1 < b.length <;> by_cases k2 : 2 < b.length <;> by_cases k3 : 3 < b.length <;> simp only [k1, k2, k3, if_true, if_false] <;> repeat' split
    all_goals omega
theorem p_prefix (b : List Int) (h : c_prefix b) : m_prefix 100 b = some (r_prefix b) := by
  obtain ⟨hl, hb⟩ := h
  have t0 : (0 : Int).toNat = 0 := rfl
  have hF : ∀ p : Bool × Bool, partP b = p → p = (false, false) → some (r_prefix b) = some ⟨.tup [(false, [(none, ⟨.bool, false⟩)]), (false, [(none, ⟨.bool, false⟩)])], []⟩ := fun p h1 h2 => by
    unfold r_prefix; rw [h1, h2]; rfl
  unfold m_prefix
  by_cases c0 : b.length = 0
  · rw [if_neg (by simp [c0]), hF _ rfl (by unfold partP; rw [if_pos (Or.inl c0)])]
  rw [if_pos (by simp; omega), if_pos (by omega)]
  simp only [bindv, t0]
  have hsz : sizeP (b.getD 0 0) ≤ 4 ∧ 0 ≤ sizeP (b.getD 0 0) := by unfold sizeP; repeat' split <;> omega
  by_cases c1 : sizeP (b.getD 0 0) = 0
  · rw [if_neg (by rw [c1]; simp), hF _ rfl (by unfold partP; rw [if_pos (Or.inr (by omega))])]
  rw [if_pos (by simpa using c1)]
  by_cases c2 : sizeP (b.getD 0 0) < b.length
  · rw [if_pos (by simpa using c2), hF _ rfl (by unfold partP; rw [if_pos (Or.inr c2)])]
  rw [if_neg (by simpa using c2)]
  have hp : partP b = if (List.range b.length).all (okAt b) = true then (decide ((b.length : Int) ≠ sizeP (b.getD 0 0)), decide ((b.length : Int) = sizeP (b.getD 0 0))) else (false, false) := by
    unfold partP; rw [if_neg (by omega)]
  refine loop_to (fun d => ∃ i : Nat, 1 ≤ i ∧ i ≤ b.length ∧ d = (b, sizeP (b.getD 0 0), (i : Int), ()) ∧ ∀ j, 1 ≤ j → j < i → 128 ≤ b.getD j 0 ∧ b.getD j 0 ≤ 191) (fun d => b.length - d.2.2.1.toNat) ?_ ⟨1, by omega, by omega, rfl, fun j _ _ => by omega⟩ (by simp only; omega)
  rintro d ⟨i, hi1, hi, rfl, hok⟩
  simp only [Int.toNat_natCast]
  by_cases ci : i = b.length
  · left; intro again
    subst ci
    have hr := range_ok b hb (by omega) (by omega) hok
    rw [if_neg (by simp), need_eq ⟨⟨hl, hb⟩, by omega, by omega, by omega, by omega, by omega⟩, need_eq ⟨⟨hl, hb⟩, by omega, by omega, by omega, by omega, by omega⟩, if_pos (by simp only [List.length_cons, List.length_nil]; omega), if_pos (by simp only [List.length_cons, List.length_nil]; omega)]
    unfold low at hr
    generalize ([0, 0, 128, 2048, 65536] : List Int).getD (sizeP (b.getD 0 0)).toNat 0 = lo at hr ⊢
    generalize numP b (sizeP (b.getD 0 0)) 0 = least at hr ⊢
    generalize numP b (sizeP (b.getD 0 0)) 63 = most at hr ⊢
    have hbad : (most < lo ∨ 1114111 < least ∨ (55296 ≤ least ∧ most ≤ 57343)) → some (r_prefix b) = some ⟨.tup [(false, [(none, ⟨.bool, false⟩)]), (false, [(none, ⟨.bool, false⟩)])], []⟩ := fun h => hF _ hp (by rw [if_neg (hr.1 h)])
    have hgood : ¬ (most < lo ∨ 1114111 < least ∨ (55296 ≤ least ∧ most ≤ 57343)) → some (r_prefix b) = some ⟨.tup [(false, [(none, ⟨.bool, true⟩)]), (false, [(none, ⟨.bool, (b.length : Int) == sizeP (b.getD 0 0)⟩)])], []⟩ := fun h => by
      have ha : (List.range b.length).all (okAt b) = true := by
        cases hq : (List.range b.length).all (okAt b) with
        | true => rfl
        | false => exact absurd (hr.2 (by rw [hq]; simp)) h
      unfold r_prefix
      rw [hp, if_pos ha]
      have e2 : ((b.length : Int) == sizeP (b.getD 0 0)) = decide ((b.length : Int) = sizeP (b.getD 0 0)) := by
        rw [Bool.eq_iff_iff]; simp
      rw [e2]
      by_cases e : (b.length : Int) = sizeP (b.getD 0 0)
      · simp only [decide_eq_true e, Bool.or_true]
      · simp only [decide_eq_false e, Bool.or_false]
        rw [decide_eq_true e]
    by_cases g1 : most < lo
    · rw [if_neg (by simpa using g1), hbad (.inl g1)]
    rw [if_pos (by simpa using g1)]
    by_cases g2 : 1114111 < least
    · rw [if_neg (by simpa using g2), hbad (.inr (.inl g2))]
    rw [if_pos (by simpa using g2)]
    by_cases g3 : 55296 ≤ least
    · rw [if_pos (by simpa using g3)]
      by_cases g4 : most ≤ 57343
      · rw [if_pos (by simpa using g4), hbad (.inr (.inr ⟨g3, g4⟩))]
      · rw [if_neg (by simpa using g4), hgood (by omega)]
    · rw [if_neg (by simpa using g3), hgood (by omega)]
  · have hlt : i < b.length := by omega
    have bi := byte_at hb i
    by_cases ho : 128 ≤ b.getD i 0 ∧ b.getD i 0 ≤ 191
    · right
      refine ⟨(b, sizeP (b.getD 0 0), ((i + 1 : Nat) : Int), ()), fun again => ?_, ⟨i + 1, by omega, by omega, rfl, fun j h1 h2 => ?_⟩, by simp only [Int.toNat_natCast]; omega⟩
      · rw [if_pos (by simp; omega), if_pos (by omega), and8_192 bi, if_neg (by rw [decide_eq_true ho]; simp), wI64 (x := (i : Int) + 1) (by omega)]
        rfl
      · by_cases e : j = i
        · rw [e]; exact ho
        · exact hok j h1 (by omega)
    · left; intro again
      rw [if_pos (by simp; omega), if_pos (by omega), and8_192 bi, if_pos (by rw [decide_eq_false ho]; rfl)]
      refine (hF _ hp ?_).symm
      rw [all_not hlt (by
        unfold okAt
        rw [if_neg (by omega)]
        split
        · rename_i e
          rw [Bool.eq_false_iff]
          intro hs
          unfold secondP at hs
          rw [decide_eq_true_eq] at hs
          revert hs
          repeat' split
          all_goals omega
        · rw [decide_eq_false_iff_not]; exact ho)]
      rfl
theorem part_excl (l : List Int) : ¬ ((partP l).1 = true ∧ (partP l).2 = true) := by
  unfold partP
  split
  · simp
  split
  · simp
  · simp
theorem p_rvalid (d_0 : List Int) (h : c_rvalid d_0) : m_rvalid d_0 = some (r_rvalid d_0) := by
  unfold m_rvalid r_rvalid validP
  rw [need_eq (show Bytes d_0 from h)]
  simp only [bindv]
  by_cases c : d_0.length = 0
  · rw [if_neg (by simp [c])]; simp [c]
  · rw [if_pos (by simpa using c)]
    have := part_excl d_0
    cases h1 : (partP d_0).1 <;> cases h2 : (partP d_0).2 <;> simp_all
theorem p_rflush (d_0 : List Int) (h : c_rflush d_0) : m_rflush d_0 = some (r_rflush d_0) := by
  unfold m_rflush r_rflush flushP
  rw [need_eq (show Bytes ((d_0, ())).1 from h)]
  simp only [bindv]
  by_cases c : d_0.length = 0
  · cases hv : validP d_0 <;> simp [c]
  · cases hv : validP d_0 <;> simp [c]
/-! ### the reference's decoding -/
noncomputable def fR (d0 : (List Int) × (List Int) × Int × (List Int) × (List Int) × Unit) (again0 : (List Int) × (List Int) × Int × (List Int) × (List Int) × Unit → Option Res) : Option Res :=
 
     if (decide (d0.2.2.1 < (d0.1.length : Int))) = true then (if (([] : List Int).length + d0.2.1.length) * 1 ≤ 140737488355328 ∧ ([] : List Int).length + d0.2.1.length ≤ 9223372036854775807 then (if 0 ≤ d0.2.2.1 ∧ d0.2.2.1 < d0.1.length then (if ((([] : List Int) ++ d0.2.1).length + ([(d0.1.getD d0.2.2.1.toNat (0 : Int))] : List Int).length) * 1 ≤ 140737488355328 ∧ (([] : List Int) ++ d0.2.1).length + ([(d0.1.getD d0.2.2.1.toNat (0 : Int))] : List Int).length ≤ 9223372036854775807 then need (Bytes ((([] : List Int) ++ d0.2.1) ++ ([(d0.1.getD d0.2.2.1.toNat (0 : Int))] : List Int))) (bindv ((partP ((([] : List Int) ++ d0.2.1) ++ ([(d0.1.getD d0.2.2.1.toNat (0 : Int))] : List Int))).1 || (partP ((([] : List Int) ++ d0.2.1) ++ ([(d0.1.getD d0.2.2.1.toNat (0 : Int))] : List Int))).2) fun (r2 : Bool) =>
         bindv ((partP ((([] : List Int) ++ d0.2.1) ++ ([(d0.1.getD d0.2.2.1.toNat (0 : Int))] : List Int))).2) fun (r3 : Bool) =>
         if r2 = true then (if r3 = true then need (Bytes ((([] : List Int) ++ d0.2.1) ++ ([(d0.1.getD d0.2.2.1.toNat (0 : Int))] : List Int)) ∧ 1 ≤ ((([] : List Int) ++ d0.2.1) ++ ([(d0.1.getD d0.2.2.1.toNat (0 : Int))] : List Int)).length ∧ 1 ≤ (((([] : List Int) ++ d0.2.1) ++ ([(d0.1.getD d0.2.2.1.toNat (0 : Int))] : List Int)).length : Int) ∧ (((([] : List Int) ++ d0.2.1) ++ ([(d0.1.getD d0.2.2.1.toNat (0 : Int))] : List Int)).length : Int) ≤ 4 ∧ 0 ≤ (0 : Int) ∧ (0 : Int) ≤ 63) (bindv (numP ((([] : List Int) ++ d0.2.1) ++ ([(d0.1.getD d0.2.2.1.toNat (0 : Int))] : List Int)) (((([] : List Int) ++ d0.2.1) ++ ([(d0.1.getD d0.2.2.1.toNat (0 : Int))] : List Int)).length : Int) (0 : Int)) fun (r4 : Int) =>
           if (d0.2.2.2.2.1.length + ([r4] : List Int).length) * 8 ≤ 140737488355328 ∧ d0.2.2.2.2.1.length + ([r4] : List Int).length ≤ 9223372036854775807 then again0 (d0.1, ([] : List Int), Go.IntKind.wrap .i64 (d0.2.2.1 + (1 : Int)), d0.2.2.2.1, d0.2.2.2.2.1 ++ ([r4] : List Int), ())
           else none)
          else if r2 = true then again0 (d0.1, (([] : List Int) ++ d0.2.1) ++ ([(d0.1.getD d0.2.2.1.toNat (0 : Int))] : List Int), Go.IntKind.wrap .i64 (d0.2.2.1 + (1 : Int)), d0.2.2.2.1, d0.2.2.2.2.1, ())
          else if (decide ((d0.2.1.length : Int) > (0 : Int))) = true then (if (d0.2.2.2.2.1.length + ([65533] : List Int).length) * 8 ≤ 140737488355328 ∧ d0.2.2.2.2.1.length + ([65533] : List Int).length ≤ 9223372036854775807 then again0 (d0.1, ([] : List Int), Go.IntKind.wrap .i64 ((Go.IntKind.wrap .i64 (d0.2.2.1 - (1 : Int))) + (1 : Int)), d0.2.2.2.1, d0.2.2.2.2.1 ++ ([65533] : List Int), ())
           else none)
          else if (d0.2.2.2.2.1.length + ([65533] : List Int).length) * 8 ≤ 140737488355328 ∧ d0.2.2.2.2.1.length + ([65533] : List Int).length ≤ 9223372036854775807 then again0 (d0.1, d0.2.1, Go.IntKind.wrap .i64 (d0.2.2.1 + (1 : Int)), d0.2.2.2.1, d0.2.2.2.2.1 ++ ([65533] : List Int), ())
          else none)
         else if r2 = true then again0 (d0.1, (([] : List Int) ++ d0.2.1) ++ ([(d0.1.getD d0.2.2.1.toNat (0 : Int))] : List Int), Go.IntKind.wrap .i64 (d0.2.2.1 + (1 : Int)), d0.2.2.2.1, d0.2.2.2.2.1, ())
         else if (decide ((d0.2.1.length : Int) > (0 : Int))) = true then (if (d0.2.2.2.2.1.length + ([65533] : List Int).length) * 8 ≤ 140737488355328 ∧ d0.2.2.2.2.1.length + ([65533] : List Int).length ≤ 9223372036854775807 then again0 (d0.1, ([] : List Int), Go.IntKind.wrap .i64 ((Go.IntKind.wrap .i64 (d0.2.2.1 - (1 : Int))) + (1 : Int)), d0.2.2.2.1, d0.2.2.2.2.1 ++ ([65533] : List Int), ())
          else none)
         else if (d0.2.2.2.2.1.length + ([65533] : List Int).length) * 8 ≤ 140737488355328 ∧ d0.2.2.2.2.1.length + ([65533] : List Int).length ≤ 9223372036854775807 then again0 (d0.1, d0.2.1, Go.IntKind.wrap .i64 (d0.2.2.1 + (1 : Int)), d0.2.2.2.1, d0.2.2.2.2.1 ++ ([65533] : List Int), ())
         else none)
        else none)
       else none)
      else none)
     else some ⟨.tup [(true, [(none, ⟨.slice (.int .u8), d0.2.1⟩)]), (false, [(some 3, ⟨.slice (.int .i64), d0.2.2.2.2.1⟩)])], []⟩
theorem rdec_key (b : List Int) (hb : (b.length : Int) ≤ 1099511627776) (hbb : ∀ x ∈ b, 0 ≤ x ∧ x ≤ 255) (z r : List Int) (hr : validP r = true) (hrb : ∀ x ∈ r, 0 ≤ x ∧ x ≤ 255) : loopN fR 9000000000000 (b, r, (0 : Int), z, ([] : List Int), ()) = some (rD (decGo r b).1 (decGo r b).2) := by
  let m : (List Int) × (List Int) × Int × (List Int) × (List Int) × Unit → Nat := fun d => 2 * (b.length - d.2.2.1.toNat) + (if 0 < d.2.1.length then 1 else 0)
  refine loop_run (fun d => ∃ (i : Nat) (r o : List Int), i ≤ b.length ∧ validP r = true ∧ (∀ x ∈ r, 0 ≤ x ∧ x ≤ 255) ∧ o.length + (2 * (b.length - i) + (if 0 < r.length then 1 else 0)) ≤ 2 * b.length + 1 ∧ d = (b, r, (i : Int), z, o, ())) m
    (fun d => some (rD (decGo d.2.1 (b.drop d.2.2.1.toNat)).1 (d.2.2.2.2.1 ++ (decGo d.2.1 (b.drop d.2.2.1.toNat)).2))) ?_ 9000000000000 (b, r, (0 : Int), z, ([] : List Int), ())
    ⟨0, r, [], by omega, hr, hrb, by simp only [List.length_nil]; split <;> omega, rfl⟩ (by simp only [m, Int.toNat_zero]; split <;> omega)
  rintro d ⟨i, r, o, hi, hv, hbr, ho, rfl⟩
  unfold fR
  simp only [m, bindv, Int.toNat_natCast, List.nil_append, List.length_nil, Nat.zero_add]
  have hrl := valid_len hv
  by_cases ci : i = b.length
  · left; intro again
    rw [if_neg (by simp; omega), ci, List.drop_length]
    simp [decGo, rD]
  · right
    have hlt : i < b.length := by omega
    have hdrop := drop_getD b i 0 hlt
    have hnl : (r ++ [b.getD i 0]).length = r.length + 1 := by simp
    have hol : o.length ≤ 2 * b.length := by split at ho <;> omega
    have hbw : ∀ x ∈ r ++ [b.getD i 0], 0 ≤ x ∧ x ≤ 255 := by
      intro x hx
      rcases List.mem_append.1 hx with hx | hx
      · exact hbr x hx
      · simp only [List.mem_singleton] at hx; subst hx; exact byte_at hbb i
    have hB : Bytes (r ++ [b.getD i 0]) := ⟨by rw [hnl]; omega, hbw⟩
    have hnil : ∀ x ∈ ([] : List Int), 0 ≤ x ∧ x ≤ 255 := fun x hx => by simp at hx
    by_cases c1 : (partP (r ++ [b.getD i 0])).1 = true
    · have c2 : ¬ (partP (r ++ [b.getD i 0])).2 = true := fun h => part_excl _ ⟨c1, h⟩
      refine ⟨(b, r ++ [b.getD i 0], (i : Int) + 1, z, o, ()), fun again => ?_, ?_, ⟨i + 1, r ++ [b.getD i 0], o, by omega, (by unfold validP; rw [c1]; simp), hbw, ?_, rfl⟩, ?_⟩
      · rw [if_pos (by simp; omega), if_pos (by omega), if_pos (by omega), if_pos (by simp; omega), need_eq hB, if_pos (by rw [c1]; rfl), if_neg c2, if_pos (by rw [c1]; rfl), wI64 (by omega)]
      · have hf : feed r (b.getD i 0) = (r ++ [b.getD i 0], []) := by unfold feed; rw [if_pos c1]
        rw [hdrop]
        simp only [decGo, hf]
        rw [show ((i : Int) + 1).toNat = i + 1 by omega, List.nil_append]
      · rw [if_pos (by omega)]; split at ho <;> omega
      · dsimp only
        rw [if_pos (by simp), show ((i : Int) + 1).toNat = i + 1 by omega]; split <;> omega
    by_cases c2 : (partP (r ++ [b.getD i 0])).2 = true
    · have h4 := part_len (.inr c2)
      have hcn := char_num hbw h4.1 h4.2
      refine ⟨(b, [], (i : Int) + 1, z, o ++ [charP (r ++ [b.getD i 0])], ()), fun again => ?_, ?_, ⟨i + 1, [], o ++ [charP (r ++ [b.getD i 0])], by omega, rfl, hnil, ?_, rfl⟩, ?_⟩
      · rw [if_pos (by simp; omega), if_pos (by omega), if_pos (by omega), if_pos (by simp; omega), need_eq hB, if_pos (by rw [c2]; simp), if_pos c2, need_eq ⟨hB, h4.1, by omega, by omega, by omega, by omega⟩, if_pos (by simp; omega), wI64 (by omega), ← hcn]
      · have hf : feed r (b.getD i 0) = ([], [charP (r ++ [b.getD i 0])]) := by unfold feed; rw [if_neg c1, if_pos c2]
        rw [hdrop]
        simp only [decGo, hf]
        rw [show ((i : Int) + 1).toNat = i + 1 by omega, List.append_assoc]
      · rw [List.length_append, if_neg (by simp)]; simp only [List.length_cons, List.length_nil]; split at ho <;> omega
      · dsimp only
        rw [if_neg (by simp), show ((i : Int) + 1).toNat = i + 1 by omega]; split <;> omega
    have c12 : ¬ ((partP (r ++ [b.getD i 0])).1 || (partP (r ++ [b.getD i 0])).2) = true := by
      rw [Bool.or_eq_true]; exact fun h => h.elim c1 c2
    by_cases c3 : 0 < r.length
    · refine ⟨(b, [], (i : Int), z, o ++ [65533], ()), fun again => ?_, ?_, ⟨i, [], o ++ [65533], by omega, rfl, hnil, ?_, rfl⟩, ?_⟩
      · rw [if_pos (by simp; omega), if_pos (by omega), if_pos (by omega), if_pos (by simp; omega), need_eq hB, if_neg c12, if_neg c12, if_pos (by simp; omega), if_pos (by simp; omega), wI64 (x := (i : Int) - 1) (by omega), wI64 (by omega), show (i : Int) - 1 + 1 = i by omega]
      · have hf : feed r (b.getD i 0) = ((feed0 (b.getD i 0)).1, 65533 :: (feed0 (b.getD i 0)).2) := by unfold feed; rw [if_neg c1, if_neg c2, if_pos c3]
        simp only [Int.toNat_natCast]
        rw [hdrop]
        simp only [decGo, hf, feed_nil]
        simp
      · rw [List.length_append, if_neg (by simp)]; simp only [List.length_cons, List.length_nil]; rw [if_pos c3] at ho; omega
      · simp only [Int.toNat_natCast]
        rw [if_neg (by simp), if_pos c3]; omega
    · have hr0 : r = [] := List.eq_nil_of_length_eq_zero (by omega)
      subst hr0
      refine ⟨(b, [], (i : Int) + 1, z, o ++ [65533], ()), fun again => ?_, ?_, ⟨i + 1, [], o ++ [65533], by omega, rfl, hnil, ?_, rfl⟩, ?_⟩
      · rw [if_pos (by simp; omega), if_pos (by simp), if_pos (by omega), if_pos (by simp), need_eq hB, if_neg c12, if_neg c12, if_neg (by simp), if_pos (by simp; omega), wI64 (by omega)]
      · have hf : feed [] (b.getD i 0) = ([], [65533]) := by unfold feed; rw [if_neg c1, if_neg c2, if_neg (by simp)]
        rw [hdrop]
        simp only [decGo, hf]
        rw [show ((i : Int) + 1).toNat = i + 1 by omega, List.append_assoc]
      · rw [List.length_append, if_neg (by simp)]; simp only [List.length_cons, List.length_nil]; rw [if_neg (by simp)] at ho; omega
      · dsimp only
        rw [show ((i : Int) + 1).toNat = i + 1 by omega]; simp only [List.length_nil, Nat.lt_irrefl, if_false]; omega
theorem p_rdec (d_0 : List Int) (b : List Int) (h : c_rdec d_0 b) : m_rdec 9000000000000 d_0 b = some (r_rdec d_0 b) := by
  obtain ⟨h1, h2⟩ := h
  have h1' : Bytes d_0 := h1
  have hl := h1'.1
  unfold m_rdec
  rw [need_eq (show Bytes ((d_0, ())).1 from h1)]
  unfold r_rdec decP
  by_cases c : validP d_0 = true
  · have hk := rdec_key b h2.1 h2.2 [] d_0 c h1'.2
    show (if validP d_0 = true then _ else _) = _
    rw [if_pos c, if_pos (by simp; omega), if_pos c]
    exact hk
  · have hk := rdec_key b h2.1 h2.2 [] [] rfl (fun x hx => by simp at hx)
    show (if validP d_0 = true then _ else _) = _
    rw [if_neg c, if_neg c]
    exact hk
theorem table_bytes : ∀ x ∈ table, 0 ≤ x ∧ x ≤ 255 := by decide
theorem oddGo_bytes : ∀ (n : Nat) (d : Deck), ∀ x ∈ oddGo n d, 0 ≤ x ∧ x ≤ 255
  | 0, _, x, hx => by simp [oddGo] at hx
  | n + 1, d, x, hx => by
    simp only [oddGo] at hx
    split at hx
    · rcases List.mem_cons.1 hx with rfl | hx
      · exact byte_at table_bytes _
      · exact oddGo_bytes n _ x hx
    · simp at hx
theorem p_runesDecodes (rest : List Int) (raw : List Int) (l : List Int) (h : WfT [.slice (.int .u8), .slice (.int .u8), .slice (.int .i64)] (rest, raw, l, ())) : m_runesDecodes 10 10 rest raw l = resB true := by
  obtain ⟨hrest, hraw, hl, _⟩ := h
  have hL : ListOk l := ⟨by have := hl.1; simp only at this; omega, fun x hx => wf64 (hl.2 x hx)⟩
  unfold m_runesDecodes
  by_cases c : (6 : Int) < rest.length
  · rw [if_neg (by simpa using c)]
  rw [if_pos (by simpa using c)]
  by_cases c2 : (200 : Int) < raw.length
  · rw [if_pos (by simpa using c2)]
  rw [if_neg (by simpa using c2), need_eq hL]
  have ho : (oddP l).length ≤ 60 := oddGo_len 60 _
  have hob : ∀ x ∈ oddP l, 0 ≤ x ∧ x ≤ 255 := oddGo_bytes 60 _
  rw [minK_eq]
  rw [if_pos (by omega)]
  generalize hDS : ([(([] : List Int), ()), (rest, ()), (((oddP l).take (min ((oddP l).length : Int) (2 : Int)).toNat).drop (0 : Int).toNat, ())] : List ((List Int) × Unit)) = DS
  have hds : DS.length = 3 ∧ ∀ d ∈ DS, d.1.length ≤ 60 ∧ ∀ x ∈ d.1, 0 ≤ x ∧ x ≤ 255 := by
    subst hDS
    refine ⟨rfl, fun d hd => ?_⟩
    simp only [List.mem_cons, List.not_mem_nil, or_false] at hd
    rcases hd with rfl | rfl | rfl
    · exact ⟨by simp, fun x hx => by simp at hx⟩
    · exact ⟨by simp only; omega, fun x hx => wfu8 (hrest.2 x hx)⟩
    · refine ⟨by simp only [List.length_drop, List.length_take]; omega, fun x hx => hob x (List.mem_of_mem_take (List.mem_of_mem_drop hx))⟩
  obtain ⟨hd3, hds⟩ := hds
  generalize oddP l = X at ho hob
  refine loop_to (fun d => ∃ i : Nat, i ≤ 3 ∧ d = (raw, 3, (i : Int), X, DS, ())) (fun d => 3 - d.2.2.1.toNat) ?_ ⟨0, by omega, by rw [hd3]; rfl⟩ (by simp only; omega)
  rintro d ⟨i, hi, rfl⟩
  simp only [Int.toNat_natCast]
  by_cases ci : i = 3
  · left; intro again
    rw [if_neg (by simp; omega)]
  right
  refine ⟨(raw, 3, ((i + 1 : Nat) : Int), X, DS, ()), fun again => ?_, ⟨i + 1, by omega, rfl⟩, by simp only [Int.toNat_natCast]; omega⟩
  have hlt : i < DS.length := by omega
  rw [if_pos (by simp; omega), if_pos (by omega), if_pos (by omega)]
  obtain ⟨hr1, hr2⟩ := hds _ (getD_mem DS i (([] : List Int), ()) hlt)
  generalize (DS.getD i (([] : List Int), ())).1 = R at hr1 hr2
  have hLR : Len R := by unfold Len; omega
  have hBR : Bytes R := ⟨by omega, hr2⟩
  have hBS : ∀ j : Nat, j < 2 → (([raw, X] : List (List Int)).getD j []).length ≤ 200 ∧ ∀ x ∈ ([raw, X] : List (List Int)).getD j [], 0 ≤ x ∧ x ≤ 255 := by
    intro j hj
    have : j = 0 ∨ j = 1 := by omega
    rcases this with rfl | rfl
    · exact ⟨by show raw.length ≤ 200; omega, fun x hx => wfu8 (hraw.2 x hx)⟩
    · exact ⟨by show X.length ≤ 200; omega, hob⟩
  have hbs2 : (([raw, X] : List (List Int)).length : Int) = 2 := rfl
  generalize ([raw, X] : List (List Int)) = BS at hBS hbs2
  refine loop_to (fun d => ∃ j : Nat, j ≤ 2 ∧ d = (raw, 3, (i : Int), 2, (j : Int), X, DS, R, BS, ())) (fun d => 2 - d.2.2.2.2.1.toNat) ?_ ⟨0, by omega, by rw [hbs2]; rfl⟩ (by simp only; omega)
  rintro d ⟨j, hj, rfl⟩
  simp only [Int.toNat_natCast]
  by_cases cj : j = 2
  · left; intro again1
    rw [if_neg (by simp; omega), wI64 (by omega)]
    rfl
  right
  refine ⟨(raw, 3, (i : Int), 2, ((j + 1 : Nat) : Int), X, DS, R, BS, ()), fun again1 => ?_, ⟨j + 1, by omega, rfl⟩, by simp only [Int.toNat_natCast]; omega⟩
  have hBl : (BS.length : Int) = 2 := hbs2
  obtain ⟨hb1, hb2⟩ := hBS j (by omega)
  rw [if_pos (by simp; omega), if_pos (by omega), if_pos (by omega)]
  generalize BS.getD j ([] : List Int) = B at hb1 hb2
  have hLB : Len B := by unfold Len; omega
  have hBB : Bytes B := ⟨by omega, hb2⟩
  have hval : validP (decP R B).1 = true := by
    unfold decP
    exact dec_valid B _ (by split; · assumption
                            · rfl)
  have hvl := valid_len hval
  have hdl : (decP R B).2.length ≤ 400 := by
    have := dec_len B (if validP R = true then R else [])
    unfold decP; omega
  have hfl : (flushP R).length ≤ 1 := by unfold flushP; split <;> simp
  rw [need_eq ⟨hLR, hLB⟩]
  simp only [bindv]
  rw [need_eq ⟨hBR, hBB⟩, if_pos (by simp), need_eq (show Len (decP R B).2 by unfold Len; omega), if_pos (by simp), need_eq hLR, need_eq hBR, if_pos (by simp), need_eq hLR, need_eq hBR, need_eq (show Len (flushP R) by unfold Len; omega), if_pos (by simp), need_eq (show Len (decP R B).1 by unfold Len; omega), if_neg (by rw [hval]; simp), wI64 (by omega)]
  rfl
end Go.Dec
