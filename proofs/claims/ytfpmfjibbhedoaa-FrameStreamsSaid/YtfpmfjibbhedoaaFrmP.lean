/- What the models of the frames' functions come to: by plain Lean, with no program in sight. -/
import Derived.Test.YtfpmfjibbhedoaaFrmM
import Derived.Lib.Strings
set_option linter.unusedVariables false
set_option linter.unusedSimpArgs false
set_option linter.unnecessarySimpa false
namespace Go.Frm
open Go.Ab Go.RowKit
theorem p_mod (x : Int) (y : Int) (h : c_mod x y) : m_mod x y = some (r_mod x y) := by
  obtain ⟨_, h1, h2⟩ := h
  obtain ⟨g1, g2, g3, g4⟩ := tmod_cases x y h1
  unfold m_mod r_mod
  rw [if_pos (by omega)]
  by_cases h : Int.tmod x y < 0
  · rw [if_pos (by simpa using h), wI64 (by omega), g1 h]
  · rw [if_neg (by simpa using h), g2 (by omega)]
theorem p_clone_nil : m_clone_nil = some (r_clone []) := rfl
theorem p_clone (l : List Int) (h : c_clone l) : m_clone l = some (r_clone l) := by
  have h : (l.length : Int) ≤ 1099511627776 := h
  unfold m_clone r_clone
  rw [if_pos (by simp only [List.length_nil]; omega), List.nil_append]
theorem fdiv8 {x : Int} (h : 0 ≤ x) : Int.fdiv x (2 ^ min (8 : Int).toNat 64) = x / 256 := by
  rw [Int.fdiv_eq_ediv_of_nonneg _ (by decide)]; rfl
theorem fdivs {x : Int} (h : 0 ≤ x) : Int.fdiv x (2 ^ min (8 : Int).toNat 32) = x / 256 ∧ Int.fdiv x (2 ^ min (16 : Int).toNat 32) = x / 65536 ∧ Int.fdiv x (2 ^ min (24 : Int).toNat 32) = x / 16777216 := by
  refine ⟨?_, ?_, ?_⟩ <;> (rw [Int.fdiv_eq_ediv_of_nonneg _ (by decide)]; rfl)
theorem p_enc (b : List Int) (h : c_enc b) : m_enc b = some (r_enc b) := by
  have h : (b.length : Int) ≤ 1099511627776 := h
  unfold m_enc r_enc encF
  by_cases c : (b.length : Int) ≤ 4096
  · obtain ⟨d1, d2, d3⟩ := fdivs (x := (b.length : Int)) (by omega)
    have hw : Go.IntKind.wrap .u32 (b.length : Int) = b.length := by rw [wrapu32_mod]; omega
    rw [if_neg (by simp; omega), if_pos (by simp; omega), if_pos c, hw, d1, d2, d3]
    simp only [wrapu8_mod]
    rw [show (b.length : Int) / 16777216 % 256 = 0 by omega, show (b.length : Int) / 65536 % 256 = 0 by omega]
  · rw [if_pos (by simp; omega), if_neg c]
theorem p_renc (b : List Int) (h : c_renc b) : m_renc b = some (r_renc b) := by
  have h : (b.length : Int) ≤ 1099511627776 := h
  unfold m_renc r_renc encF
  by_cases c : (b.length : Int) ≤ 4096
  · rw [if_neg (by simp; omega), if_pos (by simp; omega), if_pos c, fdiv8 (by omega)]
    simp only [wrapu8_mod]
  · rw [if_pos (by simp; omega), if_neg c]
theorem or_add (w i q a b : Nat) (ha : a = 2 ^ i * q) (hb : b < 2 ^ i) (hs : a + b < 2 ^ w) : (BitVec.ofInt w (a : Int) ||| BitVec.ofInt w (b : Int)).toNat = a + b := by
  rw [BitVec.toNat_or, BitVec.ofInt_natCast, BitVec.ofInt_natCast, BitVec.toNat_ofNat, BitVec.toNat_ofNat, Nat.mod_eq_of_lt (by omega), Nat.mod_eq_of_lt (by omega), ha]
  exact (Nat.two_pow_add_eq_or_of_lt hb q).symm
theorem orI (w i : Nat) {x y : Int} (q : Int) (hx : 0 ≤ x) (hy : 0 ≤ y) (hd : x = 2 ^ i * q) (hq : 0 ≤ q) (hlt : y.toNat < 2 ^ i) (hs : x.toNat + y.toNat < 2 ^ w) : ((BitVec.ofInt w x ||| BitVec.ofInt w y).toNat : Int) = x + y := by
  obtain ⟨a, rfl⟩ : ∃ a : Nat, x = a := ⟨x.toNat, by omega⟩
  obtain ⟨b, rfl⟩ : ∃ a : Nat, y = a := ⟨y.toNat, by omega⟩
  obtain ⟨q, rfl⟩ : ∃ a : Nat, q = a := ⟨q.toNat, by omega⟩
  rw [or_add w i q a b (by exact_mod_cast hd) (by simpa using hlt) (by simpa using hs)]
  simp
def pre (l : List Int) : Nat → Int
  | 0 => 0
  | i + 1 => pre l i * 256 + l.getD i 0
theorem pre4 (l : List Int) : pre l 4 = numP l := by simp only [pre, numP]; omega
theorem bytes_at {l : List Int} (h : ∀ x ∈ l, 0 ≤ x ∧ x ≤ 255) (i : Nat) : 0 ≤ l.getD i 0 ∧ l.getD i 0 ≤ 255 := by
  by_cases c : i < l.length
  · exact h _ (getD_mem l i 0 c)
  · simp [List.getD, List.getElem?_eq_none (by omega : l.length ≤ i)]
theorem pre_bound {l : List Int} (h : ∀ x ∈ l, 0 ≤ x ∧ x ≤ 255) : 0 ≤ pre l 1 ∧ pre l 1 < 256 ∧ 0 ≤ pre l 2 ∧ pre l 2 < 65536 ∧ 0 ≤ pre l 3 ∧ pre l 3 < 16777216 ∧ 0 ≤ pre l 4 ∧ pre l 4 < 4294967296 := by
  have h0 := bytes_at h 0
  have h1 := bytes_at h 1
  have h2 := bytes_at h 2
  have h3 := bytes_at h 3
  simp only [pre]
  omega
theorem pre_lt {l : List Int} (h : ∀ x ∈ l, 0 ≤ x ∧ x ≤ 255) {i : Nat} (hi : i < 4) : 0 ≤ pre l i ∧ pre l i < 16777216 := by
  have := pre_bound h
  have : i = 0 ∨ i = 1 ∨ i = 2 ∨ i = 3 := by omega
  rcases this with rfl | rfl | rfl | rfl
  · simp [pre]
  · omega
  · omega
  · omega
theorem p_num (b : List Int) (h : c_num b) : m_num 10 b = some (r_num b) := by
  obtain ⟨⟨h1, h2⟩, h3⟩ := h
  unfold m_num
  rw [if_pos (by omega)]
  have e4 : (4 : Int).toNat = 4 := rfl
  rw [Int.toNat_zero, List.drop_zero, e4]
  have hl : (b.take 4).length = 4 := by rw [List.length_take]; omega
  have hb : ∀ x ∈ b.take 4, 0 ≤ x ∧ x ≤ 255 := fun x hx => h2 x (List.mem_of_mem_take hx)
  have hn : numP (b.take 4) = numP b := by simp [numP, List.getD, List.getElem?_take]
  have hr : r_num b = r_num (b.take 4) := by unfold r_num; rw [hn]
  rw [hr]
  generalize b.take 4 = l at *
  refine loop_to (fun d => ∃ i : Nat, i ≤ 4 ∧ d = (pre l i, l, 4, (i : Int), ())) (fun d => 4 - d.2.2.2.1.toNat) ?_ ⟨0, by omega, by rw [hl]; rfl⟩ (by simp only; omega)
  rintro d ⟨i, hi, rfl⟩
  simp only
  by_cases ci : i = 4
  · left; intro again
    subst ci
    rw [if_neg (by simp), pre4]; rfl
  · right
    have hp := pre_lt hb (i := i) (by omega)
    have hc := bytes_at hb i
    refine ⟨(pre l (i + 1), l, 4, (i : Int) + 1, ()), fun again => ?_, ⟨i + 1, by omega, by simp⟩, by simp only; omega⟩
    have e8 : (2 : Int) ^ min (8 : Int).toNat 32 = 256 := rfl
    rw [if_pos (by simp; omega), if_pos (by omega), Int.toNat_natCast, wI64 (by omega), e8]
    have w1 : Go.IntKind.wrap .u32 (pre l i * 256) = pre l i * 256 := by rw [wrapu32_mod]; omega
    have w2 : Go.IntKind.wrap .u32 (l.getD i 0) = l.getD i 0 := by rw [wrapu32_mod]; omega
    rw [w1, w2, orI 32 8 (pre l i) (by omega) (by omega) (by omega) (by omega) (by omega) (by omega), wrapu32_mod]
    rw [show (pre l i * 256 + l.getD i 0) % 4294967296 = pre l (i + 1) by simp only [pre]; omega]
theorem num_bound {l : List Int} (h : ∀ x ∈ l, 0 ≤ x ∧ x ≤ 255) : 0 ≤ numP l ∧ numP l < 4294967296 := by
  have := pre_bound h
  rw [← pre4]; omega
theorem splitF_more (b : List Int) : ∀ (n m pos : Nat) (out : List (List Int)), b.length + 1 ≤ n + pos → b.length + 1 ≤ m + pos → pos ≤ b.length → splitF b n pos out = splitF b m pos out
  | 0, _, pos, _, h, _, h' => by omega
  | _, 0, pos, _, _, h, h' => by omega
  | n + 1, m + 1, pos, out, h1, h2, h3 => by
    simp only [splitF]
    split
    · rfl
    split
    · rfl
    split
    · rfl
    · exact splitF_more b n m _ _ (by omega) (by omega) (by omega)
theorem splitF_step {b : List Int} {pos : Nat} {out : List (List Int)} (h : pos ≤ b.length) : splitF b (b.length + 1) pos out =
    (if b.length < pos + 4 then (out, (pos : Int), 0)
    else if 4096 < numP (b.drop pos) then (out, (pos : Int), 1)
    else if b.length < pos + 4 + (numP (b.drop pos)).toNat then (out, (pos : Int), 0)
    else splitF b (b.length + 1) (pos + 4 + (numP (b.drop pos)).toNat) (out ++ [(b.drop (pos + 4)).take (numP (b.drop pos)).toNat])) := by
  rw [splitF]
  split
  · rfl
  split
  · rfl
  split
  · rfl
  · exact splitF_more b _ _ _ _ (by omega) (by omega) (by omega)
def rS (x : List (List Int) × Int × Int) : Res := ⟨.tup [(false, [(some 24, ⟨.slice (.slice (.int .u8)), x.1⟩)]), (false, [(none, ⟨.int .i64, x.2.1⟩)]), (false, [(none, ⟨.int .i64, x.2.2⟩)])], []⟩
theorem drop_bytes {b : List Int} (h : BytesOk b) (i : Nat) : BytesOk (b.drop i) := ⟨by have := h.1; rw [List.length_drop]; omega, fun x hx => h.2 x (List.mem_of_mem_drop hx)⟩
theorem take_drop_eq (b : List Int) (p k : Nat) : (b.take (p + k)).drop p = (b.drop p).take k := by
  rw [List.drop_take]; simp
theorem p_split (b : List Int) (h : c_split b) : m_split 2000000000000 b = some (r_split b) := by
  have hb : BytesOk b := h
  have hl := hb.1
  unfold m_split
  refine loop_run (fun (d : List Int × Int × List (List Int) × Unit) => d.1 = b ∧ ∃ pos : Nat, d.2.1 = pos ∧ pos ≤ b.length ∧ d.2.2.1.length ≤ pos) (fun (d : List Int × Int × List (List Int) × Unit) => b.length - d.2.1.toNat) (fun (d : List Int × Int × List (List Int) × Unit) => some (rS (splitF b (b.length + 1) d.2.1.toNat d.2.2.1))) ?_ _ _ ⟨rfl, 0, rfl, by omega, by simp⟩ (by simp only; omega)
  rintro ⟨b', p', out, ⟨⟩⟩ hI
  simp only at hI ⊢
  obtain ⟨rfl, pos, rfl, hp, ho⟩ := hI
  simp only [Int.toNat_natCast]
  rw [splitF_step hp, wI64 (by omega), List.take_of_length_le (Nat.le_refl _)]
  by_cases c1 : b'.length < pos + 4
  · left; intro again
    rw [if_neg (by simp; omega), if_pos c1]; rfl
  have hnb := num_bound (drop_bytes hb pos).2
  simp only [if_neg c1, bindv]
  by_cases c2 : 4096 < numP (b'.drop pos)
  · left; intro again
    rw [if_pos (by simp; omega), if_pos (by omega), need_eq ⟨drop_bytes hb pos, by rw [List.length_drop]; omega⟩, if_pos (by simpa using c2), if_pos c2]; rfl
  have w1 : Go.IntKind.wrap .i64 ((pos : Int) + 4) = ((pos + 4 : Nat) : Int) := by rw [wI64 (by omega)]; omega
  have w2 : Go.IntKind.wrap .i64 (numP (b'.drop pos)) = ((numP (b'.drop pos)).toNat : Int) := by rw [wI64 (by omega)]; omega
  have w3 : Go.IntKind.wrap .i64 (((pos + 4 : Nat) : Int) + ((numP (b'.drop pos)).toNat : Int)) = ((pos + 4 + (numP (b'.drop pos)).toNat : Nat) : Int) := by rw [wI64 (by omega)]; omega
  rw [if_neg c2, w1, w2, w3]
  by_cases c3 : b'.length < pos + 4 + (numP (b'.drop pos)).toNat
  · left; intro again
    rw [if_pos (by simp; omega), if_pos (by omega), need_eq ⟨drop_bytes hb pos, by rw [List.length_drop]; omega⟩, if_neg (by simp; omega), if_pos (by simp; omega), if_pos c3]; rfl
  · right
    refine ⟨(b', ((pos + 4 + (numP (b'.drop pos)).toNat : Nat) : Int), out ++ [(b'.drop (pos + 4)).take (numP (b'.drop pos)).toNat], ()), fun again => ?_, ?_, ⟨rfl, _, rfl, by omega, by simp; omega⟩, by simp only [Int.toNat_natCast]; omega⟩
    · rw [if_pos (by simp; omega), if_pos (by omega), need_eq ⟨drop_bytes hb pos, by rw [List.length_drop]; omega⟩, if_neg (by simp; omega), if_neg (by simp; omega), if_pos (by omega), Int.toNat_natCast, Int.toNat_natCast, take_drop_eq, need_eq (by rw [List.length_take, List.length_drop]; omega), if_pos (by simp; omega)]
    · rw [if_neg c3, Int.toNat_natCast]
theorem w64 {x : Int} (h : 0 ≤ x ∧ x ≤ 4294967295) : Go.IntKind.wrap .i64 x = x := wI64 (by omega)
theorem num64 {l : List Int} (h : ∀ x ∈ l, 0 ≤ x ∧ x ≤ 255) : (Go.IntKind.wrap .i64 ((BitVec.ofInt 64 (Go.IntKind.wrap .i64 ((BitVec.ofInt 64 (Go.IntKind.wrap .i64 ((BitVec.ofInt 64 (Go.IntKind.wrap .i64 ((Go.IntKind.wrap .i64 (l.getD (0 : Int).toNat (0 : Int))) * 2 ^ min (24 : Int).toNat 64)) ||| BitVec.ofInt 64 (Go.IntKind.wrap .i64 ((Go.IntKind.wrap .i64 (l.getD (1 : Int).toNat (0 : Int))) * 2 ^ min (16 : Int).toNat 64))).toNat : Int)) ||| BitVec.ofInt 64 (Go.IntKind.wrap .i64 ((Go.IntKind.wrap .i64 (l.getD (2 : Int).toNat (0 : Int))) * 2 ^ min (8 : Int).toNat 64))).toNat : Int)) ||| BitVec.ofInt 64 (Go.IntKind.wrap .i64 (l.getD (3 : Int).toNat (0 : Int)))).toNat : Int)) = numP l := by
  have h0 := bytes_at h 0
  have h1 := bytes_at h 1
  have h2 := bytes_at h 2
  have h3 := bytes_at h 3
  have e24 : (2 : Int) ^ min (24 : Int).toNat 64 = 16777216 := rfl
  have e16 : (2 : Int) ^ min (16 : Int).toNat 64 = 65536 := rfl
  have e8 : (2 : Int) ^ min (8 : Int).toNat 64 = 256 := rfl
  have t0 : (0 : Int).toNat = 0 := rfl
  have t1 : (1 : Int).toNat = 1 := rfl
  have t2 : (2 : Int).toNat = 2 := rfl
  have t3 : (3 : Int).toNat = 3 := rfl
  rw [e24, e16, e8, t0, t1, t2, t3, w64 (x := l.getD 0 0) (by omega), w64 (x := l.getD 1 0) (by omega), w64 (x := l.getD 2 0) (by omega), w64 (x := l.getD 3 0) (by omega)]
  rw [w64 (x := l.getD 0 0 * 16777216) (by omega), w64 (x := l.getD 1 0 * 65536) (by omega), w64 (x := l.getD 2 0 * 256) (by omega)]
  rw [orI 64 24 (x := l.getD 0 0 * 16777216) (y := l.getD 1 0 * 65536) (l.getD 0 0) (by omega) (by omega) (by omega) (by omega) (by omega) (by omega), w64 (x := l.getD 0 0 * 16777216 + l.getD 1 0 * 65536) (by omega)]
  rw [orI 64 16 (x := l.getD 0 0 * 16777216 + l.getD 1 0 * 65536) (y := l.getD 2 0 * 256) (l.getD 0 0 * 256 + l.getD 1 0) (by omega) (by omega) (by omega) (by omega) (by omega) (by omega), w64 (x := l.getD 0 0 * 16777216 + l.getD 1 0 * 65536 + l.getD 2 0 * 256) (by omega)]
  rw [orI 64 8 (x := l.getD 0 0 * 16777216 + l.getD 1 0 * 65536 + l.getD 2 0 * 256) (y := l.getD 3 0) (l.getD 0 0 * 65536 + l.getD 1 0 * 256 + l.getD 2 0) (by omega) (by omega) (by omega) (by omega) (by omega) (by omega), w64 (by omega)]
  rfl
theorem p_rsplit (b : List Int) (h : c_rsplit b) : m_rsplit 2000000000000 b = some (r_rsplit b) := by
  have hb : BytesOk b := h
  have hl := hb.1
  unfold m_rsplit
  refine loop_run (fun (d : List Int × Int × List (List Int) × Unit) => d.1 = b ∧ ∃ pos : Nat, d.2.1 = pos ∧ pos ≤ b.length ∧ d.2.2.1.length ≤ pos) (fun (d : List Int × Int × List (List Int) × Unit) => b.length - d.2.1.toNat) (fun (d : List Int × Int × List (List Int) × Unit) => some (rS (splitF b (b.length + 1) d.2.1.toNat d.2.2.1))) ?_ _ _ ⟨rfl, 0, rfl, by omega, by simp⟩ (by simp only; omega)
  rintro ⟨b', p', out, ⟨⟩⟩ hI
  simp only at hI ⊢
  obtain ⟨rfl, pos, rfl, hp, ho⟩ := hI
  have hdl : (b'.drop pos).length = b'.length - pos := List.length_drop
  have hbd := drop_bytes hb pos
  simp only [Int.toNat_natCast, List.take_length, num64 hbd.2]
  rw [splitF_step hp]
  by_cases c1 : b'.length < pos + 4
  · left; intro again
    rw [if_pos (by omega), if_pos (by simp; omega), if_pos c1]; rfl
  have hnb := num_bound hbd.2
  simp only [if_neg c1]
  by_cases c2 : 4096 < numP (b'.drop pos)
  · left; intro again
    rw [if_pos (by omega), if_neg (by simp; omega), if_pos (by omega), if_pos (by omega), if_pos (by omega), if_pos (by omega), if_pos (by simpa using c2), if_pos c2]; rfl
  have w1 : Go.IntKind.wrap .i64 ((pos : Int) + 4) = ((pos + 4 : Nat) : Int) := by rw [wI64 (by omega)]; omega
  obtain ⟨k, hk⟩ : ∃ k : Nat, numP (b'.drop pos) = k := ⟨(numP (b'.drop pos)).toNat, by omega⟩
  rw [hk] at hnb c2 ⊢
  have w3 : Go.IntKind.wrap .i64 (((pos + 4 : Nat) : Int) + (k : Int)) = ((pos + 4 + k : Nat) : Int) := by rw [wI64 (by omega)]; omega
  have w4 : Go.IntKind.wrap .i64 ((4 : Int) + (k : Int)) = ((4 + k : Nat) : Int) := by rw [wI64 (by omega)]; omega
  rw [if_neg c2, w1, w3, w4, wI64 (x := ((b'.drop pos).length : Int) - 4) (by omega)]
  simp only [Int.toNat_natCast]
  by_cases c3 : b'.length < pos + 4 + k
  · left; intro again
    rw [if_pos (by omega), if_neg (by simp; omega), if_pos (by omega), if_pos (by omega), if_pos (by omega), if_pos (by omega), if_neg (by simpa using c2), if_pos (by rw [decide_eq_true_eq]; omega), if_pos c3]; rfl
  · right
    have e5 : ((b'.drop pos).take (4 + k)).drop 4 = (b'.drop (pos + 4)).take k := by rw [take_drop_eq, List.drop_drop]
    have e6 : ((b'.drop (pos + 4)).take k).length = k := by rw [List.length_take, List.length_drop]; omega
    refine ⟨(b', ((pos + 4 + k : Nat) : Int), out ++ [(b'.drop (pos + 4)).take k], ()), fun again => ?_, ?_, ⟨rfl, _, rfl, by omega, by simp; omega⟩, by simp only [Int.toNat_natCast]; omega⟩
    · rw [if_pos (by omega), if_neg (by simp; omega), if_pos (by omega), if_pos (by omega), if_pos (by omega), if_pos (by omega), if_neg (by simpa using c2), if_neg (by rw [decide_eq_true_eq]; omega), if_pos (by omega)]
      rw [show (4 : Int).toNat = 4 from rfl, e5, List.nil_append, if_pos (by simp only [List.length_nil, e6]; omega), if_pos (by simp; omega)]
    · simp only [Int.toNat_natCast]
      rw [if_neg c3]
theorem take_map {l : List (List Int)} (i : Nat) (h : i < l.length) : (l.map strOfBytes).take (i + 1) = (l.map strOfBytes).take i ++ [strOfBytes (l.getD i [])] := by
  rw [take_succ_getD _ i (strOfBytes []) (by simpa using h)]
  congr 2
  simp [List.getD, h]
theorem str_eq (a b : ByteArray) : (a.toList == b.toList) = decide (a = b) := by
  rw [ByteArray.toList_eq, ByteArray.toList_eq, Bool.eq_iff_iff, beq_iff_eq, decide_eq_true_eq]
  constructor
  · intro h
    cases a; cases b
    simp at h
    rw [h]
  · intro h; rw [h]
theorem p_same (x : List (List Int)) (y : List (List Int)) (h : c_same x y) : m_same 2000000000000 x y = some (r_same x y) := by
  have hx : (x.length : Int) ≤ 1099511627776 := h
  unfold m_same r_same sameF
  by_cases hl : x.length = y.length
  · rw [if_neg (by simp [hl])]
    refine loop_to (fun d => d.1 = x ∧ d.2.1 = y ∧ ∃ i : Nat, d.2.2.1 = i ∧ i ≤ x.length ∧ (x.map strOfBytes).take i = (y.map strOfBytes).take i) (fun d => x.length - d.2.2.1.toNat) ?_ ⟨rfl, rfl, 0, rfl, by omega, rfl⟩ (by simp only; omega)
    rintro ⟨x', y', i', ⟨⟩⟩ hI
    simp only at hI ⊢
    obtain ⟨rfl, rfl, i, rfl, hi, ht⟩ := hI
    by_cases c : i = x'.length
    · left; intro again
      rw [if_neg (by simp; omega)]
      have : x'.map strOfBytes = y'.map strOfBytes := by
        rw [List.take_of_length_le (by simp; omega), List.take_of_length_le (by simp; omega)] at ht
        exact ht
      simp [this]
    · have hi1 : i < x'.length := by omega
      have hi2 : i < y'.length := by omega
      by_cases e : strOfBytes (x'.getD i []) = strOfBytes (y'.getD i [])
      · right
        refine ⟨(x', y', (i : Int) + 1, ()), fun again => ?_, ⟨rfl, rfl, i + 1, by simp, by omega, ?_⟩, ?_⟩
        · rw [if_pos (by simp; omega), if_pos (by omega), if_pos (by omega), Int.toNat_natCast, e, wI64 (by omega)]
          simp
        · rw [take_map i hi1, take_map i hi2, ht, e]
        · simp only; omega
      · left; intro again
        have hne : x'.map strOfBytes ≠ y'.map strOfBytes := fun h => e (by
          have h1 := congrArg (fun l => l.getD i (strOfBytes [])) h
          simpa [List.getD, hi1, hi2] using h1)
        rw [if_pos (by simp; omega), if_pos (by omega), if_pos (by omega), Int.toNat_natCast, str_eq, if_pos (by simpa using e)]
        simp [hne]
  · rw [if_pos (by simp; omega)]
    have : x.map strOfBytes ≠ y.map strOfBytes := fun h => hl (by simpa using congrArg List.length h)
    simp [this]
theorem p_sane  (h : c_sane ) : m_sane  = some (r_sane ) := by
  have e : encF [97] = ([0, 0, 0, 1, 97], 0) := by decide
  unfold m_sane
  rw [need_eq (by simp)]
  simp only [bindv, e]
  simp [ByteArray.toList_eq, strOfBytes]
  rfl
theorem splitF_len (b : List Int) : ∀ (n pos : Nat) (out : List (List Int)), (splitF b n pos out).1.length ≤ out.length + n
  | 0, _, _ => by simp [splitF]
  | n + 1, pos, out => by
    simp only [splitF]
    split
    · simp
    split
    · simp
    split
    · simp
    · have := splitF_len b n (pos + 4 + (numP (b.drop pos)).toNat) (out ++ [(b.drop (pos + 4)).take (numP (b.drop pos)).toNat])
      simp only [List.length_append, List.length_cons, List.length_nil] at this
      omega
theorem p_frameLimits (n : Int) (h : WfT [.int .i64] (n, ())) : m_frameLimits n = resB true := by
  obtain ⟨hn, _⟩ := h
  replace hn : I64 n := wf64 hn
  have k1 := Int.emod_nonneg n (show (3 : Int) ≠ 0 by omega)
  have k2 := Int.emod_lt_of_pos n (show (0 : Int) < 3 by omega)
  unfold m_frameLimits
  simp only [bindv]
  generalize n % 3 = k at *
  rw [need_eq ⟨hn, by omega, by unfold I64; omega⟩, wI64 (x := 4095 + k) (by omega), if_pos (by omega)]
  have hR : (List.replicate (4095 + k).toNat (0 : Int)).length = (4095 + k).toNat := List.length_replicate
  have hz : ∀ x ∈ List.replicate (4095 + k).toNat (0 : Int), 0 ≤ x ∧ x ≤ 255 := fun x hx => by rw [(List.mem_replicate.1 hx).2]; omega
  generalize List.replicate (4095 + k).toNat (0 : Int) = R at *
  have hW : ∀ x : Int, 0 ≤ Go.IntKind.wrap .u8 x ∧ Go.IntKind.wrap .u8 x ≤ 255 := fun x => by rw [wrapu8_mod]; omega
  have hB : BytesOk (([0, 0, Go.IntKind.wrap .u8 (Int.fdiv (R.length : Int) (2 ^ min (8 : Int).toNat 64)), Go.IntKind.wrap .u8 (R.length : Int)] : List Int) ++ R) := by
    refine ⟨by simp; omega, fun x hx => ?_⟩
    rcases List.mem_append.1 hx with hx | hx
    · simp only [List.mem_cons, List.not_mem_nil, or_false] at hx
      rcases hx with rfl | rfl | rfl | rfl
      · omega
      · omega
      · exact hW _
      · exact hW _
    · exact hz x hx
  rw [need_eq (by omega), need_eq (by omega), if_pos (by simp; omega)]
  have hlen : ((([0, 0, Go.IntKind.wrap .u8 (Int.fdiv (R.length : Int) (2 ^ min (8 : Int).toNat 64)), Go.IntKind.wrap .u8 (R.length : Int)] : List Int) ++ R).length : Int) ≤ 5000 := by simp; omega
  generalize ([0, 0, Go.IntKind.wrap .u8 (Int.fdiv (R.length : Int) (2 ^ min (8 : Int).toNat 64)), Go.IntKind.wrap .u8 (R.length : Int)] : List Int) ++ R = X at *
  have hs := splitF_len X (X.length + 1) 0 []
  simp only [List.length_nil] at hs
  rw [need_eq hB, need_eq hB]
  have hq : ((splitP X).1.length : Int) ≤ 1099511627776 := by unfold splitP; omega
  simp only [need_eq hq, BEq.rfl, if_true]
  simp [sameF]
end Go.Frm
