/- The models of a job's life come to what their definitions say; the laws of it. -/
import Derived.Test.YtinhdhaohmnbeaaLifM
import Derived.Test.YtinhdhaohmnbeaaBurP
import Derived.Test.YtinhdhaohmnbeaaLadP
set_option linter.unusedVariables false
set_option linter.unusedSimpArgs false
set_option linter.unnecessarySimpa false
set_option maxRecDepth 100000
namespace Go.Lif
open Go.Ab Go.RowKit Go.Bur Go.Lad
def tabB : ByteArray := ⟨#[0, 1, 2, 2, 3, 3, 3, 3, 4, 4, 4, 4, 4, 4, 4, 4, 5, 5, 5, 5, 5, 5, 5, 5, 5, 5, 5, 5, 5, 5, 5, 5, 6, 6, 6, 6, 6, 6, 6, 6, 6, 6, 6, 6, 6, 6, 6, 6, 6, 6, 6, 6, 6, 6, 6, 6, 6, 6, 6, 6, 6, 6, 6, 6, 7, 7, 7, 7, 7, 7, 7, 7, 7, 7, 7, 7, 7, 7, 7, 7, 7, 7, 7, 7, 7, 7, 7, 7, 7, 7, 7, 7, 7, 7, 7, 7, 7, 7, 7, 7, 7, 7, 7, 7, 7, 7, 7, 7, 7, 7, 7, 7, 7, 7, 7, 7, 7, 7, 7, 7, 7, 7, 7, 7, 7, 7, 7, 7, 8, 8, 8, 8, 8, 8, 8, 8, 8, 8, 8, 8, 8, 8, 8, 8, 8, 8, 8, 8, 8, 8, 8, 8, 8, 8, 8, 8, 8, 8, 8, 8, 8, 8, 8, 8, 8, 8, 8, 8, 8, 8, 8, 8, 8, 8, 8, 8, 8, 8, 8, 8, 8, 8, 8, 8, 8, 8, 8, 8, 8, 8, 8, 8, 8, 8, 8, 8, 8, 8, 8, 8, 8, 8, 8, 8, 8, 8, 8, 8, 8, 8, 8, 8, 8, 8, 8, 8, 8, 8, 8, 8, 8, 8, 8, 8, 8, 8, 8, 8, 8, 8, 8, 8, 8, 8, 8, 8, 8, 8, 8, 8, 8, 8, 8, 8, 8, 8, 8, 8, 8, 8, 8, 8, 8, 8, 8, 8]⟩
theorem tab_all : ∀ x : Fin 101, ((tabB.data.getD x.val 0).toNat : Int) = lenP (x.val : Int) := by decide +kernel
theorem tab_is (x : Int) (h : 0 ≤ x ∧ x ≤ 100) : ((tabB.data.getD x.toNat 0).toNat : Int) = lenP x := by
  have := tab_all ⟨x.toNat, by omega⟩
  simp only [show ((x.toNat : Nat) : Int) = x by omega] at this
  exact this
theorem lenP_range (x : Int) : 0 ≤ lenP x ∧ lenP x ≤ 7 := by unfold lenP; repeat' split <;> omega
theorem p_len (x : Int) (h : c_len x) : m_len x = some (r_len x) := by
  obtain ⟨h0, h1⟩ := h
  have hs : (tabB.size : Int) = 256 := by decide +kernel
  have ht := tab_is x ⟨h0, h1⟩
  have hr := lenP_range x
  unfold m_len
  rw [if_neg (by simp; omega), if_neg (by simp; omega), if_neg (by simp; omega), wrapu8_mod, show x % 256 = x by omega]
  show (if 0 ≤ x ∧ x < (tabB.size : Int) then some (⟨.val (false, [(none, ⟨.int .i64, Go.IntKind.wrap .i64 ((0 : Int) + (Go.IntKind.wrap .i64 (((tabB).data.getD x.toNat 0).toNat : Int)))⟩)]), []⟩ : Res) else none) = some (r_len x)
  rw [hs, ht, if_pos (by omega), wI64 (x := lenP x) (by omega), wI64 (by omega)]
  simp only [Int.zero_add]
  rfl
theorem p_lz (x : Int) (h : c_lz x) : m_lz x = some (r_lz x) := by
  have hr := lenP_range x
  unfold m_lz
  obtain ⟨h0, h1⟩ := h
  rw [need_eq ⟨h0, h1⟩, wI64 (by omega)]
  rfl
theorem pow_le8 {n : Int} (h : n ≤ 8) : (1 : Int) ≤ 2 ^ n.toNat ∧ (2 : Int) ^ n.toNat ≤ 256 := by
  have : n.toNat ≤ 8 := by omega
  generalize n.toNat = k at this
  have : k = 0 ∨ k = 1 ∨ k = 2 ∨ k = 3 ∨ k = 4 ∨ k = 5 ∨ k = 6 ∨ k = 7 ∨ k = 8 := by omega
  rcases this with rfl | rfl | rfl | rfl | rfl | rfl | rfl | rfl | rfl <;> decide
theorem dbl_range {a n : Int} (ha : 0 ≤ a ∧ a ≤ 100) (h : n ≤ 8) : 0 ≤ dblP a n ∧ dblP a n ≤ 25600 := by
  have := pow_le8 h
  unfold dblP
  generalize (2 : Int) ^ n.toNat = p at this
  constructor
  · exact Int.mul_nonneg ha.1 (by omega)
  · have h1 : a * p ≤ 100 * p := Int.mul_le_mul_of_nonneg_right ha.2 (by omega)
    omega
theorem p_dbl (a : Int) (n : Int) (h : c_dbl a n) : m_dbl a n = some (r_dbl a n) := by
  obtain ⟨h0, h1, h2⟩ := h
  have hr := lenP_range a
  have hd := dbl_range ⟨h0, h1⟩ h2
  unfold m_dbl r_dbl
  by_cases c : n ≤ 0
  · rw [if_neg (by simp; omega)]
    unfold dblP
    rw [show n.toNat = 0 by omega]
    simp
  rw [if_pos (by simp; omega)]
  by_cases ca : a = 0
  · subst ca
    rw [if_pos (by simp)]
    unfold dblP
    rw [Int.zero_mul]
  rw [if_neg (by simp; omega), need_eq ⟨h0, h1⟩, if_neg (by simp; omega), if_pos (by omega), show min n.toNat 64 = n.toNat by omega]
  unfold dblP at *
  rw [wU64 (by omega)]
theorem p_rdbl (a : Int) (n : Int) (h : c_rdbl a n) : m_rdbl 100 a n = some (r_rdbl a n) := by
  obtain ⟨h0, h1, h2⟩ := h
  unfold m_rdbl r_rdbl
  refine loop_to (fun d => d.2.1 = n ∧ ∃ i : Nat, d.2.2.1 = i ∧ (i : Int) ≤ max n 0 ∧ d.1 = a * 2 ^ i) (fun d => 9 - d.2.2.1.toNat) ?_ ⟨rfl, 0, rfl, by omega, by simp⟩ (by simp only; omega)
  rintro ⟨b, n', i', ⟨⟩⟩ hI
  simp only at hI ⊢
  obtain ⟨rfl, i, rfl, hi, rfl⟩ := hI
  have hd := dbl_range (n := i) ⟨h0, h1⟩ (by omega)
  unfold dblP at hd
  rw [Int.toNat_natCast] at hd
  by_cases c : (i : Int) < n'
  · by_cases cz : a * 2 ^ i = 0
    · left; intro again
      rw [if_pos (by simpa using c), if_neg (by rw [bne_iff_ne]; exact fun h => h cz), cz]
      have : a = 0 := by
        rcases Int.mul_eq_zero.1 cz with h | h
        · exact h
        · have := (pow_le8 (n := i) (by omega)).1
          rw [Int.toNat_natCast] at this
          omega
      unfold dblP
      rw [this, Int.zero_mul]
    · right
      refine ⟨(a * 2 ^ (i + 1), n', (i : Int) + 1, ()), fun again => ?_, ⟨rfl, i + 1, by simp, by omega, rfl⟩, by simp only; omega⟩
      have e : satAdd (a * 2 ^ i) (a * 2 ^ i) = a * 2 ^ (i + 1) := by
        unfold satAdd
        rw [Int.pow_succ, ← Int.mul_assoc]
        omega
      rw [if_pos (by simpa using c), if_pos (by rw [bne_iff_ne]; exact cz), if_neg (by simp; omega), need_eq ⟨by unfold Go.Lad.U64; omega, by unfold Go.Lad.U64; omega⟩, e, wI64 (by omega)]
  · left; intro again
    rw [if_neg (by simpa using c)]
    unfold dblP
    have : (i : Nat) = n'.toNat := by omega
    rw [this]
theorem p_delay (b : Int) (l : Int) (n : Int) (j : Int) (h : c_delay b l n j) : m_delay b l n j = some (r_delay b l n j) := by
  obtain ⟨h0, h1, hl, hn, hj⟩ := h
  have hd := dbl_range ⟨h0, h1⟩ hn
  unfold U64 at hl
  unfold m_delay
  rw [need_eq ⟨h0, h1, hn⟩, minK_eq, need_eq ⟨by unfold Go.Lad.U64; omega, hj⟩]
  rfl
theorem p_rdelay (b : Int) (l : Int) (n : Int) (j : Int) (h : c_rdelay b l n j) : m_rdelay b l n j = some (r_rdelay b l n j) := p_delay b l n j h
theorem delay_ok {b l n j : Int} (h : 0 ≤ b ∧ b ≤ 100) (hl : U64 l) (hn : n ≤ 8) (hj : U64 j) : U64 (delayP b l n j) := by
  have hd := dbl_range h hn
  unfold delayP satAdd U64 at *
  omega
theorem p_new (l : List Int) (h : c_new l) : m_new l = some (r_new l) := rfl
theorem p_left (d_0 : List Int) (d_1 : Int) (h : c_left d_0 d_1) : m_left d_0 d_1 = some (r_left d_0 d_1) := rfl
theorem dadv_ok {d : Deck} (h : DeckOk d) : DeckOk (dadv d) := by
  obtain ⟨h0, h1, h2, h3⟩ := h
  refine ⟨h0, ?_, ?_, h3⟩ <;> simp only [dadv] <;> split <;> omega
theorem dnext_range (d : Deck) {n : Int} (h : 0 < n) : 0 ≤ dnext d n ∧ dnext d n < n := by
  unfold dnext
  split
  · exact ⟨Int.emod_nonneg _ (by omega), Int.emod_lt_of_pos _ h⟩
  · omega
theorem p_dnxt (d_0 : List Int) (d_1 : Int) (n : Int) (h : c_dnxt d_0 d_1 n) : m_dnxt d_0 d_1 n = some (r_dnxt d_0 d_1 n) := by
  obtain ⟨⟨h0, h1, h2, h3⟩, hn, hn2⟩ := h
  simp only at h0 h1 h2 h3
  unfold m_dnxt r_dnxt
  simp only [bindv, dnext, dadv]
  by_cases c : d_1 < (d_0.length : Int)
  · rw [if_neg (by simpa using c), wI64 (x := d_1 + 1) (by omega), wI64 (x := d_1 + 1 - 1) (by omega), if_pos (by omega), show d_1 + 1 - 1 = d_1 by omega, need_eq ⟨h3 _ (getD_mem _ _ _ (by omega)), hn, hn2⟩, if_pos c, if_pos c]
  · rw [if_pos (by simpa using c), if_neg c, if_neg c]
theorem p_drng (d_0 : List Int) (d_1 : Int) (lo : Int) (hi : Int) (h : c_drng d_0 d_1 lo hi) : m_drng d_0 d_1 lo hi = some (r_drng d_0 d_1 lo hi) := by
  obtain ⟨hd, h0, h1, h2⟩ := h
  have hr := dnext_range (d_0, d_1, ()) (n := hi - lo + 1) (by omega)
  unfold m_drng
  rw [wI64 (x := hi - lo) (by omega), wI64 (x := hi - lo + 1) (by omega), need_eq ⟨hd, by omega, by unfold I64; omega⟩]
  simp only [bindv]
  rw [wI64 (by omega)]
  rfl
theorem p_pat  (h : c_pat ) : m_pat  = some (r_pat ) := rfl
theorem p_rest (l_0 : Int) (l_1 : Int) (l_2 : Int) (l_3 : Int) (l_4 : List Int) (l_5 : Int) (l_6 : Bool) (l_7 : Int) (l_8 : Bool) (l_9 : Bool) (p : Int) (h : c_rest l_0 l_1 l_2 l_3 l_4 l_5 l_6 l_7 l_8 l_9 p) : m_rest l_0 l_1 l_2 l_3 l_4 l_5 l_6 l_7 l_8 l_9 p = some (r_rest l_0 l_1 l_2 l_3 l_4 l_5 l_6 l_7 l_8 l_9 p) := rfl
theorem p_lnew  (h : c_lnew ) : m_lnew  = some (r_lnew ) := rfl
theorem p_copied (l_0 : Int) (l_1 : Int) (l_2 : Int) (l_3 : Int) (l_4 : List Int) (l_5 : Int) (l_6 : Bool) (l_7 : Int) (l_8 : Bool) (l_9 : Bool) (h : c_copied l_0 l_1 l_2 l_3 l_4 l_5 l_6 l_7 l_8 l_9) : m_copied l_0 l_1 l_2 l_3 l_4 l_5 l_6 l_7 l_8 l_9 = some (r_copied l_0 l_1 l_2 l_3 l_4 l_5 l_6 l_7 l_8 l_9) := by
  replace h : Us l_4 := h
  unfold m_copied
  exact need_eq h
theorem p_stopped (l_0 : Int) (l_1 : Int) (l_2 : Int) (l_3 : Int) (l_4 : List Int) (l_5 : Int) (l_6 : Bool) (l_7 : Int) (l_8 : Bool) (l_9 : Bool) (h : c_stopped l_0 l_1 l_2 l_3 l_4 l_5 l_6 l_7 l_8 l_9) : m_stopped l_0 l_1 l_2 l_3 l_4 l_5 l_6 l_7 l_8 l_9 = some (r_stopped l_0 l_1 l_2 l_3 l_4 l_5 l_6 l_7 l_8 l_9) := by
  unfold m_stopped r_stopped stoppedP
  cases l_9 <;> rfl
theorem p_climb (j_0 : ByteArray) (j_1 : ByteArray) (j_2 : List (ByteArray × (ByteArray × Unit))) (j_3 : List ByteArray) (j_4 : Bool) (j_5 : ByteArray) (j_6 : Int) (j_7 : Int) (j_8 : Int) (j_9 : Int) (j_10 : Int) (j_11 : Int) (j_12 : List (Int × (Int × Unit))) (j_13 : Int) (j_14 : Int) (l_0 : Int) (l_1 : Int) (l_2 : Int) (l_3 : Int) (l_4 : List Int) (l_5 : Int) (l_6 : Bool) (l_7 : Int) (l_8 : Bool) (l_9 : Bool) (at_ : Int) (h : c_climb j_0 j_1 j_2 j_3 j_4 j_5 j_6 j_7 j_8 j_9 j_10 j_11 j_12 j_13 j_14 l_0 l_1 l_2 l_3 l_4 l_5 l_6 l_7 l_8 l_9 at_) : m_climb j_0 j_1 j_2 j_3 j_4 j_5 j_6 j_7 j_8 j_9 j_10 j_11 j_12 j_13 j_14 l_0 l_1 l_2 l_3 l_4 l_5 l_6 l_7 l_8 l_9 at_ = some (r_climb j_0 j_1 j_2 j_3 j_4 j_5 j_6 j_7 j_8 j_9 j_10 j_11 j_12 j_13 j_14 l_0 l_1 l_2 l_3 l_4 l_5 l_6 l_7 l_8 l_9 at_) := by
  obtain ⟨hj, hi, ha⟩ := h
  replace hi : Go.Lad.I64 l_7 := hi
  unfold m_climb r_climb climbP
  rw [need_eq ⟨hj.1, hi, ha⟩]
theorem p_stopping (j_0 : ByteArray) (j_1 : ByteArray) (j_2 : List (ByteArray × (ByteArray × Unit))) (j_3 : List ByteArray) (j_4 : Bool) (j_5 : ByteArray) (j_6 : Int) (j_7 : Int) (j_8 : Int) (j_9 : Int) (j_10 : Int) (j_11 : Int) (j_12 : List (Int × (Int × Unit))) (j_13 : Int) (j_14 : Int) (l_0 : Int) (l_1 : Int) (l_2 : Int) (l_3 : Int) (l_4 : List Int) (l_5 : Int) (l_6 : Bool) (l_7 : Int) (l_8 : Bool) (l_9 : Bool) (now : Int) (h : c_stopping j_0 j_1 j_2 j_3 j_4 j_5 j_6 j_7 j_8 j_9 j_10 j_11 j_12 j_13 j_14 l_0 l_1 l_2 l_3 l_4 l_5 l_6 l_7 l_8 l_9 now) : m_stopping j_0 j_1 j_2 j_3 j_4 j_5 j_6 j_7 j_8 j_9 j_10 j_11 j_12 j_13 j_14 l_0 l_1 l_2 l_3 l_4 l_5 l_6 l_7 l_8 l_9 now = some (r_stopping j_0 j_1 j_2 j_3 j_4 j_5 j_6 j_7 j_8 j_9 j_10 j_11 j_12 j_13 j_14 l_0 l_1 l_2 l_3 l_4 l_5 l_6 l_7 l_8 l_9 now) := by
  obtain ⟨hj, ha⟩ := h
  unfold m_stopping r_stopping stoppingP
  rw [need_eq ⟨hj, show I64 0 by unfold I64; omega, ha⟩]
theorem p_over (j_0 : ByteArray) (j_1 : ByteArray) (j_2 : List (ByteArray × (ByteArray × Unit))) (j_3 : List ByteArray) (j_4 : Bool) (j_5 : ByteArray) (j_6 : Int) (j_7 : Int) (j_8 : Int) (j_9 : Int) (j_10 : Int) (j_11 : Int) (j_12 : List (Int × (Int × Unit))) (j_13 : Int) (j_14 : Int) (l_0 : Int) (l_1 : Int) (l_2 : Int) (l_3 : Int) (l_4 : List Int) (l_5 : Int) (l_6 : Bool) (l_7 : Int) (l_8 : Bool) (l_9 : Bool) (now : Int) (jit : Int) (h : c_over j_0 j_1 j_2 j_3 j_4 j_5 j_6 j_7 j_8 j_9 j_10 j_11 j_12 j_13 j_14 l_0 l_1 l_2 l_3 l_4 l_5 l_6 l_7 l_8 l_9 now jit) : m_over j_0 j_1 j_2 j_3 j_4 j_5 j_6 j_7 j_8 j_9 j_10 j_11 j_12 j_13 j_14 l_0 l_1 l_2 l_3 l_4 l_5 l_6 l_7 l_8 l_9 now jit = some (r_over j_0 j_1 j_2 j_3 j_4 j_5 j_6 j_7 j_8 j_9 j_10 j_11 j_12 j_13 j_14 l_0 l_1 l_2 l_3 l_4 l_5 l_6 l_7 l_8 l_9 now jit) := by
  obtain ⟨hj, hl, hn, ht⟩ := h
  obtain ⟨j0, j1, j2, j3, j4⟩ := hj
  obtain ⟨l0, l1, l2, l3, l4⟩ := hl
  replace j1 : 0 ≤ j_7 ∧ j_7 ≤ 100 := j1
  replace j2 : U64 j_8 := j2
  replace j4 : U64 j_11 := j4
  replace l0 : 0 ≤ l_2 ∧ l_2 ≤ 8 := l0
  replace l2 : Us l_4 := l2
  have hdl := delay_ok j1 j2 (show l_2 ≤ 8 by omega) ht
  unfold m_over r_over overP
  rw [need_eq ⟨l2, hn, j4⟩]
  simp only [bindv]
  cases (allowP l_4 j_10 now j_11).2 with
  | false => rfl
  | true => rw [need_eq ⟨j1.1, j1.2, j2, l0.2, ht⟩, need_eq ⟨hn, hdl⟩]; rfl
theorem p_live (l_0 : Int) (l_1 : Int) (l_2 : Int) (l_3 : Int) (l_4 : List Int) (l_5 : Int) (l_6 : Bool) (l_7 : Int) (l_8 : Bool) (l_9 : Bool) (h : c_live l_0 l_1 l_2 l_3 l_4 l_5 l_6 l_7 l_8 l_9) : m_live l_0 l_1 l_2 l_3 l_4 l_5 l_6 l_7 l_8 l_9 = some (r_live l_0 l_1 l_2 l_3 l_4 l_5 l_6 l_7 l_8 l_9) := by
  unfold m_live r_live liveP
  by_cases c2 : l_0 = 2
  · subst c2; rfl
  by_cases c3 : l_0 = 3
  · subst c3; rfl
  by_cases c4 : l_0 = 4
  · subst c4; rfl
  by_cases c6 : l_0 = 6
  · subst c6; rfl
  rw [if_neg (by simpa using c2), if_neg (by simpa using c3), if_neg (by simpa using c4), if_neg (by simpa using c6)]
  simp [c2, c3, c4, c6]
theorem p_spawn (l_0 : Int) (l_1 : Int) (l_2 : Int) (l_3 : Int) (l_4 : List Int) (l_5 : Int) (l_6 : Bool) (l_7 : Int) (l_8 : Bool) (l_9 : Bool) (h : c_spawn l_0 l_1 l_2 l_3 l_4 l_5 l_6 l_7 l_8 l_9) : m_spawn l_0 l_1 l_2 l_3 l_4 l_5 l_6 l_7 l_8 l_9 = some (r_spawn l_0 l_1 l_2 l_3 l_4 l_5 l_6 l_7 l_8 l_9) := by
  obtain ⟨l0, l1, l2, l3, l4⟩ := h
  unfold m_spawn r_spawn spawnP
  rw [need_eq l2]
  simp only [bindv]
  by_cases c1 : l_0 = 1
  · subst c1; rfl
  rw [if_pos (by simpa using c1), if_neg c1]
theorem p_spawned (j_0 : ByteArray) (j_1 : ByteArray) (j_2 : List (ByteArray × (ByteArray × Unit))) (j_3 : List ByteArray) (j_4 : Bool) (j_5 : ByteArray) (j_6 : Int) (j_7 : Int) (j_8 : Int) (j_9 : Int) (j_10 : Int) (j_11 : Int) (j_12 : List (Int × (Int × Unit))) (j_13 : Int) (j_14 : Int) (l_0 : Int) (l_1 : Int) (l_2 : Int) (l_3 : Int) (l_4 : List Int) (l_5 : Int) (l_6 : Bool) (l_7 : Int) (l_8 : Bool) (l_9 : Bool) (ok : Bool) (ready : Bool) (now : Int) (jit : Int) (h : c_spawned j_0 j_1 j_2 j_3 j_4 j_5 j_6 j_7 j_8 j_9 j_10 j_11 j_12 j_13 j_14 l_0 l_1 l_2 l_3 l_4 l_5 l_6 l_7 l_8 l_9 ok ready now jit) : m_spawned j_0 j_1 j_2 j_3 j_4 j_5 j_6 j_7 j_8 j_9 j_10 j_11 j_12 j_13 j_14 l_0 l_1 l_2 l_3 l_4 l_5 l_6 l_7 l_8 l_9 ok ready now jit = some (r_spawned j_0 j_1 j_2 j_3 j_4 j_5 j_6 j_7 j_8 j_9 j_10 j_11 j_12 j_13 j_14 l_0 l_1 l_2 l_3 l_4 l_5 l_6 l_7 l_8 l_9 ok ready now jit) := by
  obtain ⟨hj, hl, hn, ht⟩ := h
  obtain ⟨l0, l1, l2, l3, l4⟩ := id hl
  have hA := (And.intro hj (And.intro hl (And.intro hn ht)))
  unfold m_spawned r_spawned
  rw [need_eq l2]
  simp only [bindv]
  by_cases c1 : l_0 = 2
  · subst c1
    cases ok <;> cases l_8
    · by_cases c2 : j_6 = 1
      · subst c2; rfl
      · simp only [need_eq hA]
        rw [if_neg (by decide), if_pos (by rfl), if_neg (by decide), if_pos (by rfl), if_neg (by simpa using c2), if_pos (by rfl)]
        have e : spawnedP (j_0, j_1, j_2, j_3, j_4, j_5, j_6, j_7, j_8, j_9, j_10, j_11, j_12, j_13, j_14, ()) (2, l_1, l_2, l_3, l_4, l_5, l_6, l_7, false, l_9, ()) false ready now jit = ((overP (j_0, j_1, j_2, j_3, j_4, j_5, j_6, j_7, j_8, j_9, j_10, j_11, j_12, j_13, j_14, ()) (2, l_1, l_2, l_3, l_4, l_5, l_6, l_7, false, l_9, ()) now jit).1, 0, (overP (j_0, j_1, j_2, j_3, j_4, j_5, j_6, j_7, j_8, j_9, j_10, j_11, j_12, j_13, j_14, ()) (2, l_1, l_2, l_3, l_4, l_5, l_6, l_7, false, l_9, ()) now jit).2) := by
          simp [spawnedP, c2]
        rw [e]
    · rfl
    · cases ready <;> rfl
    · simp only [need_eq (And.intro hj hn)]
      rfl
  rw [if_pos (by simpa using c1)]
  have e : spawnedP (j_0, j_1, j_2, j_3, j_4, j_5, j_6, j_7, j_8, j_9, j_10, j_11, j_12, j_13, j_14, ()) (l_0, l_1, l_2, l_3, l_4, l_5, l_6, l_7, l_8, l_9, ()) ok ready now jit = ((l_0, l_1, l_2, l_3, l_4, l_5, l_6, l_7, l_8, l_9, ()), 0, false) := by simp [spawnedP, c1]
  rw [e]
theorem p_start (l_0 : Int) (l_1 : Int) (l_2 : Int) (l_3 : Int) (l_4 : List Int) (l_5 : Int) (l_6 : Bool) (l_7 : Int) (l_8 : Bool) (l_9 : Bool) (h : c_start l_0 l_1 l_2 l_3 l_4 l_5 l_6 l_7 l_8 l_9) : m_start l_0 l_1 l_2 l_3 l_4 l_5 l_6 l_7 l_8 l_9 = some (r_start l_0 l_1 l_2 l_3 l_4 l_5 l_6 l_7 l_8 l_9) := by
  obtain ⟨l0, l1, l2, l3, l4⟩ := h
  unfold m_start r_start startP
  rw [need_eq l2]
  simp only [bindv]
  by_cases c1 : l_0 = 7
  · subst c1; rfl
  by_cases c2 : l_0 = 8
  · subst c2; rfl
  by_cases c3 : l_0 = 9
  · subst c3; rfl
  rw [if_neg (by simpa using c1), if_neg (by simpa using c2), if_neg (by simpa using c3), if_neg (by omega)]
theorem p_halt (j_0 : ByteArray) (j_1 : ByteArray) (j_2 : List (ByteArray × (ByteArray × Unit))) (j_3 : List ByteArray) (j_4 : Bool) (j_5 : ByteArray) (j_6 : Int) (j_7 : Int) (j_8 : Int) (j_9 : Int) (j_10 : Int) (j_11 : Int) (j_12 : List (Int × (Int × Unit))) (j_13 : Int) (j_14 : Int) (l_0 : Int) (l_1 : Int) (l_2 : Int) (l_3 : Int) (l_4 : List Int) (l_5 : Int) (l_6 : Bool) (l_7 : Int) (l_8 : Bool) (l_9 : Bool) (now : Int) (ag : Bool) (h : c_halt j_0 j_1 j_2 j_3 j_4 j_5 j_6 j_7 j_8 j_9 j_10 j_11 j_12 j_13 j_14 l_0 l_1 l_2 l_3 l_4 l_5 l_6 l_7 l_8 l_9 now ag) : m_halt j_0 j_1 j_2 j_3 j_4 j_5 j_6 j_7 j_8 j_9 j_10 j_11 j_12 j_13 j_14 l_0 l_1 l_2 l_3 l_4 l_5 l_6 l_7 l_8 l_9 now ag = some (r_halt j_0 j_1 j_2 j_3 j_4 j_5 j_6 j_7 j_8 j_9 j_10 j_11 j_12 j_13 j_14 l_0 l_1 l_2 l_3 l_4 l_5 l_6 l_7 l_8 l_9 now ag) := by
  obtain ⟨hj, hn⟩ := h
  unfold m_halt r_halt
  by_cases c1 : l_0 = 2
  · subst c1; rfl
  by_cases c2 : l_0 = 3
  · subst c2
    rw [need_eq ⟨hj, hn⟩]; rfl
  by_cases c3 : l_0 = 4
  · subst c3
    simp only [need_eq (And.intro hj hn)]; rfl
  by_cases c4 : l_0 = 6
  · subst c4; rfl
  rw [if_neg (by simpa using c1), if_neg (by simpa using c2), if_neg (by simpa using c3), if_neg (by simpa using c4)]
  have e : haltP (j_0, j_1, j_2, j_3, j_4, j_5, j_6, j_7, j_8, j_9, j_10, j_11, j_12, j_13, j_14, ()) (l_0, l_1, l_2, l_3, l_4, l_5, l_6, l_7, l_8, l_9, ()) now ag = ((l_0, l_1, l_2, l_3, l_4, l_5, l_6, l_7, l_8, l_9, ()), 0) := by simp [haltP, c1, c2, c3, c4]
  rw [e]
theorem p_stop (j_0 : ByteArray) (j_1 : ByteArray) (j_2 : List (ByteArray × (ByteArray × Unit))) (j_3 : List ByteArray) (j_4 : Bool) (j_5 : ByteArray) (j_6 : Int) (j_7 : Int) (j_8 : Int) (j_9 : Int) (j_10 : Int) (j_11 : Int) (j_12 : List (Int × (Int × Unit))) (j_13 : Int) (j_14 : Int) (l_0 : Int) (l_1 : Int) (l_2 : Int) (l_3 : Int) (l_4 : List Int) (l_5 : Int) (l_6 : Bool) (l_7 : Int) (l_8 : Bool) (l_9 : Bool) (now : Int) (h : c_stop j_0 j_1 j_2 j_3 j_4 j_5 j_6 j_7 j_8 j_9 j_10 j_11 j_12 j_13 j_14 l_0 l_1 l_2 l_3 l_4 l_5 l_6 l_7 l_8 l_9 now) : m_stop j_0 j_1 j_2 j_3 j_4 j_5 j_6 j_7 j_8 j_9 j_10 j_11 j_12 j_13 j_14 l_0 l_1 l_2 l_3 l_4 l_5 l_6 l_7 l_8 l_9 now = some (r_stop j_0 j_1 j_2 j_3 j_4 j_5 j_6 j_7 j_8 j_9 j_10 j_11 j_12 j_13 j_14 l_0 l_1 l_2 l_3 l_4 l_5 l_6 l_7 l_8 l_9 now) := by
  obtain ⟨hj, hl, hn⟩ := h
  obtain ⟨l0, l1, l2, l3, l4⟩ := hl
  unfold m_stop r_stop stopP
  rw [need_eq l2]
  simp only [bindv]
  by_cases c1 : l_0 = 1
  · subst c1; rfl
  by_cases c2 : l_0 = 5
  · subst c2; rfl
  rw [if_neg (by simpa using c1), if_neg (by simpa using c2), if_neg (by omega), need_eq ⟨hj, hn⟩]
theorem p_restart (j_0 : ByteArray) (j_1 : ByteArray) (j_2 : List (ByteArray × (ByteArray × Unit))) (j_3 : List ByteArray) (j_4 : Bool) (j_5 : ByteArray) (j_6 : Int) (j_7 : Int) (j_8 : Int) (j_9 : Int) (j_10 : Int) (j_11 : Int) (j_12 : List (Int × (Int × Unit))) (j_13 : Int) (j_14 : Int) (l_0 : Int) (l_1 : Int) (l_2 : Int) (l_3 : Int) (l_4 : List Int) (l_5 : Int) (l_6 : Bool) (l_7 : Int) (l_8 : Bool) (l_9 : Bool) (now : Int) (h : c_restart j_0 j_1 j_2 j_3 j_4 j_5 j_6 j_7 j_8 j_9 j_10 j_11 j_12 j_13 j_14 l_0 l_1 l_2 l_3 l_4 l_5 l_6 l_7 l_8 l_9 now) : m_restart j_0 j_1 j_2 j_3 j_4 j_5 j_6 j_7 j_8 j_9 j_10 j_11 j_12 j_13 j_14 l_0 l_1 l_2 l_3 l_4 l_5 l_6 l_7 l_8 l_9 now = some (r_restart j_0 j_1 j_2 j_3 j_4 j_5 j_6 j_7 j_8 j_9 j_10 j_11 j_12 j_13 j_14 l_0 l_1 l_2 l_3 l_4 l_5 l_6 l_7 l_8 l_9 now) := by
  obtain ⟨hj, hl, hn⟩ := h
  obtain ⟨l0, l1, l2, l3, l4⟩ := id hl
  unfold m_restart r_restart restartP
  rw [need_eq l2]
  simp only [bindv]
  by_cases c1 : l_0 = 7
  · subst c1; simp only [need_eq hl]; rfl
  by_cases c2 : l_0 = 8
  · subst c2; simp only [need_eq hl]; rfl
  by_cases c3 : l_0 = 9
  · subst c3; simp only [need_eq hl]; rfl
  by_cases c4 : l_0 = 5
  · subst c4; rfl
  rw [if_neg (by simpa using c1), if_neg (by simpa using c2), if_neg (by simpa using c3), if_neg (by simpa using c4), if_neg (by omega), if_neg c4, need_eq ⟨hj, hn⟩]
theorem p_fire (j_0 : ByteArray) (j_1 : ByteArray) (j_2 : List (ByteArray × (ByteArray × Unit))) (j_3 : List ByteArray) (j_4 : Bool) (j_5 : ByteArray) (j_6 : Int) (j_7 : Int) (j_8 : Int) (j_9 : Int) (j_10 : Int) (j_11 : Int) (j_12 : List (Int × (Int × Unit))) (j_13 : Int) (j_14 : Int) (l_0 : Int) (l_1 : Int) (l_2 : Int) (l_3 : Int) (l_4 : List Int) (l_5 : Int) (l_6 : Bool) (l_7 : Int) (l_8 : Bool) (l_9 : Bool) (h : c_fire j_0 j_1 j_2 j_3 j_4 j_5 j_6 j_7 j_8 j_9 j_10 j_11 j_12 j_13 j_14 l_0 l_1 l_2 l_3 l_4 l_5 l_6 l_7 l_8 l_9) : m_fire j_0 j_1 j_2 j_3 j_4 j_5 j_6 j_7 j_8 j_9 j_10 j_11 j_12 j_13 j_14 l_0 l_1 l_2 l_3 l_4 l_5 l_6 l_7 l_8 l_9 = some (r_fire j_0 j_1 j_2 j_3 j_4 j_5 j_6 j_7 j_8 j_9 j_10 j_11 j_12 j_13 j_14 l_0 l_1 l_2 l_3 l_4 l_5 l_6 l_7 l_8 l_9) := by
  obtain ⟨hj, hl⟩ := h
  obtain ⟨l0, l1, l2, l3, l4⟩ := id hl
  unfold m_fire r_fire
  rw [need_eq l2]
  simp only [bindv]
  by_cases c1 : l_0 = 5
  · subst c1; rfl
  by_cases c2 : l_0 = 6
  · subst c2
    cases l_6
    · rfl
    · simp only [need_eq (And.intro hj (And.intro l4 l3))]
      rfl
  rw [if_neg (by simpa using c1), if_neg (by simpa using c2)]
  have e : fireP (j_0, j_1, j_2, j_3, j_4, j_5, j_6, j_7, j_8, j_9, j_10, j_11, j_12, j_13, j_14, ()) (l_0, l_1, l_2, l_3, l_4, l_5, l_6, l_7, l_8, l_9, ()) = ((l_0, l_1, l_2, l_3, l_4, l_5, l_6, l_7, l_8, l_9, ()), 0) := by simp [fireP, c1, c2]
  rw [e]
theorem p_exit (j_0 : ByteArray) (j_1 : ByteArray) (j_2 : List (ByteArray × (ByteArray × Unit))) (j_3 : List ByteArray) (j_4 : Bool) (j_5 : ByteArray) (j_6 : Int) (j_7 : Int) (j_8 : Int) (j_9 : Int) (j_10 : Int) (j_11 : Int) (j_12 : List (Int × (Int × Unit))) (j_13 : Int) (j_14 : Int) (l_0 : Int) (l_1 : Int) (l_2 : Int) (l_3 : Int) (l_4 : List Int) (l_5 : Int) (l_6 : Bool) (l_7 : Int) (l_8 : Bool) (l_9 : Bool) (code : Int) (now : Int) (jit : Int) (h : c_exit j_0 j_1 j_2 j_3 j_4 j_5 j_6 j_7 j_8 j_9 j_10 j_11 j_12 j_13 j_14 l_0 l_1 l_2 l_3 l_4 l_5 l_6 l_7 l_8 l_9 code now jit) : m_exit j_0 j_1 j_2 j_3 j_4 j_5 j_6 j_7 j_8 j_9 j_10 j_11 j_12 j_13 j_14 l_0 l_1 l_2 l_3 l_4 l_5 l_6 l_7 l_8 l_9 code now jit = some (r_exit j_0 j_1 j_2 j_3 j_4 j_5 j_6 j_7 j_8 j_9 j_10 j_11 j_12 j_13 j_14 l_0 l_1 l_2 l_3 l_4 l_5 l_6 l_7 l_8 l_9 code now jit) := by
  obtain ⟨hj, hl, hn, ht⟩ := h
  obtain ⟨l0, l1, l2, l3, l4⟩ := id hl
  have hA := (And.intro hj (And.intro hl (And.intro hn ht)))
  have hl0 : LifeOk (l_0, l_1, 0, l_3, l_4, l_5, l_6, l_7, l_8, l_9, ()) := ⟨by simp only; omega, l1, l2, l3, l4⟩
  have hB := (And.intro hj (And.intro hl0 (And.intro hn ht)))
  replace l1 : Go.Bur.U64 l_3 := l1
  replace l2 : Us l_4 := l2
  unfold m_exit r_exit
  rw [need_eq l2]
  simp only [bindv]
  by_cases c1 : l_0 = 3 ∨ l_0 = 4
  · simp only [need_eq (And.intro hn l1), need_eq hA, need_eq hB]
    by_cases cR : j_9 ≤ Go.Bur.subP now l_3 <;> by_cases c2 : j_6 = 3 <;> by_cases c3 : j_6 = 2 <;> by_cases c4 : code = 0 <;> rcases c1 with c1 | c1 <;> simp [exitP, cR, c1, c2, c3, c4]
  by_cases c2 : l_0 = 6
  · simp [exitP, c2]
  rw [if_neg (by simp; omega), if_neg (by simp; omega), if_neg (by simpa using c2)]
  simp [exitP, c1, c2]
theorem p_sane  (h : c_sane ) : m_sane  = some (r_sane ) := by
  have hl : LifeOk newP := by unfold LifeOk newP Us U64 I64; simp
  have hj : JobOk ((ByteArray.empty, ByteArray.empty, [], [], false, ByteArray.empty, 2, 100, 1000, 1000, 5, 10000, [], 0, 0, ()) : Job) := by unfold JobOk RungsOk U64; simp
  have h2 : LifeOk ((2, 1, 0, 0, [], 0, false, 0, false, false, ()) : Life) := by unfold LifeOk Us U64 I64; simp
  have h3 : LifeOk ((3, 1, 0, 0, [], 0, false, 0, false, false, ()) : Life) := by unfold LifeOk Us U64 I64; simp
  have u0 : U64 (0 : Int) := by unfold U64; omega
  have u5 : U64 (50 : Int) := by unfold U64; omega
  have e1 : spawnP newP = ((2, 1, 0, 0, [], 0, false, 0, false, false, ()), true) := rfl
  have e2 : spawnedP (ByteArray.empty, ByteArray.empty, [], [], false, ByteArray.empty, 2, 100, 1000, 1000, 5, 10000, [], 0, 0, ()) (2, 1, 0, 0, [], 0, false, 0, false, false, ()) true false 0 0 = ((3, 1, 0, 0, [], 0, false, 0, false, false, ()), 0, false) := rfl
  have e3 : exitP (ByteArray.empty, ByteArray.empty, [], [], false, ByteArray.empty, 2, 100, 1000, 1000, 5, 10000, [], 0, 0, ()) (3, 1, 0, 0, [], 0, false, 0, false, false, ()) 1 50 0 = ((5, 1, 1, 0, [50], 150, false, 0, false, false, ()), true) := rfl
  unfold m_sane r_sane
  rw [need_eq hl]
  simp only [bindv]
  rw [e1, need_eq ⟨hj, h2, u0, u0⟩]
  simp only [e2]
  rw [need_eq ⟨hj, h3, u5, u0⟩]
  simp only [e3]
  rfl
abbrev LadE := Int × (List Int) × Int × (List (ByteArray × (ByteArray × Unit))) × (List ByteArray) × (List (Int × (Int × Unit))) × ByteArray × ByteArray × Bool × ByteArray × Int × Int × Int × Int × Int × Int × Int × Int × (List ByteArray) × (List (Int × (Int × Unit))) × ByteArray × ByteArray × (List (ByteArray × (ByteArray × Unit))) × Bool × ByteArray × Int × Int × Int × Int × Int × Int × Int × Int × Unit
noncomputable def ladF : LadE → (LadE → Option Res) → Option Res := (fun (d1 : Int × (List Int) × Int × (List (ByteArray × (ByteArray × Unit))) × (List ByteArray) × (List (Int × (Int × Unit))) × ByteArray × ByteArray × Bool × ByteArray × Int × Int × Int × Int × Int × Int × Int × Int × (List ByteArray) × (List (Int × (Int × Unit))) × ByteArray × ByteArray × (List (ByteArray × (ByteArray × Unit))) × Bool × ByteArray × Int × Int × Int × Int × Int × Int × Int × Int × Unit) again1 => if (decide (d1.1 > (0 : Int))) = true then need (DeckOk (d1.2.1, (d1.2.2.1, ())) ∧ 0 < (3 : Int) ∧ I64 (3 : Int)) (bindv (dnext (d1.2.1, (d1.2.2.1, ())) (3 : Int)) fun (r1 : Int) => bindv (dadv (d1.2.1, (d1.2.2.1, ()))) fun (r2 : (List Int) × (Int × Unit)) => if 0 ≤ r1 ∧ r1 < ([15, 2, 1] : List Int).length then (if r1 < ([15, 2, 1] : List Int).length then need (DeckOk r2 ∧ 0 < (9 : Int) ∧ I64 (9 : Int)) (bindv (dnext r2 (9 : Int)) fun (r3 : Int) => if (d1.2.2.2.2.2.2.2.2.2.2.2.2.2.2.2.2.2.2.2.1.length + ([((([15, 2, 1] : List Int).getD r1.toNat (0 : Int)), (Go.IntKind.wrap .u64 r3, ()))] : List (Int × (Int × Unit))).length) * 16 ≤ 140737488355328 ∧ d1.2.2.2.2.2.2.2.2.2.2.2.2.2.2.2.2.2.2.2.1.length + ([((([15, 2, 1] : List Int).getD r1.toNat (0 : Int)), (Go.IntKind.wrap .u64 r3, ()))] : List (Int × (Int × Unit))).length ≤ 9223372036854775807 then again1 (Go.IntKind.wrap .i64 (d1.1 - (1 : Int)), (dadv r2).1, ((dadv r2).2).1, d1.2.2.2.1, d1.2.2.2.2.1, d1.2.2.2.2.2.1, d1.2.2.2.2.2.2.1, d1.2.2.2.2.2.2.2.1, d1.2.2.2.2.2.2.2.2.1, d1.2.2.2.2.2.2.2.2.2.1, d1.2.2.2.2.2.2.2.2.2.2.1, d1.2.2.2.2.2.2.2.2.2.2.2.1, d1.2.2.2.2.2.2.2.2.2.2.2.2.1, d1.2.2.2.2.2.2.2.2.2.2.2.2.2.1, d1.2.2.2.2.2.2.2.2.2.2.2.2.2.2.1, d1.2.2.2.2.2.2.2.2.2.2.2.2.2.2.2.1, d1.2.2.2.2.2.2.2.2.2.2.2.2.2.2.2.2.1, d1.2.2.2.2.2.2.2.2.2.2.2.2.2.2.2.2.2.1, d1.2.2.2.2.2.2.2.2.2.2.2.2.2.2.2.2.2.2.1, d1.2.2.2.2.2.2.2.2.2.2.2.2.2.2.2.2.2.2.2.1 ++ ([((([15, 2, 1] : List Int).getD r1.toNat (0 : Int)), (Go.IntKind.wrap .u64 r3, ()))] : List (Int × (Int × Unit))), d1.2.2.2.2.2.2.2.2.2.2.2.2.2.2.2.2.2.2.2.2.1, d1.2.2.2.2.2.2.2.2.2.2.2.2.2.2.2.2.2.2.2.2.2.1, d1.2.2.2.2.2.2.2.2.2.2.2.2.2.2.2.2.2.2.2.2.2.2.1, d1.2.2.2.2.2.2.2.2.2.2.2.2.2.2.2.2.2.2.2.2.2.2.2.1, d1.2.2.2.2.2.2.2.2.2.2.2.2.2.2.2.2.2.2.2.2.2.2.2.2.1, d1.2.2.2.2.2.2.2.2.2.2.2.2.2.2.2.2.2.2.2.2.2.2.2.2.2.1, d1.2.2.2.2.2.2.2.2.2.2.2.2.2.2.2.2.2.2.2.2.2.2.2.2.2.2.1, d1.2.2.2.2.2.2.2.2.2.2.2.2.2.2.2.2.2.2.2.2.2.2.2.2.2.2.2.1, d1.2.2.2.2.2.2.2.2.2.2.2.2.2.2.2.2.2.2.2.2.2.2.2.2.2.2.2.2.1, d1.2.2.2.2.2.2.2.2.2.2.2.2.2.2.2.2.2.2.2.2.2.2.2.2.2.2.2.2.2.1, d1.2.2.2.2.2.2.2.2.2.2.2.2.2.2.2.2.2.2.2.2.2.2.2.2.2.2.2.2.2.2.1, d1.2.2.2.2.2.2.2.2.2.2.2.2.2.2.2.2.2.2.2.2.2.2.2.2.2.2.2.2.2.2.2.1, d1.2.2.2.2.2.2.2.2.2.2.2.2.2.2.2.2.2.2.2.2.2.2.2.2.2.2.2.2.2.2.2.2.1, ()) else none) else none) else none) else some ⟨.val (true, [(none, ⟨.str, d1.2.2.2.2.2.2.2.2.2.2.2.2.2.2.2.2.2.2.2.2.1⟩), (none, ⟨.str, d1.2.2.2.2.2.2.2.2.2.2.2.2.2.2.2.2.2.2.2.2.2.1⟩), (none, ⟨.slice (.pair (.str) (.pair (.str) (.unit))), d1.2.2.2.2.2.2.2.2.2.2.2.2.2.2.2.2.2.2.2.2.2.2.1⟩), (none, ⟨.slice (.str), d1.2.2.2.2.2.2.2.2.2.2.2.2.2.2.2.2.2.2.1⟩), (none, ⟨.bool, d1.2.2.2.2.2.2.2.2.2.2.2.2.2.2.2.2.2.2.2.2.2.2.2.1⟩), (none, ⟨.str, d1.2.2.2.2.2.2.2.2.2.2.2.2.2.2.2.2.2.2.2.2.2.2.2.2.1⟩), (none, ⟨.int .i64, d1.2.2.2.2.2.2.2.2.2.2.2.2.2.2.2.2.2.2.2.2.2.2.2.2.2.1⟩), (none, ⟨.int .u64, d1.2.2.2.2.2.2.2.2.2.2.2.2.2.2.2.2.2.2.2.2.2.2.2.2.2.2.1⟩), (none, ⟨.int .u64, d1.2.2.2.2.2.2.2.2.2.2.2.2.2.2.2.2.2.2.2.2.2.2.2.2.2.2.2.1⟩), (none, ⟨.int .u64, d1.2.2.2.2.2.2.2.2.2.2.2.2.2.2.2.2.2.2.2.2.2.2.2.2.2.2.2.2.1⟩), (none, ⟨.int .i64, d1.2.2.2.2.2.2.2.2.2.2.2.2.2.2.2.2.2.2.2.2.2.2.2.2.2.2.2.2.2.1⟩), (none, ⟨.int .u64, d1.2.2.2.2.2.2.2.2.2.2.2.2.2.2.2.2.2.2.2.2.2.2.2.2.2.2.2.2.2.2.1⟩), (none, ⟨.slice (.pair (.int .i64) (.pair (.int .u64) (.unit))), d1.2.2.2.2.2.2.2.2.2.2.2.2.2.2.2.2.2.2.2.1⟩), (none, ⟨.int .i64, d1.2.2.2.2.2.2.2.2.2.2.2.2.2.2.2.2.2.2.2.2.2.2.2.2.2.2.2.2.2.2.2.1⟩), (none, ⟨.int .i64, d1.2.2.2.2.2.2.2.2.2.2.2.2.2.2.2.2.2.2.2.2.2.2.2.2.2.2.2.2.2.2.2.2.1⟩)]), [[(none, ⟨.slice (.int .i64), d1.2.1⟩), (none, ⟨.int .i64, d1.2.2.1⟩)]]⟩)
noncomputable def ladR (e : LadE) (lad : List Rung) (dk : Deck) : Option Res := some ⟨.val (true, [(none, ⟨.str, e.2.2.2.2.2.2.2.2.2.2.2.2.2.2.2.2.2.2.2.2.1⟩), (none, ⟨.str, e.2.2.2.2.2.2.2.2.2.2.2.2.2.2.2.2.2.2.2.2.2.1⟩), (none, ⟨.slice (.pair (.str) (.pair (.str) (.unit))), e.2.2.2.2.2.2.2.2.2.2.2.2.2.2.2.2.2.2.2.2.2.2.1⟩), (none, ⟨.slice (.str), e.2.2.2.2.2.2.2.2.2.2.2.2.2.2.2.2.2.2.1⟩), (none, ⟨.bool, e.2.2.2.2.2.2.2.2.2.2.2.2.2.2.2.2.2.2.2.2.2.2.2.1⟩), (none, ⟨.str, e.2.2.2.2.2.2.2.2.2.2.2.2.2.2.2.2.2.2.2.2.2.2.2.2.1⟩), (none, ⟨.int .i64, e.2.2.2.2.2.2.2.2.2.2.2.2.2.2.2.2.2.2.2.2.2.2.2.2.2.1⟩), (none, ⟨.int .u64, e.2.2.2.2.2.2.2.2.2.2.2.2.2.2.2.2.2.2.2.2.2.2.2.2.2.2.1⟩), (none, ⟨.int .u64, e.2.2.2.2.2.2.2.2.2.2.2.2.2.2.2.2.2.2.2.2.2.2.2.2.2.2.2.1⟩), (none, ⟨.int .u64, e.2.2.2.2.2.2.2.2.2.2.2.2.2.2.2.2.2.2.2.2.2.2.2.2.2.2.2.2.1⟩), (none, ⟨.int .i64, e.2.2.2.2.2.2.2.2.2.2.2.2.2.2.2.2.2.2.2.2.2.2.2.2.2.2.2.2.2.1⟩), (none, ⟨.int .u64, e.2.2.2.2.2.2.2.2.2.2.2.2.2.2.2.2.2.2.2.2.2.2.2.2.2.2.2.2.2.2.1⟩), (none, ⟨.slice (.pair (.int .i64) (.pair (.int .u64) (.unit))), lad⟩), (none, ⟨.int .i64, e.2.2.2.2.2.2.2.2.2.2.2.2.2.2.2.2.2.2.2.2.2.2.2.2.2.2.2.2.2.2.2.1⟩), (none, ⟨.int .i64, e.2.2.2.2.2.2.2.2.2.2.2.2.2.2.2.2.2.2.2.2.2.2.2.2.2.2.2.2.2.2.2.2.1⟩)]), [[(none, ⟨.slice (.int .i64), dk.1⟩), (none, ⟨.int .i64, dk.2.1⟩)]]⟩
theorem sigs_at {x : Int} (h : 0 ≤ x ∧ x < 3) : 0 ≤ x ∧ x < ([15, 2, 1] : List Int).length := by
  show 0 ≤ x ∧ x < ((3 : Nat) : Int)
  omega
theorem lad_loop : ∀ (k m : Nat) (d : Deck) (e : LadE) (lad : List Rung), DeckOk d → e.1 = (k : Int) → k ≤ 3 → e.2.1 = d.1 → e.2.2.1 = d.2.1 → e.2.2.2.2.2.2.2.2.2.2.2.2.2.2.2.2.2.2.2.1 = lad → lad.length + k ≤ 3 → loopN ladF (k + 1 + m) e = ladR e (lad ++ (ladGo k d).1) (ladGo k d).2
  | 0, m, d, e, lad, hd, hk, hk3, h1, h2, h3, hl => by
    rw [show 0 + 1 + m = m + 1 by omega, loop_succ]
    unfold ladF
    rw [if_neg (by rw [hk]; decide)]
    simp only [ladGo, List.append_nil]
    subst h3
    unfold ladR
    rw [← h1, ← h2]
  | k + 1, m, d, e, lad, hd, hk, hk3, h1, h2, h3, hl => by
    have r3 := dnext_range d (n := 3) (by omega)
    have r9 := dnext_range (dadv d) (n := 9) (by omega)
    have s3 := sigs_at r3
    have hd' := dadv_ok hd
    rw [show k + 1 + 1 + m = (k + 1 + m) + 1 by omega, loop_succ]
    have ih := lad_loop k m (dadv (dadv d))
    conv => lhs; unfold ladF
    rw [if_pos (by rw [hk]; simp), h1, h2]
    have ed : ((d.1, (d.2.1, ())) : Deck) = d := rfl
    rw [ed, need_eq ⟨hd, by omega, by unfold I64; omega⟩]
    simp only [bindv]
    rw [if_pos s3, if_pos s3.2, need_eq ⟨hd', by omega, by unfold I64; omega⟩]
    rw [wU64 (x := dnext (dadv d) 9) (by omega), h3, if_pos (by simp; omega)]
    have ih' := fun e' => ih e' (lad ++ [(([15, 2, 1] : List Int).getD (dnext d 3).toNat 0, dnext (dadv d) 9, ())]) (dadv_ok hd')
    rw [hk, wI64 (by omega)]
    refine (ih' _ (by simp only; omega) (by omega) rfl rfl rfl (by simp; omega)).trans ?_
    simp only [ladGo, sigs, List.append_assoc, List.singleton_append]
    rfl
theorem deck_eta (d : Deck) : ((d.1, (d.2.1, ())) : Deck) = d := rfl
theorem loop_ten {δ : Type} {F : δ → (δ → Option Res) → Option Res} {d : δ} : loopN F 10 d = F d (loopN F 9) := rfl
theorem lad_at (d : Deck) (e : LadE) (hd : DeckOk d) (hk : e.1 = drange d 1 3) (h1 : e.2.1 = (dadv d).1) (h2 : e.2.2.1 = (dadv d).2.1) (h3 : e.2.2.2.2.2.2.2.2.2.2.2.2.2.2.2.2.2.2.2.1 = []) : loopN ladF 10 e = ladR e (ladGo (drange d 1 3).toNat (dadv d)).1 (ladGo (drange d 1 3).toNat (dadv d)).2 := by
  have r3 := dnext_range d (n := 3) (by omega)
  have hr : drange d 1 3 = 1 + dnext d 3 := rfl
  have hk3 : (drange d 1 3).toNat ≤ 3 := by omega
  have := lad_loop (drange d 1 3).toNat (9 - (drange d 1 3).toNat) (dadv d) e [] (dadv_ok hd) (by omega) hk3 h1 h2 h3 (by simp; omega)
  rw [show (drange d 1 3).toNat + 1 + (9 - (drange d 1 3).toNat) = 10 by omega] at this
  exact this
theorem p_job (d_0 : List Int) (d_1 : Int) (name : ByteArray) (others : List ByteArray) (h : c_job d_0 d_1 name others) : m_job 10 10 d_0 d_1 name others = some (r_job d_0 d_1 name others) := by
  obtain ⟨hd, rfl⟩ := h
  unfold m_job
  generalize hD : ((d_0, (d_1, ())) : Deck) = D at *
  have four : ∀ x : Int, 0 ≤ x ∧ x < 4 → 0 ≤ x ∧ x < (runs.length : Int) := fun x h => by
    show 0 ≤ x ∧ x < ((4 : Nat) : Int)
    omega
  have seven : ∀ x : Int, 0 ≤ x ∧ x < 7 → 0 ≤ x ∧ x < (pats.length : Int) := fun x h => by
    show 0 ≤ x ∧ x < ((7 : Nat) : Int)
    omega
  have two : ∀ x : Int, 0 ≤ x ∧ x < 2 - 1 + 1 → 0 ≤ (0 : Int) ∧ 0 ≤ 1 + x ∧ 1 + x ≤ (vars.length : Int) := fun x h => by
    show 0 ≤ (0 : Int) ∧ 0 ≤ _ ∧ _ ≤ ((2 : Nat) : Int)
    omega
  simp only [bindv]
  have k1 := dadv_ok hd
  generalize e1 : dadv D = D1 at *
  have k2 := dadv_ok k1
  generalize e2 : dadv D1 = D2 at *
  have k3 := dadv_ok k2
  generalize e3 : dadv D2 = D3 at *
  have k4 := dadv_ok k3
  generalize e4 : dadv D3 = D4 at *
  have k5 := dadv_ok k4
  generalize e5 : dadv D4 = D5 at *
  have k6 := dadv_ok k5
  generalize e6 : dadv D5 = D6 at *
  have k7 := dadv_ok k6
  generalize e7 : dadv D6 = D7 at *
  have k8 := dadv_ok k7
  generalize e8 : dadv D7 = D8 at *
  have k9 := dadv_ok k8
  generalize e9 : dadv D8 = D9 at *
  have k10 := dadv_ok k9
  generalize e10 : dadv D9 = D10 at *
  have k11 := dadv_ok k10
  generalize e11 : dadv D10 = D11 at *
  have q1 := dnext_range D (n := 4) (by omega)
  have q2 := dnext_range D2 (n := 6) (by omega)
  have q3 := dnext_range D3 (n := 20) (by omega)
  have q6 := dnext_range D6 (n := 20) (by omega)
  have q5 : 0 ≤ drange D5 1 30 ∧ drange D5 1 30 ≤ 30 := by
    have := dnext_range D5 (n := 30 - 1 + 1) (by omega)
    unfold drange; omega
  rw [need_eq ⟨hd, by omega, by unfold I64; omega⟩]
  rw [if_pos (by exact four _ q1), if_pos (by exact (four _ q1).2), need_eq ⟨k1, by omega, by omega, by omega⟩, need_eq ⟨k2, by omega, by unfold I64; omega⟩, need_eq ⟨k3, by omega, by unfold I64; omega⟩, need_eq ⟨k4, by omega, by omega, by omega⟩, need_eq ⟨k5, by omega, by omega, by omega⟩, need_eq ⟨k6, by omega, by unfold I64; omega⟩, need_eq ⟨k7, by omega, by unfold I64; omega⟩]
  rw [wU64 (x := dnext D2 6) (by omega), wU64 (x := dnext D3 20) (by omega), wU64 (x := dnext D6 20) (by omega), wU64 (x := drange D5 1 30) (by omega), wU64 (x := dnext D2 6 + dnext D6 20) (by omega)]
  by_cases cE : dnext D7 4 = 0
  · have r2 := two _ (dnext_range D8 (n := 2 - 1 + 1) (by omega))
    rw [if_pos (by simpa using cE), need_eq ⟨k8, by omega, by omega, by omega⟩, if_pos (by exact r2), loop_ten]
    dsimp only
    rw [if_neg (by simp), deck_eta, need_eq ⟨k9, by omega, by unfold I64; omega⟩]
    by_cases cR : dnext D9 2 = 0
    · have q7 := dnext_range D10 (n := 7) (by omega)
      rw [if_pos (by simpa using cR), e10, need_eq ⟨k10, by omega, by unfold I64; omega⟩, if_pos (by exact seven _ q7), e11, need_eq ⟨k11, by omega, by omega, by omega⟩]
      refine (lad_at D11 _ k11 rfl rfl rfl rfl).trans ?_
      unfold r_job jobP envP readyP
      simp only [hD, adv, e1, e2, e3, e4, e5, e6, e7, e8, e9, e10, e11, cE, cR, if_true, if_false]
      rfl
    · rw [if_neg (by simpa using cR), e10, need_eq ⟨k10, by omega, by omega, by omega⟩]
      refine (lad_at D10 _ k10 rfl rfl rfl rfl).trans ?_
      unfold r_job jobP envP readyP
      simp only [hD, adv, e1, e2, e3, e4, e5, e6, e7, e8, e9, e10, e11, cE, cR, if_true, if_false]
      rfl
  · rw [if_neg (by simpa using cE), loop_ten]
    dsimp only
    rw [if_neg (by simp), deck_eta, need_eq ⟨k8, by omega, by unfold I64; omega⟩]
    by_cases cR : dnext D8 2 = 0
    · have q7 := dnext_range D9 (n := 7) (by omega)
      rw [if_pos (by simpa using cR), e9, need_eq ⟨k9, by omega, by unfold I64; omega⟩, if_pos (by exact seven _ q7), e10, need_eq ⟨k10, by omega, by omega, by omega⟩]
      refine (lad_at D10 _ k10 rfl rfl rfl rfl).trans ?_
      unfold r_job jobP envP readyP
      simp only [hD, adv, e1, e2, e3, e4, e5, e6, e7, e8, e9, e10, e11, cE, cR, if_true, if_false]
      rfl
    · rw [if_neg (by simpa using cR), e9, need_eq ⟨k9, by omega, by omega, by omega⟩]
      refine (lad_at D9 _ k9 rfl rfl rfl rfl).trans ?_
      unfold r_job jobP envP readyP
      simp only [hD, adv, e1, e2, e3, e4, e5, e6, e7, e8, e9, e10, e11, cE, cR, if_true, if_false]
      rfl
theorem lad_facts : ∀ (k : Nat) (d : Deck), DeckOk d → (ladGo k d).1.length = k ∧ (∀ r ∈ (ladGo k d).1, 0 ≤ r.2.1 ∧ r.2.1 ≤ 8) ∧ DeckOk (ladGo k d).2
  | 0, d, h => ⟨rfl, by simp [ladGo], h⟩
  | k + 1, d, h => by
    obtain ⟨h1, h2, h3⟩ := lad_facts k _ (dadv_ok (dadv_ok h))
    have r9 := dnext_range (dadv d) (n := 9) (by omega)
    simp only [ladGo]
    refine ⟨by simp [h1], ?_, h3⟩
    intro r hr
    rcases List.mem_cons.1 hr with rfl | hr
    · simp only; omega
    · exact h2 r hr
theorem adv_ok : ∀ (k : Nat) {d : Deck}, DeckOk d → DeckOk (adv k d)
  | 0, _, h => h
  | k + 1, _, h => adv_ok k (dadv_ok h)
theorem env_ok {d : Deck} (h : DeckOk d) : DeckOk (envP d).2 := by
  unfold envP; split
  · exact dadv_ok (dadv_ok h)
  · exact dadv_ok h
theorem ready_ok {d : Deck} (h : DeckOk d) : DeckOk (readyP d).2 := by
  unfold readyP; split
  · exact dadv_ok (dadv_ok h)
  · exact dadv_ok h
theorem drange_range (d : Deck) {lo hi : Int} (h : lo ≤ hi) : lo ≤ drange d lo hi ∧ drange d lo hi ≤ hi := by
  have := dnext_range d (n := hi - lo + 1) (by omega)
  unfold drange; omega
/-- What is known of a made job. -/
structure Made (j : Job) : Prop where
  rungs : RungsOk j.2.2.2.2.2.2.2.2.2.2.2.2.1
  some : 1 ≤ j.2.2.2.2.2.2.2.2.2.2.2.2.1.length ∧ j.2.2.2.2.2.2.2.2.2.2.2.2.1.length ≤ 3
  base : 0 ≤ j.2.2.2.2.2.2.2.1 ∧ j.2.2.2.2.2.2.2.1 ≤ 5
  cap : 0 ≤ j.2.2.2.2.2.2.2.2.1 ∧ j.2.2.2.2.2.2.2.2.1 ≤ 24
  stable : 0 ≤ j.2.2.2.2.2.2.2.2.2.1 ∧ j.2.2.2.2.2.2.2.2.2.1 ≤ 19
  burst : 1 ≤ j.2.2.2.2.2.2.2.2.2.2.1 ∧ j.2.2.2.2.2.2.2.2.2.2.1 ≤ 4
  window : 1 ≤ j.2.2.2.2.2.2.2.2.2.2.2.1 ∧ j.2.2.2.2.2.2.2.2.2.2.2.1 ≤ 30
theorem job_made {d : Deck} (n : ByteArray) (h : DeckOk d) : Made (jobP d n).1 ∧ DeckOk (jobP d n).2 := by
  have hr := ready_ok (env_ok (adv_ok 7 h))
  have q := drange_range (readyP (envP (adv 7 d)).2).2 (show (1 : Int) ≤ 3 by omega)
  obtain ⟨l1, l2, l3⟩ := lad_facts (drange (readyP (envP (adv 7 d)).2).2 1 3).toNat _ (dadv_ok hr)
  have b := dnext_range (adv 2 d) (n := 6) (by omega)
  have c := dnext_range (adv 6 d) (n := 20) (by omega)
  have s := dnext_range (adv 3 d) (n := 20) (by omega)
  have u := drange_range (adv 4 d) (show (1 : Int) ≤ 4 by omega)
  have w := drange_range (adv 5 d) (show (1 : Int) ≤ 30 by omega)
  refine ⟨⟨⟨?_, ?_⟩, ?_, ?_, ?_, ?_, ?_, ?_⟩, l3⟩
  · show ((ladGo _ _).1.length : Int) ≤ 1000
    omega
  · intro r hr'
    have := l2 r hr'
    unfold Go.Lad.U64; omega
  · show 1 ≤ (ladGo _ _).1.length ∧ (ladGo _ _).1.length ≤ 3
    omega
  · show 0 ≤ dnext (adv 2 d) 6 ∧ dnext (adv 2 d) 6 ≤ 5
    omega
  · show 0 ≤ dnext (adv 2 d) 6 + dnext (adv 6 d) 20 ∧ dnext (adv 2 d) 6 + dnext (adv 6 d) 20 ≤ 24
    omega
  · show 0 ≤ dnext (adv 3 d) 20 ∧ dnext (adv 3 d) 20 ≤ 19
    omega
  · exact u
  · exact w
theorem made_ok {j : Job} (h : Made j) : JobOk j := ⟨h.rungs, ⟨h.base.1, by have := h.base; omega⟩, ⟨h.cap.1, by have := h.cap; omega⟩, ⟨h.stable.1, by have := h.stable; omega⟩, by have := h.window; omega, by have := h.window; omega⟩
theorem new_ok : LifeOk newP := by unfold LifeOk newP Us U64 I64; simp
theorem spawn_new : spawnP newP = ((2, 1, 0, 0, [], 0, false, 0, false, false, ()), true) := rfl
theorem deck_new {m : List Int} (h : Wf (.slice (.int .i64)) m) : DeckOk (m, 0, ()) := by
  have hx : ∀ x ∈ m, I64 x := fun x hx => wf64 (h.2 x hx)
  have hl : m.length ≤ 140737488351232 := h.1
  exact ⟨by simp only; omega, by simp, by simp, hx⟩
theorem p_lifeHalts (m : List Int) (again : Bool) (ok : Bool) (now : Int) (h : WfT [.slice (.int .i64), .bool, .bool, .int .u64] (m, again, ok, now, ())) : m_lifeHalts m again ok now = resB true := by
  obtain ⟨hm, _, _, hn, _⟩ := h
  have hd := deck_new hm
  replace hn := wfu64 hn
  unfold m_lifeHalts
  simp only [bindv]
  rw [need_eq ⟨hd, trivial⟩, need_eq new_ok, tmodN hn.1]
  have hN : 0 ≤ now % 1099511627776 ∧ now % 1099511627776 < 1099511627776 := by omega
  generalize now % 1099511627776 = N at hN
  simp only [spawn_new]
  have hJ := (job_made ⟨#[97]⟩ hd).1
  generalize (jobP (m, 0, ()) ⟨#[97]⟩).1 = J at hJ
  have hj := made_ok hJ
  have hla := hJ.some
  have hr := hJ.rungs
  have uN : U64 N := by unfold U64; omega
  have u3 : U64 (3 : Int) := by unfold U64; omega
  have h2 : LifeOk ((2, 1, 0, 0, [], 0, false, 0, false, false, ()) : Life) := by unfold LifeOk Us U64 I64; simp
  obtain ⟨j0, j1, j2, j3, j4, j5, j6, j7, j8, j9, j10, j11, j12, j13, j14, ⟨⟩⟩ := J
  simp only at hla hr
  have e1 : stopP (j0, j1, j2, j3, j4, j5, j6, j7, j8, j9, j10, j11, j12, j13, j14, ()) (2, 1, 0, 0, [], 0, false, 0, false, false, ()) N = ((2, 1, 0, 0, [], 0, false, 0, true, false, ()), 0) := rfl
  have e2 : restartP (j0, j1, j2, j3, j4, j5, j6, j7, j8, j9, j10, j11, j12, j13, j14, ()) (2, 1, 0, 0, [], 0, false, 0, false, false, ()) N = ((2, 1, 0, 0, [], 0, false, 0, true, true, ()), 0) := rfl
  have h3 : ∀ ag, LifeOk ((2, 1, 0, 0, [], 0, false, 0, true, ag, ()) : Life) := by intro ag; unfold LifeOk Us U64 I64; simp
  have e3 : spawnedP (j0, j1, j2, j3, j4, j5, j6, j7, j8, j9, j10, j11, j12, j13, j14, ()) (2, 1, 0, 0, [], 0, false, 0, true, true, ()) false true N 3 = ((1, 1, 0, 0, [], 0, false, 0, false, false, ()), 0, false) := rfl
  have e4 : spawnedP (j0, j1, j2, j3, j4, j5, j6, j7, j8, j9, j10, j11, j12, j13, j14, ()) (2, 1, 0, 0, [], 0, false, 0, true, false, ()) false true N 3 = ((9, 1, 0, 0, [], 0, false, 0, false, false, ()), 0, false) := rfl
  have e5 : ∀ ag, spawnedP (j0, j1, j2, j3, j4, j5, j6, j7, j8, j9, j10, j11, j12, j13, j14, ()) (2, 1, 0, 0, [], 0, false, 0, true, ag, ()) true true N 3 = ((6, 1, 0, N, [], (nextP j12 0 N).2.1, (nextP j12 0 N).2.2, 1, true, ag, ()), (nextP j12 0 N).1, false) := fun _ => rfl
  have hnx : U64 (nextP j12 0 N).2.1 := next_ok hr uN
  have hfi : (nextP j12 0 N).1 = (j12.getD 0 (0, 0, ())).1 := by
    unfold nextP
    rw [if_neg (by omega), if_neg (by omega)]
    rfl
  have h5 : ∀ ag, LifeOk ((6, 1, 0, N, [], (nextP j12 0 N).2.1, (nextP j12 0 N).2.2, 1, true, ag, ()) : Life) := by
    intro ag
    exact ⟨by simp, uN, by unfold Us; simp, hnx, by unfold I64; simp⟩
  have e6 : exitP (j0, j1, j2, j3, j4, j5, j6, j7, j8, j9, j10, j11, j12, j13, j14, ()) (6, 1, 0, N, [], (nextP j12 0 N).2.1, (nextP j12 0 N).2.2, 1, true, true, ()) 1 N 3 = ((1, 1, 0, N, [], 0, false, 0, false, false, ()), false) := rfl
  have e7 : exitP (j0, j1, j2, j3, j4, j5, j6, j7, j8, j9, j10, j11, j12, j13, j14, ()) (6, 1, 0, N, [], (nextP j12 0 N).2.1, (nextP j12 0 N).2.2, 1, true, false, ()) 1 N 3 = ((9, 1, 0, N, [], 0, false, 0, false, false, ()), false) := rfl
  have hg : 0 ≤ (0 : Int) ∧ (0 : Int) < (j12.length : Int) := by omega
  have hz : (0 : Int).toNat = 0 := rfl
  rw [need_eq ⟨hj, h2, uN⟩]
  cases again
  · rw [if_neg (by decide)]
    simp only [e1]
    rw [if_pos (by decide), if_pos (by decide), if_pos (by decide), if_neg (by decide), need_eq ⟨hj, h3 _, uN, u3⟩, if_neg (by decide)]
    cases ok
    · simp only [e4]
      rfl
    · simp only [e5, e7]
      rw [if_neg (by decide), need_eq ⟨hj, h5 _, uN, u3⟩, if_pos hg, hz, hfi, if_pos (by simp)]
      rfl
  · rw [if_pos rfl, need_eq ⟨hj, h2, uN⟩]
    simp only [e2]
    rw [if_pos (by decide), if_pos (by decide), if_pos (by decide), if_neg (by decide), need_eq ⟨hj, h3 _, uN, u3⟩, if_pos (by simp)]
    cases ok
    · simp only [e3]
      rfl
    · simp only [e5, e6]
      rw [if_neg (by decide), need_eq ⟨hj, h5 _, uN, u3⟩, if_pos hg, hz, hfi, if_pos (by simp)]
      rfl
theorem p_lifeClimbs (m : List Int) (now : Int) (h : WfT [.slice (.int .i64), .int .u64] (m, now, ())) : m_lifeClimbs 10 m now = resB true := by
  obtain ⟨hm, hn, _⟩ := h
  have hd := deck_new hm
  replace hn := wfu64 hn
  unfold m_lifeClimbs
  simp only [bindv]
  rw [need_eq ⟨hd, trivial⟩, need_eq new_ok, tmodN hn.1]
  have hN : 0 ≤ now % 1099511627776 ∧ now % 1099511627776 < 1099511627776 := by omega
  generalize now % 1099511627776 = N at hN
  simp only [spawn_new]
  have hJ := (job_made ⟨#[97]⟩ hd).1
  generalize (jobP (m, 0, ()) ⟨#[97]⟩).1 = J at hJ
  have hj := made_ok hJ
  have hla := hJ.some
  have hr := hJ.rungs
  have uN : U64 N := by unfold U64; omega
  have u0 : U64 (0 : Int) := by unfold U64; omega
  have h2 : LifeOk ((2, 1, 0, 0, [], 0, false, 0, false, false, ()) : Life) := by unfold LifeOk Us U64 I64; simp
  obtain ⟨j0, j1, j2, j3, j4, j5, j6, j7, j8, j9, j10, j11, L, j13, j14, ⟨⟩⟩ := J
  simp only at hla hr
  have e1 : spawnedP (j0, j1, j2, j3, j4, j5, j6, j7, j8, j9, j10, j11, L, j13, j14, ()) (2, 1, 0, 0, [], 0, false, 0, false, false, ()) true true N 0 = ((4, 1, 0, N, [], 0, false, 0, false, false, ()), 0, false) := rfl
  have h4 : LifeOk ((4, 1, 0, N, [], 0, false, 0, false, false, ()) : Life) := ⟨by simp, uN, by unfold Us; simp, u0, by unfold I64; simp⟩
  have e2 : stopP (j0, j1, j2, j3, j4, j5, j6, j7, j8, j9, j10, j11, L, j13, j14, ()) (4, 1, 0, N, [], 0, false, 0, false, false, ()) N = ((6, 1, 0, N, [], (nextP L 0 N).2.1, (nextP L 0 N).2.2, 1, false, false, ()), (nextP L 0 N).1) := rfl
  have hsl := steps_len L N
  rw [need_eq ⟨hj, h2, uN, u0⟩]
  simp only [e1]
  rw [need_eq ⟨hj, h4, uN⟩]
  simp only [e2]
  rw [need_eq ⟨hr, uN⟩]
  have h6 : ∀ (x : Int) (b : Bool) (k : Nat), U64 x → k ≤ 5 → LifeOk ((6, 1, 0, N, [], x, b, (k : Int), false, false, ()) : Life) := fun x b k hx hk => ⟨by simp, uN, by unfold Us; simp, hx, by unfold I64; simp only; omega⟩
  refine loop_to (fun d => ∃ (i : Nat) (a s : Int) (due : Int) (armed : Bool), i ≤ L.length + 1 ∧ U64 a ∧ U64 due ∧ d = (N, s, ((stepsP L N).length : Int), (i : Int), j0, j1, j2, j3, j4, j5, j6, j7, j8, j9, j10, j11, L, j13, j14, 6, 1, 0, N, [], due, armed, (if i ≤ L.length then (i : Int) + 1 else (i : Int)), false, false, stepsP L N, ()) ∧
      (i ≤ L.length → (stepsP L N).drop i = stepsP (L.drop i) a ∧ s = (nextP L i a).1 ∧ due = (nextP L i a).2.1 ∧ armed = (nextP L i a).2.2) ∧ (i = L.length + 1 → s = 0)) (fun d => L.length + 1 - d.2.2.2.1.toNat) ?_
    ⟨0, N, _, _, _, by omega, uN, next_ok hr uN, rfl, fun _ => ⟨rfl, rfl, rfl, rfl⟩, fun h => by omega⟩ (by simp only; omega)
  rintro d ⟨i, a, s, due, armed, hi, ha, hdue, rfl, hI, hE⟩
  simp only [Int.toNat_natCast]
  by_cases c : i = L.length + 1
  · left; intro again
    have hs := hE c
    subst hs
    have hle := h6 due armed i hdue (by omega)
    rw [if_neg (by rw [hsl, c]; simp), if_neg (by decide), if_neg (show ¬ i ≤ L.length by omega), need_eq ⟨hj, hle, uN, u0⟩]
    rfl
  have hil : i ≤ L.length := by omega
  obtain ⟨hdr, rfl, rfl, rfl⟩ := hI hil
  right
  have hlt : i < (stepsP L N).length := by omega
  have hget : (stepsP L N).getD i (0, 0, ()) = (a, (nextP L i a).1, ()) := by
    have := drop_getD (stepsP L N) i (0, 0, ()) hlt
    rw [hdr] at this
    by_cases ci : i = L.length
    · subst ci
      rw [steps_last] at this
      exact (List.cons.inj this).1.symm
    · rw [steps_next a (by omega)] at this
      exact (List.cons.inj this).1.symm
  rw [if_pos hil]
  by_cases ci : i = L.length
  · subst ci
    have en : nextP L (L.length : Int) a = (9, 0, false) := by
      unfold nextP
      rw [if_neg (by omega), if_pos rfl]
    refine ⟨(N, 0, ((stepsP L N).length : Int), ((L.length + 1 : Nat) : Int), j0, j1, j2, j3, j4, j5, j6, j7, j8, j9, j10, j11, L, j13, j14, 6, 1, 0, N, [], 0, false, ((L.length + 1 : Nat) : Int), false, false, stepsP L N, ()), fun again => ?_, ⟨L.length + 1, a, 0, 0, false, by omega, ha, u0, by rw [if_neg (by omega)], fun h => by omega, fun _ => rfl⟩, by simp only [Int.toNat_natCast]; omega⟩
    rw [if_pos (by rw [hsl]; simp; omega), if_pos (by omega), if_pos (by omega), hget, if_pos (by simp), if_pos (by decide), wI64 (x := ((stepsP L N).length : Int) - 1) (by omega), en, if_pos (by rw [hsl]; simp), if_neg (by decide), need_eq ⟨hj, h6 _ _ (L.length + 1) u0 (by omega)⟩]
    have e4 : ∀ k, fireP (j0, j1, j2, j3, j4, j5, j6, j7, j8, j9, j10, j11, L, j13, j14, ()) (6, 1, 0, N, [], 0, false, k, false, false, ()) = ((6, 1, 0, N, [], 0, false, k, false, false, ()), 0) := fun _ => rfl
    simp only [e4]
    rw [wI64 (x := (L.length : Int) + 1) (by omega)]
    rfl
  · have hi2 : i < L.length := by omega
    have en : nextP L (i : Int) a = ((L.getD i (0, 0, ())).1, satAdd a (L.getD i (0, 0, ())).2.1, true) := by
      unfold nextP
      rw [if_neg (by omega), if_neg (by omega), Int.toNat_natCast]
    have hdr2 : (stepsP L N).drop (i + 1) = stepsP (L.drop (i + 1)) (nextP L i a).2.1 := by
      have := drop_getD (stepsP L N) i (0, 0, ()) hlt
      rw [hdr, steps_next a hi2] at this
      exact (List.cons.inj this).2.symm
    have ua := next_ok (k := (i : Int)) hr ha
    have hget2 : ((stepsP L N).getD (i + 1) (0, 0, ())).1 = (nextP L i a).2.1 := by
      have := drop_getD (stepsP L N) (i + 1) (0, 0, ()) (by omega)
      rw [hdr2] at this
      by_cases cj : i + 1 = L.length
      · rw [cj, steps_last] at this
        rw [cj, ← (List.cons.inj this).1]
      · rw [steps_next _ (by omega)] at this
        rw [← (List.cons.inj this).1]
    have harm : (nextP L (i : Int) a).2.2 = true := by rw [en]
    generalize hA : (nextP L (i : Int) a).2.1 = A at *
    refine ⟨(N, (nextP L ((i + 1 : Nat) : Int) A).1, ((stepsP L N).length : Int), ((i + 1 : Nat) : Int), j0, j1, j2, j3, j4, j5, j6, j7, j8, j9, j10, j11, L, j13, j14, 6, 1, 0, N, [], (nextP L ((i + 1 : Nat) : Int) A).2.1, (nextP L ((i + 1 : Nat) : Int) A).2.2, ((i + 1 : Nat) : Int) + 1, false, false, stepsP L N, ()), fun again => ?_, ⟨i + 1, A, _, _, _, by omega, ua, next_ok hr ua, by rw [if_pos (by omega)], fun _ => ⟨hdr2, rfl, rfl, rfl⟩, fun h => by omega⟩, by simp only [Int.toNat_natCast]; omega⟩
    rw [if_pos (by rw [hsl]; simp; omega), if_pos (by omega), if_pos (by omega), hget, if_pos (by simp), if_pos (by decide), wI64 (x := ((stepsP L N).length : Int) - 1) (by omega), harm, if_pos (by rw [hsl]; simp; omega), if_pos rfl, wI64 (x := (i : Int) + 1) (by omega), if_pos (by omega), if_pos (by omega), show ((i : Int) + 1).toNat = i + 1 by omega, hget2, if_neg (by simp), need_eq ⟨hj, h6 _ _ (i + 1) ua (by omega)⟩]
    have e4 : ∀ k : Int, fireP (j0, j1, j2, j3, j4, j5, j6, j7, j8, j9, j10, j11, L, j13, j14, ()) (6, 1, 0, N, [], A, true, k, false, false, ()) = ((6, 1, 0, N, [], (nextP L k A).2.1, (nextP L k A).2.2, Go.IntKind.wrap .i64 (k + 1), false, false, ()), (nextP L k A).1) := fun _ => rfl
    simp only [e4]
    rw [wI64 (x := (i : Int) + 1 + 1) (by omega)]
    rfl
theorem p_lifeWaits (m : List Int) (jitter : Int) (h : WfT [.slice (.int .i64), .int .u64] (m, jitter, ())) : m_lifeWaits 10 10 m jitter = resB true := by
  obtain ⟨hm, hjt, _⟩ := h
  have hd := deck_new hm
  replace hjt := wfu64 hjt
  unfold m_lifeWaits
  simp only [bindv]
  rw [need_eq ⟨hd, trivial⟩]
  obtain ⟨hJ, hdk⟩ := job_made ⟨#[97]⟩ hd
  generalize (jobP (m, 0, ()) ⟨#[97]⟩).1 = J at hJ
  generalize (jobP (m, 0, ()) ⟨#[97]⟩).2 = dk at hdk
  have hc := hJ.cap
  have hb := hJ.base
  have hu := hJ.burst
  have hw := hJ.window
  have hr := hJ.rungs
  obtain ⟨j0, j1, j2, j3, j4, j5, j6, j7, j8, j9, j10, j11, j12, j13, j14, ⟨⟩⟩ := J
  simp only at hc hb hu hw hr
  have hj : JobOk (j0, j1, j2, j3, j4, j5, 3, j7, j8, 1099511627776, j10, j11, j12, j13, j14, ()) := ⟨hr, by simp only; omega, by unfold U64; simp only; omega, by unfold U64; simp only; omega, by unfold U64; simp only; omega⟩
  have u0 : U64 (0 : Int) := by unfold U64; omega
  have hjm : 0 ≤ jitter % 9 ∧ jitter % 9 ≤ 8 := by omega
  have uj : U64 (jitter % 9) := by unfold U64; omega
  have uw : U64 j11 := by unfold U64; omega
  have uc : U64 j8 := by unfold U64; omega
  have lok : ∀ (p k r since due : Int) (times : List Int), 0 ≤ r ∧ r ≤ 8 → U64 since → Us times → U64 due → LifeOk ((p, k, r, since, times, due, false, 0, false, false, ()) : Life) := fun p k r since due times h1 h2 h3 h4 => ⟨h1, h2, h3, h4, by unfold I64; simp⟩
  refine loop_to (fun d => ∃ (k : Nat) (now since : Int) (times back : List Int) (dk : Deck), k ≤ 8 ∧ (0 ≤ now ∧ now ≤ 60 * k) ∧ U64 since ∧ DeckOk dk ∧ (times.length ≤ k ∧ ∀ t ∈ times, 0 ≤ t ∧ t ≤ now) ∧ (back.length = k ∧ ∀ t ∈ back, 0 ≤ t ∧ t ≤ now) ∧ (∀ n', now ≤ n' → trimP times n' j11 = trimP back n' j11) ∧
      d = (jitter, now, (k : Int), dk.1, dk.2.1, j0, j1, j2, j3, j4, j5, 3, j7, j8, 1099511627776, j10, j11, j12, j13, j14, 1, (k : Int), (k : Int), since, times, 0, false, 0, false, false, back, ())) (fun d => 9 - d.2.2.1.toNat) ?_
    ⟨0, 0, 0, [], [], dk, by omega, by omega, u0, hdk, by simp, by simp, fun _ _ => rfl, rfl⟩ (by simp only; omega)
  rintro d ⟨k, now, since, times, back, dk, hk, hnow, hs, hdk, ⟨ht1, ht2⟩, ⟨hb1, hb2⟩, hI, rfl⟩
  simp only [Int.toNat_natCast]
  by_cases c : k = 8
  · left; intro again
    subst c
    rw [if_neg (by simp)]
  have hk7 : k ≤ 7 := by omega
  have un : U64 now := by unfold U64; omega
  have ust : Us times := ⟨by omega, fun t ht => by have := ht2 t ht; unfold Go.Bur.U64; omega⟩
  have q := dnext_range dk (n := 12) (by omega)
  have hdk' := dadv_ok hdk
  have e1 : ∀ x, spawnP (1, x, (k : Int), since, times, 0, false, 0, false, false, ()) = ((2, Go.IntKind.wrap .i64 (x + 1), (k : Int), since, times, 0, false, 0, false, false, ()), true) := fun _ => rfl
  have e2 : ∀ x, spawnedP (j0, j1, j2, j3, j4, j5, 3, j7, j8, 1099511627776, j10, j11, j12, j13, j14, ()) (2, x, (k : Int), since, times, 0, false, 0, false, false, ()) true true now 0 = ((4, x, (k : Int), now, times, 0, false, 0, false, false, ()), 0, false) := fun _ => rfl
  have wk : Go.IntKind.wrap .i64 ((k : Int) + 1) = (k : Int) + 1 := wI64 (by omega)
  generalize hX : dnext dk 12 = X at q
  generalize hdk2 : dadv dk = dk' at hdk'
  have wX : Go.IntKind.wrap .u64 X = X := wU64 (by omega)
  generalize hY : now + X = Y
  have wY : Go.IntKind.wrap .u64 Y = Y := wU64 (by omega)
  have uY : U64 Y := by unfold U64; omega
  have hsub : Go.Bur.subP Y now = X := by unfold Go.Bur.subP; rw [if_neg (by omega)]; omega
  have e3 : exitP (j0, j1, j2, j3, j4, j5, 3, j7, j8, 1099511627776, j10, j11, j12, j13, j14, ()) (4, (k : Int) + 1, (k : Int), now, times, 0, false, 0, false, false, ()) 1 Y (jitter % 9) = overP (j0, j1, j2, j3, j4, j5, 3, j7, j8, 1099511627776, j10, j11, j12, j13, j14, ()) (4, (k : Int) + 1, (k : Int), now, times, 0, false, 0, false, false, ()) Y (jitter % 9) := by
    simp [exitP, hsub, show ¬ ((1099511627776 : Int) ≤ X) from by omega]
  have hud := delay_ok (b := j7) (l := j8) (n := (k : Int)) (j := jitter % 9) (by omega) uc (by omega) uj
  have hdl : 0 ≤ delayP j7 j8 k (jitter % 9) ∧ delayP j7 j8 k (jitter % 9) ≤ 32 := by
    have hdd := dbl_range (a := j7) (n := (k : Int)) (by omega) (by omega)
    unfold delayP satAdd
    omega
  have hdue : satAdd Y (delayP j7 j8 k (jitter % 9)) = Y + delayP j7 j8 k (jitter % 9) := by unfold satAdd; omega
  have tl := trim_len times Y j11
  have hIY := hI Y (by omega)
  have head : ∀ again, (decide ((k : Int) < 8)) = true := fun _ => by simp; omega
  by_cases ca : j10 ≤ ((trimP times Y j11).length : Int)
  · left; intro again
    have ea : allowP times j10 Y j11 = (trimP times Y j11, false) := by unfold allowP; rw [if_pos ca]
    have e4 : overP (j0, j1, j2, j3, j4, j5, 3, j7, j8, 1099511627776, j10, j11, j12, j13, j14, ()) (4, (k : Int) + 1, (k : Int), now, times, 0, false, 0, false, false, ()) Y (jitter % 9) = ((8, (k : Int) + 1, (k : Int), now, trimP times Y j11, 0, false, 0, false, false, ()), false) := by
      unfold overP
      simp only [ea]
      rw [if_neg (by simp)]
      rfl
    rw [if_pos (by simp; omega), need_eq (lok _ _ _ _ _ _ (by omega) hs ust u0)]
    simp only [e1, wk]
    rw [if_pos (by decide), if_neg (by simp), need_eq ⟨hj, lok _ _ _ _ _ _ (by omega) hs ust u0, un, u0⟩]
    simp only [e2]
    rw [deck_eta, need_eq ⟨hdk, by omega, by unfold I64; omega⟩, wX, hY, wY, tmodN hjt.1, need_eq ⟨hj, lok _ _ _ _ _ _ (by omega) un ust u0, uY, uj⟩]
    simp only [e3, e4]
    rw [if_pos (by decide)]
    refine loop_to (fun d => ∃ i : Nat, i ≤ k ∧ d = (Y, ((trimP (back.take i) Y j11).length : Int), (back.length : Int), (i : Int), j0, j1, j2, j3, j4, j5, 3, j7, j8, 1099511627776, j10, j11, j12, j13, j14, back, 8, (k : Int) + 1, (k : Int), now, trimP times Y j11, 0, false, 0, false, false, ())) (fun d => 9 - d.2.2.2.1.toNat) ?_ ⟨0, by omega, rfl⟩ (by simp only; omega)
    rintro d ⟨i, hi, rfl⟩
    simp only [Int.toNat_natCast]
    by_cases ci : i = k
    · left; intro again1
      subst ci
      rw [if_neg (by simp; omega), if_pos (by decide), List.take_of_length_le (by omega), ← hIY]
      simp [ca]
    · right
      have hlt : i < back.length := by omega
      have hbt := hb2 _ (getD_mem back i 0 hlt)
      have hl := trim_len (back.take i) Y j11
      rw [List.length_take] at hl
      have hso : outP Y j11 (back.getD i 0) = decide (j11 ≤ Y - back.getD i 0) := by unfold outP Go.Bur.subP; rw [if_neg (by omega)]
      refine ⟨(Y, ((trimP (back.take (i + 1)) Y j11).length : Int), (back.length : Int), ((i + 1 : Nat) : Int), j0, j1, j2, j3, j4, j5, 3, j7, j8, 1099511627776, j10, j11, j12, j13, j14, back, 8, (k : Int) + 1, (k : Int), now, trimP times Y j11, 0, false, 0, false, false, ()), fun again1 => ?_, ⟨i + 1, by omega, rfl⟩, by simp only [Int.toNat_natCast]; omega⟩
      rw [if_pos (by simp; omega), if_pos (by omega), if_pos (by omega), wI64 (x := (i : Int) + 1) (by omega), take_succ_getD back i 0 hlt, trim_append]
      by_cases cw : Y - back.getD i 0 < j11
      · rw [if_pos (decide_eq_true (by rw [wU64 (by omega)]; exact cw)), trim_in (by rw [hso, decide_eq_false_iff_not]; omega), wI64 (by omega)]
        simp
      · rw [if_neg (fun h => cw (by have := of_decide_eq_true h; rwa [wU64 (by omega)] at this)), trim_out (by rw [hso, decide_eq_true_iff]; omega)]
        simp
  · right
    have ea : allowP times j10 Y j11 = (trimP times Y j11 ++ [Y], true) := by unfold allowP; rw [if_neg ca]
    have e4 : overP (j0, j1, j2, j3, j4, j5, 3, j7, j8, 1099511627776, j10, j11, j12, j13, j14, ()) (4, (k : Int) + 1, (k : Int), now, times, 0, false, 0, false, false, ()) Y (jitter % 9) = ((5, (k : Int) + 1, (k : Int) + 1, now, trimP times Y j11 ++ [Y], Y + delayP j7 j8 k (jitter % 9), false, 0, false, false, ()), true) := by
      unfold overP
      simp only [ea]
      rw [if_pos (by simp), wk, hdue]
    generalize hD : delayP j7 j8 k (jitter % 9) = D at *
    have ud : U64 (Y + D) := by unfold U64; omega
    have ust2 : Us (trimP times Y j11 ++ [Y]) := ⟨by simp; omega, fun t ht => by
      rcases List.mem_append.1 ht with ht | ht
      · exact ust.2 t (trim_mem ht)
      · rw [List.mem_singleton.1 ht]; exact uY⟩
    have l5 := lok 5 ((k : Int) + 1) ((k : Int) + 1) now (Y + D) _ (by omega) un ust2 ud
    refine ⟨(jitter, Y + D, ((k + 1 : Nat) : Int), dk'.1, dk'.2.1, j0, j1, j2, j3, j4, j5, 3, j7, j8, 1099511627776, j10, j11, j12, j13, j14, 1, ((k + 1 : Nat) : Int), ((k + 1 : Nat) : Int), now, trimP times Y j11 ++ [Y], 0, false, 0, false, false, back ++ [Y], ()), fun again => ?_, ⟨k + 1, Y + D, now, _, _, dk', by omega, by omega, un, hdk', ⟨by simp; omega, fun t ht => ?_⟩, ⟨by simp; omega, fun t ht => ?_⟩, fun n' hn => ?_, rfl⟩, by simp only [Int.toNat_natCast]; omega⟩
    rw [if_pos (by simp; omega), need_eq (lok _ _ _ _ _ _ (by omega) hs ust u0)]
    simp only [e1, wk]
    rw [if_pos (by decide), if_neg (by simp), need_eq ⟨hj, lok _ _ _ _ _ _ (by omega) hs ust u0, un, u0⟩]
    simp only [e2]
    rw [deck_eta, need_eq ⟨hdk, by omega, by unfold I64; omega⟩, wX, hY, wY, tmodN hjt.1, need_eq ⟨hj, lok _ _ _ _ _ _ (by omega) un ust u0, uY, uj⟩]
    simp only [e3, e4]
    rw [if_neg (by decide), if_pos (by simp; omega), if_pos (by decide), need_eq ⟨by omega, by omega, uc, by omega, uj⟩, hD, need_eq ⟨uY, hud⟩, hdue, if_pos (by simp), wk, if_neg (by simp), need_eq l5, if_neg (by simp [spawnP]), need_eq ⟨hj, l5⟩]
    · rfl
    · rcases List.mem_append.1 ht with ht | ht
      · have := ht2 t (trim_mem ht); omega
      · rw [List.mem_singleton.1 ht]; omega
    · rcases List.mem_append.1 ht with ht | ht
      · have := hb2 t ht; omega
      · rw [List.mem_singleton.1 ht]; omega
    · rw [trim_append, trim_append, trim_trim _ _ (by omega), hI n' (by omega)]
end Go.Lif
