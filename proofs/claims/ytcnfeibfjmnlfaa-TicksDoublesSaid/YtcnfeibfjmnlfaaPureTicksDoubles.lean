/- The pure statement of the law TicksDoubles, proved for every input. Condition: none beyond the row's own. -/
import Derived.Test.YtcnfeibfjmnlfaaPTicksDoublesx1
namespace Go.Proofs.Ytcnfeibfjmnlfaa.Pure
open Go.RowKit Go.Proofs.Ytcnfeibfjmnlfaa.PTicksDoubles Go.Proofs.YtcnfeibfjmnlfaaW.PrintWords Go.Proofs.YtcnfeibfjmnlfaaW.PrintLast

-- OURS
/-! ### what saturating doubling is -/
theorem wf_u64 {a : Int} (h : (Lit.int .u64 a).wf = true) : 0 ≤ a ∧ a ≤ 18446744073709551615 := by
  simpa [Lit.wf, IntKind.min, IntKind.max, IntKind.signed, IntKind.bits] using h
theorem wf_i64 {a : Int} (h : (Lit.int .i64 a).wf = true) : -9223372036854775808 ≤ a ∧ a ≤ 9223372036854775807 := by
  simpa [Lit.wf, IntKind.min, IntKind.max, IntKind.signed, IntKind.bits] using h
theorem wf_u8 {a : Int} (h : (Lit.int .u8 a).wf = true) : 0 ≤ a ∧ a ≤ 255 := by
  simpa [Lit.wf, IntKind.min, IntKind.max, IntKind.signed, IntKind.bits] using h
theorem wrap_in {x : Int} (h0 : -9223372036854775808 ≤ x) (h1 : x ≤ 9223372036854775807) : wrap64 x = x := by
  unfold wrap64; omega

/-- a doubled n times, at most the greatest number -/
def dblN (a n : Nat) : Nat := if a * 2 ^ n < 18446744073709551616 then a * 2 ^ n else 18446744073709551615
def dbl (a n : Int) : Int := (dblN a.toNat n.toNat : Int)

theorem dblN_zero (a : Nat) (h : a < 18446744073709551616) : dblN a 0 = a := by
  unfold dblN; rw [Nat.pow_zero, Nat.mul_one, if_pos h]
theorem dblN_none (n : Nat) : dblN 0 n = 0 := by unfold dblN; rw [Nat.zero_mul, if_pos (by omega)]
theorem dblN_lt (a n : Nat) : dblN a n < 18446744073709551616 := by unfold dblN; split <;> omega
theorem dblN_top (n : Nat) : dblN 18446744073709551615 n = 18446744073709551615 := by
  unfold dblN
  have h : 1 ≤ 2 ^ n := Nat.one_le_two_pow
  generalize 2 ^ n = p at *
  split
  · have : 18446744073709551615 * p < 18446744073709551616 := by assumption
    have : p = 1 := by omega
    subst this; omega
  · rfl
theorem dblN_succ (a n : Nat) : dblN a (n + 1) = dblN (if a + a < 18446744073709551616 then a + a else 18446744073709551615) n := by
  by_cases h : a + a < 18446744073709551616
  · rw [if_pos h]
    unfold dblN
    rw [show a * 2 ^ (n + 1) = (a + a) * 2 ^ n from by rw [Nat.pow_succ, Nat.add_mul, ← Nat.mul_assoc]; omega]
  · rw [if_neg h, dblN_top]
    unfold dblN
    have h1 : 1 ≤ 2 ^ n := Nat.one_le_two_pow
    have h2 : (a + a) * 1 ≤ (a + a) * 2 ^ n := Nat.mul_le_mul_left _ h1
    rw [show a * 2 ^ (n + 1) = (a + a) * 2 ^ n from by rw [Nat.pow_succ, Nat.add_mul, ← Nat.mul_assoc]; omega]
    rw [if_neg (by omega)]
theorem dbl_range (a n : Int) : 0 ≤ dbl a n ∧ dbl a n ≤ 18446744073709551615 := by
  unfold dbl; have := dblN_lt a.toNat n.toNat; omega

/-! ### the program's doubling -/
def lenTab : ByteArray := ⟨#[0, 1, 2, 2, 3, 3, 3, 3, 4, 4, 4, 4, 4, 4, 4, 4, 5, 5, 5, 5, 5, 5, 5, 5, 5, 5, 5, 5, 5, 5, 5, 5, 6, 6, 6, 6, 6, 6, 6, 6, 6, 6, 6, 6, 6, 6, 6, 6, 6, 6, 6, 6, 6, 6, 6, 6, 6, 6, 6, 6, 6, 6, 6, 6, 7, 7, 7, 7, 7, 7, 7, 7, 7, 7, 7, 7, 7, 7, 7, 7, 7, 7, 7, 7, 7, 7, 7, 7, 7, 7, 7, 7, 7, 7, 7, 7, 7, 7, 7, 7, 7, 7, 7, 7, 7, 7, 7, 7, 7, 7, 7, 7, 7, 7, 7, 7, 7, 7, 7, 7, 7, 7, 7, 7, 7, 7, 7, 7, 8, 8, 8, 8, 8, 8, 8, 8, 8, 8, 8, 8, 8, 8, 8, 8, 8, 8, 8, 8, 8, 8, 8, 8, 8, 8, 8, 8, 8, 8, 8, 8, 8, 8, 8, 8, 8, 8, 8, 8, 8, 8, 8, 8, 8, 8, 8, 8, 8, 8, 8, 8, 8, 8, 8, 8, 8, 8, 8, 8, 8, 8, 8, 8, 8, 8, 8, 8, 8, 8, 8, 8, 8, 8, 8, 8, 8, 8, 8, 8, 8, 8, 8, 8, 8, 8, 8, 8, 8, 8, 8, 8, 8, 8, 8, 8, 8, 8, 8, 8, 8, 8, 8, 8, 8, 8, 8, 8, 8, 8, 8, 8, 8, 8, 8, 8, 8, 8, 8, 8, 8, 8, 8, 8, 8, 8, 8, 8]⟩
theorem tab_spec : ∀ i : Fin 256, (bt lenTab (i.val : Int)).toNat ≤ 8 ∧ i.val < 2 ^ (bt lenTab (i.val : Int)).toNat ∧ (i.val = 0 → (bt lenTab (i.val : Int)).toNat = 0) ∧ (i.val ≠ 0 → 2 ^ (bt lenTab (i.val : Int)).toNat ≤ 2 * i.val) := by
  decide +kernel
theorem tab_at (i : Int) (h0 : 0 ≤ i) (h1 : i < 256) : ∃ t p : Nat, bt lenTab i = t ∧ t ≤ 8 ∧ p = 2 ^ t ∧ i < p ∧ (i = 0 → t = 0) ∧ (i ≠ 0 → (p : Int) ≤ 2 * i) := by
  have h := tab_spec ⟨i.toNat, by omega⟩
  have e : ((i.toNat : Nat) : Int) = i := by omega
  simp only [e] at h
  refine ⟨(bt lenTab i).toNat, 2 ^ (bt lenTab i).toNat, ?_, h.1, rfl, ?_, ?_, ?_⟩
  · have := (bt_range lenTab i).1; omega
  · have := h.2.1; omega
  · intro hz; exact h.2.2.1 (by omega)
  · intro hz; have := h.2.2.2 (by omega); omega
theorem two_add (s t : Nat) : 2 ^ (s + t) = 2 ^ s * 2 ^ t := Nat.pow_add 2 s t
set_option maxRecDepth 20000 in
theorem len_j0 (k : Nat) (x c : Int) (s : Nat) (hc : c = s) (hs : s ≤ 32) (h0 : 0 ≤ x) (h1 : x < 4294967296) (_hx : s = 0 ∨ x ≠ 0) :
    ∃ L p : Nat, bits_Len64.j0 (k + 1) x c = some (L : Int) ∧ L ≤ s + 32 ∧ p * 2 ^ s = 2 ^ L ∧ x < p ∧ (x ≠ 0 → (p : Int) ≤ 2 * x) ∧ (x = 0 → L = s) := by
  unfold bits_Len64.j0
  subst hc
  have fold : ∀ y : Int, bt (⟨#[0, 1, 2, 2, 3, 3, 3, 3, 4, 4, 4, 4, 4, 4, 4, 4, 5, 5, 5, 5, 5, 5, 5, 5, 5, 5, 5, 5, 5, 5, 5, 5, 6, 6, 6, 6, 6, 6, 6, 6, 6, 6, 6, 6, 6, 6, 6, 6, 6, 6, 6, 6, 6, 6, 6, 6, 6, 6, 6, 6, 6, 6, 6, 6, 7, 7, 7, 7, 7, 7, 7, 7, 7, 7, 7, 7, 7, 7, 7, 7, 7, 7, 7, 7, 7, 7, 7, 7, 7, 7, 7, 7, 7, 7, 7, 7, 7, 7, 7, 7, 7, 7, 7, 7, 7, 7, 7, 7, 7, 7, 7, 7, 7, 7, 7, 7, 7, 7, 7, 7, 7, 7, 7, 7, 7, 7, 7, 7, 8, 8, 8, 8, 8, 8, 8, 8, 8, 8, 8, 8, 8, 8, 8, 8, 8, 8, 8, 8, 8, 8, 8, 8, 8, 8, 8, 8, 8, 8, 8, 8, 8, 8, 8, 8, 8, 8, 8, 8, 8, 8, 8, 8, 8, 8, 8, 8, 8, 8, 8, 8, 8, 8, 8, 8, 8, 8, 8, 8, 8, 8, 8, 8, 8, 8, 8, 8, 8, 8, 8, 8, 8, 8, 8, 8, 8, 8, 8, 8, 8, 8, 8, 8, 8, 8, 8, 8, 8, 8, 8, 8, 8, 8, 8, 8, 8, 8, 8, 8, 8, 8, 8, 8, 8, 8, 8, 8, 8, 8, 8, 8, 8, 8, 8, 8, 8, 8, 8, 8, 8, 8, 8, 8, 8, 8, 8, 8]⟩ : ByteArray) y = bt lenTab y := fun _ => rfl
  simp only [fold]
  by_cases a1 : x ≥ 65536
  · rw [if_pos a1]
    by_cases a2 : x / 65536 ≥ 256
    · rw [if_pos a2, if_pos (by omega), if_pos (by omega)]
      obtain ⟨t, p, e, h8, hp, hlt, hz, hnz⟩ := tab_at ((x / 65536) / 256 % 256) (by omega) (by omega)
      refine ⟨s + 24 + t, p * 16777216, ?_, by omega, ?_, by omega, by omega, by omega⟩
      · rw [e, wrap_in (x := (t : Int)) (by omega) (by omega), wrap_in (x := (s : Int) + 16) (by omega) (by omega), wrap_in (x := (s : Int) + 16 + 8) (by omega) (by omega), wrap_in (by omega) (by omega)]
        congr 1
      · rw [two_add, two_add, hp, show (16777216 : Nat) = 2 ^ 24 from rfl]; rw [Nat.mul_comm (2 ^ s) (2 ^ 24), Nat.mul_comm (2 ^ t) (2 ^ 24), Nat.mul_assoc, Nat.mul_assoc, Nat.mul_comm (2 ^ t) (2 ^ s)]
    · rw [if_neg a2, if_pos (by omega), if_pos (by omega)]
      obtain ⟨t, p, e, h8, hp, hlt, hz, hnz⟩ := tab_at ((x / 65536) % 256) (by omega) (by omega)
      refine ⟨s + 16 + t, p * 65536, ?_, by omega, ?_, by omega, by omega, by omega⟩
      · rw [e, wrap_in (x := (t : Int)) (by omega) (by omega), wrap_in (x := (s : Int) + 16) (by omega) (by omega), wrap_in (by omega) (by omega)]
        congr 1
      · rw [two_add, two_add, hp, show (65536 : Nat) = 2 ^ 16 from rfl]; rw [Nat.mul_comm (2 ^ s) (2 ^ 16), Nat.mul_comm (2 ^ t) (2 ^ 16), Nat.mul_assoc, Nat.mul_assoc, Nat.mul_comm (2 ^ t) (2 ^ s)]
  · rw [if_neg a1]
    by_cases a2 : x ≥ 256
    · rw [if_pos a2, if_pos (by omega), if_pos (by omega)]
      obtain ⟨t, p, e, h8, hp, hlt, hz, hnz⟩ := tab_at ((x / 256) % 256) (by omega) (by omega)
      refine ⟨s + 8 + t, p * 256, ?_, by omega, ?_, by omega, by omega, by omega⟩
      · rw [e, wrap_in (x := (t : Int)) (by omega) (by omega), wrap_in (x := (s : Int) + 8) (by omega) (by omega), wrap_in (by omega) (by omega)]
        congr 1
      · rw [two_add, two_add, hp, show (256 : Nat) = 2 ^ 8 from rfl]; rw [Nat.mul_comm (2 ^ s) (2 ^ 8), Nat.mul_comm (2 ^ t) (2 ^ 8), Nat.mul_assoc, Nat.mul_assoc, Nat.mul_comm (2 ^ t) (2 ^ s)]
    · rw [if_neg a2, if_pos (by omega), if_pos (by omega)]
      obtain ⟨t, p, e, h8, hp, hlt, hz, hnz⟩ := tab_at (x % 256) (by omega) (by omega)
      refine ⟨s + t, p, ?_, by omega, ?_, by omega, by omega, by omega⟩
      · rw [e, wrap_in (x := (t : Int)) (by omega) (by omega), wrap_in (by omega) (by omega)]
        congr 1
      · rw [two_add, hp, Nat.mul_comm]
theorem len_spec (k : Nat) (a : Nat) (h1 : a < 18446744073709551616) :
    ∃ L : Nat, bits_Len64.f (k + 1) a = some (L : Int) ∧ L ≤ 64 ∧ a < 2 ^ L ∧ (a ≠ 0 → 2 ^ L ≤ 2 * a) := by
  unfold bits_Len64.f
  by_cases hb : (a : Int) ≥ 4294967296
  · rw [if_pos hb]
    obtain ⟨L, p, e, hL, hp, hlt, hnz, hz⟩ := len_j0 k ((a : Int) / 4294967296) 32 32 rfl (by omega) (by omega) (by omega) (.inr (by omega))
    refine ⟨L, e, by omega, ?_, ?_⟩
    · rw [← hp]; have := hlt; omega
    · intro _; rw [← hp]; have := hnz (by omega); omega
  · rw [if_neg hb]
    obtain ⟨L, p, e, hL, hp, hlt, hnz, hz⟩ := len_j0 k (a : Int) 0 0 rfl (by omega) (by omega) (by omega) (.inl rfl)
    refine ⟨L, e, by omega, ?_, ?_⟩
    · rw [← hp]; omega
    · intro hne; rw [← hp]; have := hnz (by omega); omega
theorem double_nat (k : Nat) (a n : Nat) (h1 : a < 18446744073709551616) (hn : n ≤ 9223372036854775807) : ticks_Double.f (k + 2) a n = some (dblN a n : Int) := by
  unfold ticks_Double.f
  by_cases h0 : (n : Int) ≤ 0
  · rw [if_pos h0]
    obtain rfl : n = 0 := by omega
    simp only [ticks_Double.j0]
    rw [if_pos True.intro, dblN_zero a h1]
  · rw [if_neg h0]
    simp only [ticks_Double.j0]
    by_cases ha : a = 0
    · subst ha; rw [dblN_none]; rfl
    · have hb : ((a : Int) == 0) = false := beq_eq_false_iff_ne.mpr (by omega)
      rw [hb, if_neg (by decide)]
      obtain ⟨L, e, h64, hlt, hle⟩ := len_spec k a h1
      have hle := hle ha
      unfold bits_LeadingZeros64.f
      rw [e]
      simp only [Option.bind_some]
      rw [wrap_in (x := 64 - (L : Int)) (by omega) (by omega)]
      have hpn : 1 ≤ 2 ^ n := Nat.one_le_two_pow
      by_cases hov : 64 - (L : Int) < n
      · rw [if_pos hov]
        have h65 : 2 ^ 65 ≤ 2 ^ (L + n) := Nat.pow_le_pow_right (by omega) (by omega)
        rw [Nat.pow_add] at h65
        have hm : 2 ^ L * 2 ^ n ≤ 2 * a * 2 ^ n := Nat.mul_le_mul_right _ hle
        have h2 : 2 * a * 2 ^ n = 2 * (a * 2 ^ n) := Nat.mul_assoc _ _ _
        unfold dblN
        rw [if_neg (by omega)]
        rfl
      · rw [if_neg hov, if_pos (by omega)]
        have hle2 : L + n ≤ 64 := by omega
        have hp64 : 2 ^ (L + n) ≤ 2 ^ 64 := Nat.pow_le_pow_right (by omega) hle2
        rw [Nat.pow_add] at hp64
        have hm : a * 2 ^ n < 2 ^ L * 2 ^ n := Nat.mul_lt_mul_of_pos_right hlt (by omega)
        unfold dblN
        have hfin : a * 2 ^ n < 18446744073709551616 := by omega
        rw [if_pos hfin]
        unfold shl
        rw [show min (n : Int).toNat IntKind.u64.bits = n from by simp only [Int.toNat_natCast]; exact Nat.min_eq_left (by simp only [IntKind.bits]; omega)]
        rw [show (a : Int) * 2 ^ n = ((a * 2 ^ n : Nat) : Int) from by simp]
        generalize a * 2 ^ n = q at *
        congr 1
        simp only [IntKind.wrap, IntKind.signed, IntKind.bits]
        simp
        omega
theorem double_is (k : Nat) (a n : Int) (h0 : 0 ≤ a) (h1 : a ≤ 18446744073709551615) (hn : n ≤ 9223372036854775807) : ticks_Double.f (k + 2) a n = some (dbl a n) := by
  obtain ⟨a, rfl⟩ := Int.eq_ofNat_of_zero_le h0
  by_cases hz : 0 ≤ n
  · obtain ⟨n, rfl⟩ := Int.eq_ofNat_of_zero_le hz
    exact double_nat k a n (by omega) (by omega)
  · unfold ticks_Double.f dbl
    rw [if_pos (by omega)]
    simp only [ticks_Double.j0]
    rw [if_pos True.intro, show n.toNat = 0 from by omega, Int.toNat_natCast, dblN_zero a (by omega)]
def plus (a b : Int) : Int := if a + b < 18446744073709551616 then a + b else 18446744073709551615
theorem plus_range {a b : Int} (ha : 0 ≤ a) (hb : 0 ≤ b) : 0 ≤ plus a b ∧ plus a b ≤ 18446744073709551615 := by unfold plus; split <;> omega
theorem add_is {a b : Int} (ha : 0 ≤ a) (hb : 0 ≤ b) : ticks_Add.f a b = some (plus a b) := by unfold ticks_Add.f plus; rw [if_pos ⟨ha, hb⟩]
def wait (b l n j : Int) : Int := plus (mn l (dbl b n)) j
theorem delay_is (k : Nat) {b l n j : Int} (hb : 0 ≤ b ∧ b ≤ 18446744073709551615) (hl : 0 ≤ l) (hn : n ≤ 9223372036854775807) (hj : 0 ≤ j) : ticks_Delay.f (k + 2) b l n j = some (wait b l n j) := by
  unfold ticks_Delay.f wait
  rw [double_is k b n hb.1 hb.2 hn]
  simp only [Option.bind_some]
  have := (dbl_range b n).1
  rw [add_is (by unfold mn; split <;> omega) hj]
  rfl
theorem sane_is (k : Nat) : jobmuxlaw01_sane.f (k + 2) = some true := by
  unfold jobmuxlaw01_sane.f
  rw [show ticks_Add.f 18446744073709551615 5 = some 18446744073709551615 from by decide +kernel]
  simp only [Option.bind_some]
  rw [if_pos True.intro, delay_is k (by omega) (by omega) (by omega) (by omega), show wait 100 1000 3 7 = 807 from by decide +kernel]
  simp only [Option.bind_some]
  rw [if_pos True.intro, delay_is k (by omega) (by omega) (by omega) (by omega), show wait 100 1000 4 7 = 1007 from by decide +kernel]
  simp only [Option.bind_some]
  rw [if_pos True.intro, show ticks_Sub.f 3 9 = some 0 from by decide +kernel]
  rfl
theorem sub_is {a b : Int} (ha : 0 ≤ a ∧ a ≤ 18446744073709551615) (hb : 0 ≤ b ∧ b ≤ 18446744073709551615) : ticks_Sub.f a b = some (if b ≤ a then a - b else 0) := by
  unfold ticks_Sub.f; rw [if_pos (by omega)]

theorem dblN_dblN (a m n : Nat) (h : a < 18446744073709551616) : dblN (dblN a m) n = dblN a (m + n) := by
  induction m generalizing a with
  | zero => rw [dblN_zero a h, Nat.zero_add]
  | succ m ih =>
    rw [dblN_succ, show m + 1 + n = (m + n) + 1 from by omega, dblN_succ]
    exact ih _ (by split <;> omega)
theorem TicksDoubles : jobmuxlaw01_TicksDoubles.Pure := by
  intro a n m ha hn hm
  have ha := wf_u64 ha
  have hn := wf_u8 hn
  have hm := wf_u8 hm
  refine ⟨2, ?_⟩
  unfold jobmuxlaw01_TicksDoubles.f
  rw [sane_is 0]
  simp only [Option.bind_some]
  have r1 := dbl_range a n
  rw [if_pos True.intro, wrap_in (x := n) (by omega) (by omega), wrap_in (x := m) (by omega) (by omega), wrap_in (x := n + m) (by omega) (by omega), double_is 0 a n ha.1 ha.2 (by omega)]
  simp only [Option.bind_some]
  rw [double_is 0 _ m r1.1 r1.2 (by omega), double_is 0 a (n + m) ha.1 ha.2 (by omega)]
  simp only [Option.bind_some]
  rw [if_pos (by unfold dbl; rw [Int.toNat_natCast, dblN_dblN _ _ _ (by omega), show (n + m).toNat = n.toNat + m.toNat from by omega])]
  rw [double_is 0 a 1 ha.1 ha.2 (by omega), add_is ha.1 ha.1]
  simp only [Option.bind_some]
  rw [if_pos (by unfold dbl dblN plus; rw [show (1 : Int).toNat = 1 from rfl, Nat.pow_one]; by_cases h : a + a < 18446744073709551616
                 · rw [if_pos (by omega), if_pos h]; omega
                 · rw [if_neg (by omega), if_neg h]; rfl)]
  rw [double_is 0 a 0 ha.1 ha.2 (by omega)]
  simp only [Option.bind_some]
  rw [show dbl a 0 = a from by unfold dbl; rw [show (0 : Int).toNat = 0 from rfl, dblN_zero _ (by omega)]; omega]
  simp

end Go.Proofs.Ytcnfeibfjmnlfaa.Pure
