/- The forms in which models are printed ('Ab'), and laws of loops and of wrapped numbers for the pure proofs. -/
import Derived.Test.YtlcibodnpogfhaaAbLoop
set_option linter.unusedVariables false
set_option linter.unusedSimpArgs false
set_option linter.unnecessarySimpa false
namespace Go.Ab
open Go.RowKit
@[reducible] noncomputable def need (c : Prop) (x : Option Res) : Option Res := @ite _ c (Classical.propDecidable c) x none
theorem need_eq {c : Prop} {x : Option Res} (h : c) : need c x = x := if_pos h
@[reducible] def bindv {α : Type} (x : α) (f : α → Option Res) : Option Res := f x
abbrev resB (b : Bool) : Option Res := some ⟨.val (false, [(none, ⟨.bool, b⟩)]), []⟩
/-- A loop: X is kept by each round, until it is the answer. -/
theorem loop_run {δ : Type} {F : δ → (δ → Option Res) → Option Res} (I : δ → Prop) (m : δ → Nat) (X : δ → Option Res)
    (h : ∀ d, I d → (∀ again, F d again = X d) ∨ ∃ d', (∀ again, F d again = again d') ∧ X d' = X d ∧ I d' ∧ m d' < m d) : ∀ (n : Nat) (d : δ), I d → m d < n → loopN F n d = X d
  | 0, _, _, h0 => by omega
  | n + 1, d, hI, hm => by
    rcases h d hI with h1 | ⟨d', h1, h2, h3, h4⟩
    · exact h1 _
    · rw [← h2]
      exact (h1 _).trans (loop_run I m X h n d' h3 (by omega))
/-- .. where the answer is one and the same. -/
theorem loop_to {δ : Type} {F : δ → (δ → Option Res) → Option Res} {n : Nat} {d : δ} {r : Option Res} (I : δ → Prop) (m : δ → Nat)
    (h : ∀ d, I d → (∀ again, F d again = r) ∨ ∃ d', (∀ again, F d again = again d') ∧ I d' ∧ m d' < m d) (h0 : I d) (hm : m d < n) : loopN F n d = r :=
  loop_run I m (fun _ => r) (fun d hI => by
    rcases h d hI with h1 | ⟨d', h1, h2, h3⟩
    · exact .inl h1
    · exact .inr ⟨d', h1, rfl, h2, h3⟩) n d h0 hm
theorem loop_succ {δ : Type} {F : δ → (δ → Option Res) → Option Res} {n : Nat} {d : δ} : loopN F (n + 1) d = F d (loopN F n) := rfl
theorem wI64 {x : Int} (h : -9223372036854775808 ≤ x ∧ x ≤ 9223372036854775807) : Go.IntKind.wrap .i64 x = x := by
  simp [Go.IntKind.wrap, Go.IntKind.signed, Go.IntKind.bits]; omega
theorem wU64 {x : Int} (h : 0 ≤ x ∧ x ≤ 18446744073709551615) : Go.IntKind.wrap .u64 x = x := by
  simp [Go.IntKind.wrap, Go.IntKind.signed, Go.IntKind.bits]; omega
theorem wrapu64_mod (x : Int) : Go.IntKind.wrap .u64 x = x % 18446744073709551616 := by
  simp [Go.IntKind.wrap, Go.IntKind.signed, Go.IntKind.bits]
theorem wrapu8_mod (x : Int) : Go.IntKind.wrap .u8 x = x % 256 := by
  simp [Go.IntKind.wrap, Go.IntKind.signed, Go.IntKind.bits]
theorem wrapu32_mod (x : Int) : Go.IntKind.wrap .u32 x = x % 4294967296 := by
  simp [Go.IntKind.wrap, Go.IntKind.signed, Go.IntKind.bits]
theorem wI64_range (x : Int) : -9223372036854775808 ≤ Go.IntKind.wrap .i64 x ∧ Go.IntKind.wrap .i64 x ≤ 9223372036854775807 := by
  simp [Go.IntKind.wrap, Go.IntKind.signed, Go.IntKind.bits]; split <;> omega
theorem minK_eq (a b : Int) : minK a b = min a b := by unfold minK; split <;> omega
theorem maxK_eq (a b : Int) : maxK a b = max a b := by unfold maxK; split <;> omega
theorem tdivN {x y : Int} (h : 0 ≤ x) : Int.tdiv x y = x / y := Int.tdiv_eq_ediv_of_nonneg h
theorem tmodN {x y : Int} (h : 0 ≤ x) : Int.tmod x y = x % y := Int.tmod_eq_emod_of_nonneg h
theorem tmod_cases (x y : Int) (hy : 0 < y) : (Int.tmod x y < 0 → Int.tmod x y + y = x % y) ∧ (0 ≤ Int.tmod x y → Int.tmod x y = x % y) ∧ -y < Int.tmod x y ∧ Int.tmod x y < y := by
  have h0 := Int.tmod_eq_emod (a := x) (b := y)
  have h1 := Int.emod_nonneg x (show y ≠ 0 by omega)
  have h2 := Int.emod_lt_of_pos x hy
  have e : (y.natAbs : Int) = y := by omega
  split at h0 <;> rw [h0] <;> omega
theorem drop_getD {α : Type} (l : List α) (i : Nat) (x : α) (h : i < l.length) : l.drop i = l.getD i x :: l.drop (i + 1) := by
  rw [List.drop_eq_getElem_cons h]; simp [List.getD, List.getElem?_eq_getElem h]
theorem getD_mem {α : Type} (l : List α) (i : Nat) (x : α) (h : i < l.length) : l.getD i x ∈ l := by
  simp only [List.getD, List.getElem?_eq_getElem h, Option.getD_some]
  exact List.getElem_mem h
theorem take_succ_getD {α : Type} (l : List α) (i : Nat) (x : α) (h : i < l.length) : l.take (i + 1) = l.take i ++ [l.getD i x] := by
  rw [List.take_add_one]; simp [List.getD, List.getElem?_eq_getElem h]
/-- What is known of every datum that comes in. -/
def Wf : (t : Ty) → t.den → Prop
  | .int k, d => (Lit.int k d).wf = true
  | .bool, _ => True
  | .str, s => ByteArray.size s ≤ 140737488351232
  | .slice t, l => List.length l ≤ 140737488351232 ∧ ∀ x ∈ (show List t.den from l), Wf t x
  | .pair a b, d => Wf a d.1 ∧ Wf b d.2
  | .unit, _ => True
def WfT : (tys : List Ty) → Tup tys → Prop
  | [], _ => True
  | t :: ts, d => Wf t d.1 ∧ WfT ts d.2
theorem wf64 {x : Int} (h : Wf (.int .i64) x) : -9223372036854775808 ≤ x ∧ x ≤ 9223372036854775807 := by
  have h : (Lit.int .i64 x).wf = true := h
  simp [Lit.wf, IntKind.min, IntKind.max, IntKind.signed, IntKind.bits] at h; omega
theorem wfu64 {x : Int} (h : Wf (.int .u64) x) : 0 ≤ x ∧ x ≤ 18446744073709551615 := by
  have h : (Lit.int .u64 x).wf = true := h
  simp [Lit.wf, IntKind.min, IntKind.max, IntKind.signed, IntKind.bits] at h; omega
theorem wfu8 {x : Int} (h : Wf (.int .u8) x) : 0 ≤ x ∧ x ≤ 255 := by
  have h : (Lit.int .u8 x).wf = true := h
  simp [Lit.wf, IntKind.min, IntKind.max, IntKind.signed, IntKind.bits] at h; omega
end Go.Ab
