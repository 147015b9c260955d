/- Contracts of functions without bodies ('Ab'). -/
import Derived.Test.YtlcibodnpogfhaaAbFn
import Derived.Laws.Externs
set_option linter.unusedVariables false
set_option linter.unusedSimpArgs false
set_option linter.unnecessarySimpa false
namespace Go.Ab
open Go.RowKit
def add64S : Spec := fun as => match as with
  | [.val (false, [(_, ⟨.int .u64, x⟩)]), .val (false, [(_, ⟨.int .u64, y⟩)]), .val (false, [(_, ⟨.int .u64, c⟩)])] =>
    .yes (0 ≤ x ∧ 0 ≤ y ∧ 0 ≤ c ∧ c ≤ 1) inferInstance ⟨.tup [(false, [(none, ⟨.int .u64, (x + y + c) % 18446744073709551616⟩)]), (false, [(none, ⟨.int .u64, (x + y + c) / 18446744073709551616⟩)])], []⟩
  | _ => .no
section
variable {P : Program}
theorem one_int {w : World} {S : Nat → Prop} {k : IntKind} {n : Int} {o : Option TypeId} {v : Value} (h : ArgR w S (fun _ => True) (.val (false, [(o, ⟨.int k, n⟩)])) v) : v = .int k n := by
  obtain ⟨_, h2⟩ := h
  cases h2 with
  | cons h3 _ =>
    cases o with
    | none => simpa [PartR, CR] using h3
    | some e => exact h3.elim
theorem add64_ok {f : FuncId} {fn : Func} (hf : P.funcs[f]? = some fn) (hname : (fn.name == "runtime.NumGoroutine") = false) (hb : fn.body.isNone = true) (hn : Extern.findNext fn = none) (he : Extern.find fn = some add64Entry) : CallOk P f add64S := by
  refine callOk_value fun as c dc r hG hc w S vs hargs => ?_
  unfold add64S at hG
  split at hG
  · rename_i _ x _ y _ z
    cases hG
    obtain ⟨h1, h2, h3, h4⟩ := hc
    obtain ⟨vs⟩ := vs
    match vs, hargs with
    | [v1, v2, v3], .cons a1 (.cons a2 (.cons a3 .nil)) =>
      have e1 := one_int a1
      have e2 := one_int a2
      have e3 := one_int a3
      subst e1
      subst e2
      subst e3
      refine ⟨.tuple #[.int .u64 ((x + y + z) % 18446744073709551616), .int .u64 ((x + y + z) / 18446744073709551616)], ?_, ?_, rfl, rfl, rfl⟩
      · rw [run_callFunc_extern hf hname hb hn he, run_add64 x y z h1 h2 h3 h4]; rfl
      · refine ⟨_, rfl, .cons ?_ (.cons ?_ .nil)⟩
        · exact ⟨fun h => by simp at h, .cons rfl .nil⟩
        · exact ⟨fun h => by simp at h, .cons rfl .nil⟩
  · cases hG
def sub64Entry : Array Value → Sem Value := fun args => do
  let (x, y, b) ← Extern.MathBitsCarry.three "Sub64" args
  pure (Extern.MathBitsCarry.pair ((x + Extern.MathBitsCarry.m64 - y - b) % Extern.MathBitsCarry.m64) (if x < y + b then 1 else 0))
theorem run_sub64 (x y c : Int) (hx : 0 ≤ x) (hy : 0 ≤ y) (hy2 : y < 18446744073709551616) (hc0 : 0 ≤ c) (hc : c ≤ 1) (w : World) :
    (sub64Entry #[.int .u64 x, .int .u64 y, .int .u64 c]).run P w =
      .ok (.tuple #[.int .u64 ((x + 18446744073709551616 - y - c) % 18446744073709551616), .int .u64 (if x < y + c then 1 else 0)]) w := by
  have key : ∀ k : Nat, k ≤ 1 → (sub64Entry #[.int .u64 x, .int .u64 y, .int .u64 (k : Int)]).run P w =
      .ok (Extern.MathBitsCarry.pair ((x.toNat + Extern.MathBitsCarry.m64 - y.toNat - k) % Extern.MathBitsCarry.m64) (if x.toNat < y.toNat + k then 1 else 0)) w := by
    intro k hk
    have : k = 0 ∨ k = 1 := by omega
    rcases this with rfl | rfl <;> rfl
  obtain ⟨k, rfl⟩ := Int.eq_ofNat_of_zero_le hc0
  rw [key k (by omega)]
  obtain ⟨X, rfl⟩ := Int.eq_ofNat_of_zero_le hx
  obtain ⟨Y, rfl⟩ := Int.eq_ofNat_of_zero_le hy
  have hm : Extern.MathBitsCarry.m64 = 18446744073709551616 := rfl
  have e1 : (((X + 18446744073709551616 - Y - k) % 18446744073709551616 : Nat) : Int) = ((X : Int) + 18446744073709551616 - Y - k) % 18446744073709551616 := by omega
  have e2 : (((if X < Y + k then 1 else 0) : Nat) : Int) = if (X : Int) < Y + k then 1 else 0 := by split <;> split <;> omega
  simp only [Extern.MathBitsCarry.pair, Int.toNat_natCast, hm, Int.ofNat_eq_natCast, e1, e2]
def sub64S : Spec := fun as => match as with
  | [.val (false, [(_, ⟨.int .u64, x⟩)]), .val (false, [(_, ⟨.int .u64, y⟩)]), .val (false, [(_, ⟨.int .u64, c⟩)])] =>
    .yes (0 ≤ x ∧ 0 ≤ y ∧ y < 18446744073709551616 ∧ 0 ≤ c ∧ c ≤ 1) inferInstance ⟨.tup [(false, [(none, ⟨.int .u64, (x + 18446744073709551616 - y - c) % 18446744073709551616⟩)]), (false, [(none, ⟨.int .u64, if x < y + c then 1 else 0⟩)])], []⟩
  | _ => .no
theorem sub64_ok {f : FuncId} {fn : Func} (hf : P.funcs[f]? = some fn) (hname : (fn.name == "runtime.NumGoroutine") = false) (hb : fn.body.isNone = true) (hn : Extern.findNext fn = none) (he : Extern.find fn = some sub64Entry) : CallOk P f sub64S := by
  refine callOk_value fun as c dc r hG hc w S vs hargs => ?_
  unfold sub64S at hG
  split at hG
  · rename_i _ x _ y _ z
    cases hG
    obtain ⟨h1, h2, h2', h3, h4⟩ := hc
    obtain ⟨vs⟩ := vs
    match vs, hargs with
    | [v1, v2, v3], .cons a1 (.cons a2 (.cons a3 .nil)) =>
      have e1 := one_int a1
      have e2 := one_int a2
      have e3 := one_int a3
      subst e1
      subst e2
      subst e3
      refine ⟨.tuple #[.int .u64 ((x + 18446744073709551616 - y - z) % 18446744073709551616), .int .u64 (if x < y + z then 1 else 0)], ?_, ?_, rfl, rfl, rfl⟩
      · rw [run_callFunc_extern hf hname hb hn he, run_sub64 x y z h1 h2 h2' h3 h4]; rfl
      · refine ⟨_, rfl, .cons ?_ (.cons ?_ .nil)⟩
        · exact ⟨fun h => by simp at h, .cons rfl .nil⟩
        · exact ⟨fun h => by simp at h, .cons rfl .nil⟩
  · cases hG
end
end Go.Ab
