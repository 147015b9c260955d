/- Contracts of functions without bodies ('Ab'). -/
import Derived.Test.YtafjegmiildnkaaAbFn
import Derived.Laws.Externs
set_option linter.unusedVariables false
set_option linter.unusedSimpArgs false
set_option linter.unnecessarySimpa false
namespace Go.Ab
open Go.RowKit
def add64S : Spec := fun as => match as with
  | [.val (false, [(_, ⟨.int .u64, x⟩)]), .val (false, [(_, ⟨.int .u64, y⟩)]), .val (false, [(_, ⟨.int .u64, c⟩)])] =>
    .yes (0 ≤ x ∧ 0 ≤ y ∧ 0 ≤ c ∧ c ≤ 1) inferInstance ⟨.tup [(false, [(none, ⟨.int .u64, (x + y + c) % 18446744073709551616⟩)]), (false, [(none, ⟨.int .u64, (x + y + c) / 18446744073709551616⟩)])], []⟩
  | _ => .no
section
variable {P : Program}
theorem one_int {w : World} {S : Nat → Prop} {k : IntKind} {n : Int} {o : Option TypeId} {v : Value} (h : ArgR w S (.val (false, [(o, ⟨.int k, n⟩)])) v) : v = .int k n := by
  obtain ⟨_, h2⟩ := h
  cases h2 with
  | cons h3 _ => simpa [CR] using h3.2
theorem add64_ok {f : FuncId} {fn : Func} (hf : P.funcs[f]? = some fn) (hname : (fn.name == "runtime.NumGoroutine") = false) (hb : fn.body.isNone = true) (hn : Extern.findNext fn = none) (he : Extern.find fn = some add64Entry) : CallOk P f add64S := by
  refine callOk_value fun as c dc r hG hc w S vs hargs => ?_
  unfold add64S at hG
  split at hG
  · rename_i _ x _ y _ z
    cases hG
    obtain ⟨h1, h2, h3, h4⟩ := hc
    obtain ⟨vs⟩ := vs
    match vs, hargs with
    | [v1, v2, v3], .cons a1 (.cons a2 (.cons a3 .nil)) =>
      have e1 := one_int a1
      have e2 := one_int a2
      have e3 := one_int a3
      subst e1
      subst e2
      subst e3
      refine ⟨.tuple #[.int .u64 ((x + y + z) % 18446744073709551616), .int .u64 ((x + y + z) / 18446744073709551616)], ?_, ?_, rfl, rfl, rfl⟩
      · rw [run_callFunc_extern hf hname hb hn he, run_add64 x y z h1 h2 h3 h4]; rfl
      · refine ⟨_, rfl, .cons ?_ (.cons ?_ .nil)⟩
        · exact ⟨fun h => by simp at h, .cons rfl .nil⟩
        · exact ⟨fun h => by simp at h, .cons rfl .nil⟩
  · cases hG
end
end Go.Ab
