/- The law ReloadPlans of the given program: its row, as it is given. No condition beyond the given statement's own. -/
import Derived.Test.YtlcibodnpogfhaaRows
import Derived.Test.YtlcibodnpogfhaaRlqW
import Derived.Test.YtlcibodnpogfhaaAbArg
import Derived.WalkKit
import Derived.ProofKit
import Derived.OpenShut
import Derived.ShutString
import Derived.ChangeOld
import Derived.Below
import Derived.SizedLaws
namespace Go.Proofs.Ytlcibodnpogfhaa.reloadPlans
open Go.ChangeShapes Go.WideShapes Go.ChangeAt Go.RowKit Go.Ab Go.Rlq Go.YtlcibodnpogfhaaTy
set_option linter.unusedVariables false
theorem own : ownKnob Try.prog.godebug = none := by kernel_rfl
theorem laidOut : laidOutB Try.prog = true := by kernel_rfl
theorem argTys : ArgTys Try.prog Try.f3.params.toList [.slice (.int .i64), .slice (.int .i64), .slice (.pair (.str) (.pair (.str) (.pair (.slice (.pair (.str) (.pair (.str) (.unit)))) (.pair (.slice (.str)) (.pair (.bool) (.pair (.str) (.pair (.int .i64) (.pair (.int .u64) (.pair (.int .u64) (.pair (.int .u64) (.pair (.int .i64) (.pair (.int .u64) (.pair (.slice (.pair (.int .i64) (.pair (.int .u64) (.unit)))) (.pair (.int .i64) (.pair (.int .i64) (.unit))))))))))))))))] = true := by kernel_rfl
theorem ags : Try.f3.params.toList.map (aggTy Try.prog) = [false, false, false] := by kernel_rfl
set_option maxRecDepth 100000 in
theorem lifted (os : Os) (started : os.Started) (H : Type) (enc : TypeId × Value → H) :
    ReturnsInHanded {} Try.checked os 3 .any (Rows.reloadPlansSpec.pre6 enc Try.prog Try.f3 Rows.reloadPlansRow.domain false) (Rows.reloadPlansSpec.post enc Try.prog Try.f3 false true false false) := by
  refine returnsInHanded_of_change_sized (C := Try.checked) own started (by kernel_rfl) Try.func3
    (ChangeSpec.witness6 (enc := enc) (C := Try.checked) false ⟨#[], #[.slice none 0 0, .slice none 0 0, .slice none 0 0], []⟩ 8 (by kernel_rfl) (by kernel_rfl) (by kernel_rfl) (by kernel_rfl)) ?_
  intro W base args ds gs before hval0 hW hcnd hsz0 _
  have hsz : (DataW.weightsEach Try.prog (Try.f3.params.toList ++ Rows.reloadPlansSpec.plain.varTypes Try.prog) (ds ++ gs)).all (· ≤ reachBytes) = true := hsz0
  have hval : ∀ (j : Nat) t v, Try.f3.params[j]? = some t → args[j]? = some v → Value.okWide Try.prog W .any base t v := hval0
  have hW' := hW
  obtain ⟨p, q, hA0, hV, rfl, hfz, hnd⟩ := hW
  have hA : DataW.TrodAll enc Try.prog W 0 (fun _ => true) true Try.f3.params.toList args.toList ds p := hA0
  obtain ⟨rfl, rfl⟩ := trodVars_none hV
  have hwt : ∀ k ∈ DataW.weightsEach Try.prog Try.f3.params.toList ds, k ≤ reachBytes := fun k hk => by
    have hz : (DataW.weightsEach Try.prog (Try.f3.params.toList ++ []) (ds ++ [])).all (· ≤ reachBytes) = true := hsz
    rw [List.append_nil, List.append_nil] at hz
    exact of_decide_eq_true (List.all_eq_true.1 hz k hk)
  obtain ⟨x, h1, h2, h3⟩ := open_args (tys := [.slice (.int .i64), .slice (.int .i64), .slice (.pair (.str) (.pair (.str) (.pair (.slice (.pair (.str) (.pair (.str) (.unit)))) (.pair (.slice (.str)) (.pair (.bool) (.pair (.str) (.pair (.int .i64) (.pair (.int .u64) (.pair (.int .u64) (.pair (.int .u64) (.pair (.int .i64) (.pair (.int .u64) (.pair (.slice (.pair (.int .i64) (.pair (.int .u64) (.unit)))) (.pair (.int .i64) (.pair (.int .i64) (.unit))))))))))))))))]) argTys (fun j t v a b => hval j t v (by rwa [Array.getElem?_toList] at a) (by rwa [Array.getElem?_toList] at b)) hA hwt
  rw [ags] at h1 h2
  have hA2 := hA
  rw [Try.params3] at hA2
  obtain ⟨v0, vs0, d0, ds0, p0, q0, hargs, rfl, rfl, h00, r0⟩ := trodAll_cons hA2
  obtain ⟨v1, vs1, d1, ds1, p1, q1, rfl, rfl, rfl, h01, r1⟩ := trodAll_cons r0
  obtain ⟨v2, vs2, d2, ds2, p2, q2, rfl, rfl, rfl, h02, r2⟩ := trodAll_cons r1
  obtain ⟨rfl, rfl, rfl⟩ := trodAll_nil r2
  refine (law_of_exec mixed tys e_reloadPlans Try.func3 (by kernel_rfl) (reloadPlans_true x h3) (fun b hb => hb) h1 h2).mono fun e W' ⟨he, bel⟩ => ?_
  subst he
  exact ⟨_, rfl, _, _, _, [], _, [], hW', trodAll_mk1 (shut_bool Try.underlying4 _), shut_args laidOut bel argTys hA, rfl, bel.frame _, fun h => by cases h⟩
theorem over : Rows.reloadPlansRow.holds Try.pinned (OpenSpec.ofChange Rows.reloadPlansSpec) :=
  OpenClaim.holds_of_wide 3 Try.f3 rfl rfl rfl rfl rfl rfl rfl ⟨rfl, rfl, rfl, rfl, rfl⟩ rfl rfl rfl rfl rfl (by kernel_rfl) Try.func3 (by kernel_rfl)
    (of_decide_eq_true (by kernel_rfl)) (by unfold Func.isWrapper; first | (rw [if_pos (by decide +kernel)]; kernel_rfl) | (rw [if_neg (by decide +kernel)]; exact ⟨rfl, rfl⟩))
    (fun os started H enc _ => lifted os started H enc)
theorem proved : Rows.ReloadPlansSaid := over
#print axioms proved
end Go.Proofs.Ytlcibodnpogfhaa.reloadPlans
namespace Go.Proofs.Ytlcibodnpogfhaa
/-- The row, under a short name, for the claim. -/
theorem reloadPlans_holds : Rows.ReloadPlansSaid := reloadPlans.proved
end Go.Proofs.Ytlcibodnpogfhaa
