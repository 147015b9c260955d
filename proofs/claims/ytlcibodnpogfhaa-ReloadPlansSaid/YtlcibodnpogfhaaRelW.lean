/- Calls of the named Go functions come to what their models tell, and the rows of laws: Rel. -/

import Derived.Test.YtlcibodnpogfhaaTy
import Derived.Test.YtlcibodnpogfhaaAbExt
import Derived.Test.YtlcibodnpogfhaaAbArg
import Derived.Test.YtlcibodnpogfhaaRelP
import Derived.Test.YtlcibodnpogfhaaMilW
namespace Go.Rel
open Go.Ab Go.RowKit Go.Proofs Go.YtlcibodnpogfhaaTy Go.Mil
set_option linter.unusedVariables false
set_option linter.unusedSimpArgs false
set_option maxRecDepth 1000000
set_option maxHeartbeats 8000000
/- slices.Equal[[]jobmux/api.Var,jobmux/api.Var] -/
noncomputable def l_eqV (k0 : Nat) : Nat → Option LoopSpec := (fun n => match n with | 0 => some ⟨sh_eqV_0, fun _ => k0⟩ | _ => none)
noncomputable def b_eqV : Code := (Try.f46.body).getD .skip
noncomputable def Γ_eqV : Env := fun f => none
theorem e_eqV : EnvOk Try.prog Γ_eqV := by
  intro f G h
  unfold Γ_eqV at h
  cases h
theorem x_eqV (k0 : Nat) (a : List (ByteArray × (ByteArray × Unit))) (b : List (ByteArray × (ByteArray × Unit))) : execF Δ0 Γ_eqV (l_eqV k0 ) b_eqV Try.f46.results Try.f46.ntmps [] [.val (false, [(none, ⟨.slice (.pair (.str) (.pair (.str) (.unit))), a⟩)]), .val (false, [(none, ⟨.slice (.pair (.str) (.pair (.str) (.unit))), b⟩)])] = m_eqV k0 a b := by kernel_rfl
theorem ok_eqV : CallOk Try.prog 46 eqVS := by
  refine callOk_of_exec (mask := []) (fn := Try.f46) (code := b_eqV) (Λ := (l_eqV 300000000000000 )) mixed tys e_eqV Try.func46 (by kernel_rfl) (by kernel_rfl) fun xs c dc r hG hc => ?_
  unfold eqVS at hG
  split at hG
  · cases hG
    exact (x_eqV 300000000000000 _ _).trans (p_eqV _ _ hc)
  · cases hG
/- slices.Equal[[]string,string] -/
noncomputable def l_eqS (k0 : Nat) : Nat → Option LoopSpec := (fun n => match n with | 0 => some ⟨sh_eqS_0, fun _ => k0⟩ | _ => none)
noncomputable def b_eqS : Code := (Try.f47.body).getD .skip
noncomputable def Γ_eqS : Env := fun f => none
theorem e_eqS : EnvOk Try.prog Γ_eqS := by
  intro f G h
  unfold Γ_eqS at h
  cases h
theorem x_eqS (k0 : Nat) (a : List ByteArray) (b : List ByteArray) : execF Δ0 Γ_eqS (l_eqS k0 ) b_eqS Try.f47.results Try.f47.ntmps [] [.val (false, [(none, ⟨.slice (.str), a⟩)]), .val (false, [(none, ⟨.slice (.str), b⟩)])] = m_eqS k0 a b := by kernel_rfl
theorem ok_eqS : CallOk Try.prog 47 eqSS := by
  refine callOk_of_exec (mask := []) (fn := Try.f47) (code := b_eqS) (Λ := (l_eqS 300000000000000 )) mixed tys e_eqS Try.func47 (by kernel_rfl) (by kernel_rfl) fun xs c dc r hG hc => ?_
  unfold eqSS at hG
  split at hG
  · cases hG
    exact (x_eqS 300000000000000 _ _).trans (p_eqS _ _ hc)
  · cases hG
/- slices.Equal[[]jobmux/api.Rung,jobmux/api.Rung] -/
noncomputable def l_eqR (k0 : Nat) : Nat → Option LoopSpec := (fun n => match n with | 0 => some ⟨sh_eqR_0, fun _ => k0⟩ | _ => none)
noncomputable def b_eqR : Code := (Try.f48.body).getD .skip
noncomputable def Γ_eqR : Env := fun f => none
theorem e_eqR : EnvOk Try.prog Γ_eqR := by
  intro f G h
  unfold Γ_eqR at h
  cases h
theorem x_eqR (k0 : Nat) (a : List (Int × (Int × Unit))) (b : List (Int × (Int × Unit))) : execF Δ0 Γ_eqR (l_eqR k0 ) b_eqR Try.f48.results Try.f48.ntmps [] [.val (false, [(none, ⟨.slice (.pair (.int .i64) (.pair (.int .u64) (.unit))), a⟩)]), .val (false, [(none, ⟨.slice (.pair (.int .i64) (.pair (.int .u64) (.unit))), b⟩)])] = m_eqR k0 a b := by kernel_rfl
theorem ok_eqR : CallOk Try.prog 48 eqRS := by
  refine callOk_of_exec (mask := []) (fn := Try.f48) (code := b_eqR) (Λ := (l_eqR 300000000000000 )) mixed tys e_eqR Try.func48 (by kernel_rfl) (by kernel_rfl) fun xs c dc r hG hc => ?_
  unfold eqRS at hG
  split at hG
  · cases hG
    exact (x_eqR 300000000000000 _ _).trans (p_eqR _ _ hc)
  · cases hG
/- jobmux/alike.Job -/
noncomputable def l_alike : Nat → Option LoopSpec := (fun _ => none)
noncomputable def b_alike : Code := (Try.f35.body).getD .skip
noncomputable def Γ_alike : Env := fun f => if f = 46 then some eqVS else if f = 47 then some eqSS else if f = 48 then some eqRS else none
theorem e_alike : EnvOk Try.prog Γ_alike := by
  intro f G h
  unfold Γ_alike at h
  split at h
  · rename_i hf; subst hf; cases h; exact ok_eqV
  split at h
  · rename_i hf; subst hf; cases h; exact ok_eqS
  split at h
  · rename_i hf; subst hf; cases h; exact ok_eqR
  cases h
theorem x_alike (a_0 : ByteArray) (a_1 : ByteArray) (a_2 : List (ByteArray × (ByteArray × Unit))) (a_3 : List ByteArray) (a_4 : Bool) (a_5 : ByteArray) (a_6 : Int) (a_7 : Int) (a_8 : Int) (a_9 : Int) (a_10 : Int) (a_11 : Int) (a_12 : List (Int × (Int × Unit))) (a_13 : Int) (a_14 : Int) (b_0 : ByteArray) (b_1 : ByteArray) (b_2 : List (ByteArray × (ByteArray × Unit))) (b_3 : List ByteArray) (b_4 : Bool) (b_5 : ByteArray) (b_6 : Int) (b_7 : Int) (b_8 : Int) (b_9 : Int) (b_10 : Int) (b_11 : Int) (b_12 : List (Int × (Int × Unit))) (b_13 : Int) (b_14 : Int) : execF Δ0 Γ_alike l_alike b_alike Try.f35.results Try.f35.ntmps [] [.val (true, [(none, ⟨.str, a_0⟩), (none, ⟨.str, a_1⟩), (none, ⟨.slice (.pair (.str) (.pair (.str) (.unit))), a_2⟩), (none, ⟨.slice (.str), a_3⟩), (none, ⟨.bool, a_4⟩), (none, ⟨.str, a_5⟩), (none, ⟨.int .i64, a_6⟩), (none, ⟨.int .u64, a_7⟩), (none, ⟨.int .u64, a_8⟩), (none, ⟨.int .u64, a_9⟩), (none, ⟨.int .i64, a_10⟩), (none, ⟨.int .u64, a_11⟩), (none, ⟨.slice (.pair (.int .i64) (.pair (.int .u64) (.unit))), a_12⟩), (none, ⟨.int .i64, a_13⟩), (none, ⟨.int .i64, a_14⟩)]), .val (true, [(none, ⟨.str, b_0⟩), (none, ⟨.str, b_1⟩), (none, ⟨.slice (.pair (.str) (.pair (.str) (.unit))), b_2⟩), (none, ⟨.slice (.str), b_3⟩), (none, ⟨.bool, b_4⟩), (none, ⟨.str, b_5⟩), (none, ⟨.int .i64, b_6⟩), (none, ⟨.int .u64, b_7⟩), (none, ⟨.int .u64, b_8⟩), (none, ⟨.int .u64, b_9⟩), (none, ⟨.int .i64, b_10⟩), (none, ⟨.int .u64, b_11⟩), (none, ⟨.slice (.pair (.int .i64) (.pair (.int .u64) (.unit))), b_12⟩), (none, ⟨.int .i64, b_13⟩), (none, ⟨.int .i64, b_14⟩)])] = m_alike a_0 a_1 a_2 a_3 a_4 a_5 a_6 a_7 a_8 a_9 a_10 a_11 a_12 a_13 a_14 b_0 b_1 b_2 b_3 b_4 b_5 b_6 b_7 b_8 b_9 b_10 b_11 b_12 b_13 b_14 := by kernel_rfl
theorem ok_alike : CallOk Try.prog 35 alikeS := by
  refine callOk_of_exec (mask := []) (fn := Try.f35) (code := b_alike) (Λ := l_alike) mixed tys e_alike Try.func35 (by kernel_rfl) (by kernel_rfl) fun xs c dc r hG hc => ?_
  unfold alikeS at hG
  cases hu : unpack [.val true [none, none, none, none, none, none, none, none, none, none, none, none, none, none, none], .val true [none, none, none, none, none, none, none, none, none, none, none, none, none, none, none]] [.str, .str, .slice (.pair (.str) (.pair (.str) (.unit))), .slice (.str), .bool, .str, .int .i64, .int .u64, .int .u64, .int .u64, .int .i64, .int .u64, .slice (.pair (.int .i64) (.pair (.int .u64) (.unit))), .int .i64, .int .i64, .str, .str, .slice (.pair (.str) (.pair (.str) (.unit))), .slice (.str), .bool, .str, .int .i64, .int .u64, .int .u64, .int .u64, .int .i64, .int .u64, .slice (.pair (.int .i64) (.pair (.int .u64) (.unit))), .int .i64, .int .i64] xs with
  | none => rw [hu] at hG; cases hG
  | some d =>
    rw [hu] at hG
    cases hG
    have e := unpack_is hu
    subst e
    exact (x_alike d.1 d.2.1 d.2.2.1 d.2.2.2.1 d.2.2.2.2.1 d.2.2.2.2.2.1 d.2.2.2.2.2.2.1 d.2.2.2.2.2.2.2.1 d.2.2.2.2.2.2.2.2.1 d.2.2.2.2.2.2.2.2.2.1 d.2.2.2.2.2.2.2.2.2.2.1 d.2.2.2.2.2.2.2.2.2.2.2.1 d.2.2.2.2.2.2.2.2.2.2.2.2.1 d.2.2.2.2.2.2.2.2.2.2.2.2.2.1 d.2.2.2.2.2.2.2.2.2.2.2.2.2.2.1 d.2.2.2.2.2.2.2.2.2.2.2.2.2.2.2.1 d.2.2.2.2.2.2.2.2.2.2.2.2.2.2.2.2.1 d.2.2.2.2.2.2.2.2.2.2.2.2.2.2.2.2.2.1 d.2.2.2.2.2.2.2.2.2.2.2.2.2.2.2.2.2.2.1 d.2.2.2.2.2.2.2.2.2.2.2.2.2.2.2.2.2.2.2.1 d.2.2.2.2.2.2.2.2.2.2.2.2.2.2.2.2.2.2.2.2.1 d.2.2.2.2.2.2.2.2.2.2.2.2.2.2.2.2.2.2.2.2.2.1 d.2.2.2.2.2.2.2.2.2.2.2.2.2.2.2.2.2.2.2.2.2.2.1 d.2.2.2.2.2.2.2.2.2.2.2.2.2.2.2.2.2.2.2.2.2.2.2.1 d.2.2.2.2.2.2.2.2.2.2.2.2.2.2.2.2.2.2.2.2.2.2.2.2.1 d.2.2.2.2.2.2.2.2.2.2.2.2.2.2.2.2.2.2.2.2.2.2.2.2.2.1 d.2.2.2.2.2.2.2.2.2.2.2.2.2.2.2.2.2.2.2.2.2.2.2.2.2.2.1 d.2.2.2.2.2.2.2.2.2.2.2.2.2.2.2.2.2.2.2.2.2.2.2.2.2.2.2.1 d.2.2.2.2.2.2.2.2.2.2.2.2.2.2.2.2.2.2.2.2.2.2.2.2.2.2.2.2.1 d.2.2.2.2.2.2.2.2.2.2.2.2.2.2.2.2.2.2.2.2.2.2.2.2.2.2.2.2.2.1).trans (p_alike d.1 d.2.1 d.2.2.1 d.2.2.2.1 d.2.2.2.2.1 d.2.2.2.2.2.1 d.2.2.2.2.2.2.1 d.2.2.2.2.2.2.2.1 d.2.2.2.2.2.2.2.2.1 d.2.2.2.2.2.2.2.2.2.1 d.2.2.2.2.2.2.2.2.2.2.1 d.2.2.2.2.2.2.2.2.2.2.2.1 d.2.2.2.2.2.2.2.2.2.2.2.2.1 d.2.2.2.2.2.2.2.2.2.2.2.2.2.1 d.2.2.2.2.2.2.2.2.2.2.2.2.2.2.1 d.2.2.2.2.2.2.2.2.2.2.2.2.2.2.2.1 d.2.2.2.2.2.2.2.2.2.2.2.2.2.2.2.2.1 d.2.2.2.2.2.2.2.2.2.2.2.2.2.2.2.2.2.1 d.2.2.2.2.2.2.2.2.2.2.2.2.2.2.2.2.2.2.1 d.2.2.2.2.2.2.2.2.2.2.2.2.2.2.2.2.2.2.2.1 d.2.2.2.2.2.2.2.2.2.2.2.2.2.2.2.2.2.2.2.2.1 d.2.2.2.2.2.2.2.2.2.2.2.2.2.2.2.2.2.2.2.2.2.1 d.2.2.2.2.2.2.2.2.2.2.2.2.2.2.2.2.2.2.2.2.2.2.1 d.2.2.2.2.2.2.2.2.2.2.2.2.2.2.2.2.2.2.2.2.2.2.2.1 d.2.2.2.2.2.2.2.2.2.2.2.2.2.2.2.2.2.2.2.2.2.2.2.2.1 d.2.2.2.2.2.2.2.2.2.2.2.2.2.2.2.2.2.2.2.2.2.2.2.2.2.1 d.2.2.2.2.2.2.2.2.2.2.2.2.2.2.2.2.2.2.2.2.2.2.2.2.2.2.1 d.2.2.2.2.2.2.2.2.2.2.2.2.2.2.2.2.2.2.2.2.2.2.2.2.2.2.2.1 d.2.2.2.2.2.2.2.2.2.2.2.2.2.2.2.2.2.2.2.2.2.2.2.2.2.2.2.2.1 d.2.2.2.2.2.2.2.2.2.2.2.2.2.2.2.2.2.2.2.2.2.2.2.2.2.2.2.2.2.1 hc)
/- jobmux/reload.Same -/
noncomputable def l_same : Nat → Option LoopSpec := (fun _ => none)
noncomputable def b_same : Code := (Try.f15.body).getD .skip
noncomputable def Γ_same : Env := fun f => if f = 35 then some alikeS else none
theorem e_same : EnvOk Try.prog Γ_same := by
  intro f G h
  unfold Γ_same at h
  split at h
  · rename_i hf; subst hf; cases h; exact ok_alike
  cases h
theorem x_same (a_0 : ByteArray) (a_1 : ByteArray) (a_2 : List (ByteArray × (ByteArray × Unit))) (a_3 : List ByteArray) (a_4 : Bool) (a_5 : ByteArray) (a_6 : Int) (a_7 : Int) (a_8 : Int) (a_9 : Int) (a_10 : Int) (a_11 : Int) (a_12 : List (Int × (Int × Unit))) (a_13 : Int) (a_14 : Int) (b_0 : ByteArray) (b_1 : ByteArray) (b_2 : List (ByteArray × (ByteArray × Unit))) (b_3 : List ByteArray) (b_4 : Bool) (b_5 : ByteArray) (b_6 : Int) (b_7 : Int) (b_8 : Int) (b_9 : Int) (b_10 : Int) (b_11 : Int) (b_12 : List (Int × (Int × Unit))) (b_13 : Int) (b_14 : Int) : execF Δ0 Γ_same l_same b_same Try.f15.results Try.f15.ntmps [] [.val (true, [(none, ⟨.str, a_0⟩), (none, ⟨.str, a_1⟩), (none, ⟨.slice (.pair (.str) (.pair (.str) (.unit))), a_2⟩), (none, ⟨.slice (.str), a_3⟩), (none, ⟨.bool, a_4⟩), (none, ⟨.str, a_5⟩), (none, ⟨.int .i64, a_6⟩), (none, ⟨.int .u64, a_7⟩), (none, ⟨.int .u64, a_8⟩), (none, ⟨.int .u64, a_9⟩), (none, ⟨.int .i64, a_10⟩), (none, ⟨.int .u64, a_11⟩), (none, ⟨.slice (.pair (.int .i64) (.pair (.int .u64) (.unit))), a_12⟩), (none, ⟨.int .i64, a_13⟩), (none, ⟨.int .i64, a_14⟩)]), .val (true, [(none, ⟨.str, b_0⟩), (none, ⟨.str, b_1⟩), (none, ⟨.slice (.pair (.str) (.pair (.str) (.unit))), b_2⟩), (none, ⟨.slice (.str), b_3⟩), (none, ⟨.bool, b_4⟩), (none, ⟨.str, b_5⟩), (none, ⟨.int .i64, b_6⟩), (none, ⟨.int .u64, b_7⟩), (none, ⟨.int .u64, b_8⟩), (none, ⟨.int .u64, b_9⟩), (none, ⟨.int .i64, b_10⟩), (none, ⟨.int .u64, b_11⟩), (none, ⟨.slice (.pair (.int .i64) (.pair (.int .u64) (.unit))), b_12⟩), (none, ⟨.int .i64, b_13⟩), (none, ⟨.int .i64, b_14⟩)])] = m_same a_0 a_1 a_2 a_3 a_4 a_5 a_6 a_7 a_8 a_9 a_10 a_11 a_12 a_13 a_14 b_0 b_1 b_2 b_3 b_4 b_5 b_6 b_7 b_8 b_9 b_10 b_11 b_12 b_13 b_14 := by kernel_rfl
theorem ok_same : CallOk Try.prog 15 sameS := by
  refine callOk_of_exec (mask := []) (fn := Try.f15) (code := b_same) (Λ := l_same) mixed tys e_same Try.func15 (by kernel_rfl) (by kernel_rfl) fun xs c dc r hG hc => ?_
  unfold sameS at hG
  cases hu : unpack [.val true [none, none, none, none, none, none, none, none, none, none, none, none, none, none, none], .val true [none, none, none, none, none, none, none, none, none, none, none, none, none, none, none]] [.str, .str, .slice (.pair (.str) (.pair (.str) (.unit))), .slice (.str), .bool, .str, .int .i64, .int .u64, .int .u64, .int .u64, .int .i64, .int .u64, .slice (.pair (.int .i64) (.pair (.int .u64) (.unit))), .int .i64, .int .i64, .str, .str, .slice (.pair (.str) (.pair (.str) (.unit))), .slice (.str), .bool, .str, .int .i64, .int .u64, .int .u64, .int .u64, .int .i64, .int .u64, .slice (.pair (.int .i64) (.pair (.int .u64) (.unit))), .int .i64, .int .i64] xs with
  | none => rw [hu] at hG; cases hG
  | some d =>
    rw [hu] at hG
    cases hG
    have e := unpack_is hu
    subst e
    exact (x_same d.1 d.2.1 d.2.2.1 d.2.2.2.1 d.2.2.2.2.1 d.2.2.2.2.2.1 d.2.2.2.2.2.2.1 d.2.2.2.2.2.2.2.1 d.2.2.2.2.2.2.2.2.1 d.2.2.2.2.2.2.2.2.2.1 d.2.2.2.2.2.2.2.2.2.2.1 d.2.2.2.2.2.2.2.2.2.2.2.1 d.2.2.2.2.2.2.2.2.2.2.2.2.1 d.2.2.2.2.2.2.2.2.2.2.2.2.2.1 d.2.2.2.2.2.2.2.2.2.2.2.2.2.2.1 d.2.2.2.2.2.2.2.2.2.2.2.2.2.2.2.1 d.2.2.2.2.2.2.2.2.2.2.2.2.2.2.2.2.1 d.2.2.2.2.2.2.2.2.2.2.2.2.2.2.2.2.2.1 d.2.2.2.2.2.2.2.2.2.2.2.2.2.2.2.2.2.2.1 d.2.2.2.2.2.2.2.2.2.2.2.2.2.2.2.2.2.2.2.1 d.2.2.2.2.2.2.2.2.2.2.2.2.2.2.2.2.2.2.2.2.1 d.2.2.2.2.2.2.2.2.2.2.2.2.2.2.2.2.2.2.2.2.2.1 d.2.2.2.2.2.2.2.2.2.2.2.2.2.2.2.2.2.2.2.2.2.2.1 d.2.2.2.2.2.2.2.2.2.2.2.2.2.2.2.2.2.2.2.2.2.2.2.1 d.2.2.2.2.2.2.2.2.2.2.2.2.2.2.2.2.2.2.2.2.2.2.2.2.1 d.2.2.2.2.2.2.2.2.2.2.2.2.2.2.2.2.2.2.2.2.2.2.2.2.2.1 d.2.2.2.2.2.2.2.2.2.2.2.2.2.2.2.2.2.2.2.2.2.2.2.2.2.2.1 d.2.2.2.2.2.2.2.2.2.2.2.2.2.2.2.2.2.2.2.2.2.2.2.2.2.2.2.1 d.2.2.2.2.2.2.2.2.2.2.2.2.2.2.2.2.2.2.2.2.2.2.2.2.2.2.2.2.1 d.2.2.2.2.2.2.2.2.2.2.2.2.2.2.2.2.2.2.2.2.2.2.2.2.2.2.2.2.2.1).trans (p_same d.1 d.2.1 d.2.2.1 d.2.2.2.1 d.2.2.2.2.1 d.2.2.2.2.2.1 d.2.2.2.2.2.2.1 d.2.2.2.2.2.2.2.1 d.2.2.2.2.2.2.2.2.1 d.2.2.2.2.2.2.2.2.2.1 d.2.2.2.2.2.2.2.2.2.2.1 d.2.2.2.2.2.2.2.2.2.2.2.1 d.2.2.2.2.2.2.2.2.2.2.2.2.1 d.2.2.2.2.2.2.2.2.2.2.2.2.2.1 d.2.2.2.2.2.2.2.2.2.2.2.2.2.2.1 d.2.2.2.2.2.2.2.2.2.2.2.2.2.2.2.1 d.2.2.2.2.2.2.2.2.2.2.2.2.2.2.2.2.1 d.2.2.2.2.2.2.2.2.2.2.2.2.2.2.2.2.2.1 d.2.2.2.2.2.2.2.2.2.2.2.2.2.2.2.2.2.2.1 d.2.2.2.2.2.2.2.2.2.2.2.2.2.2.2.2.2.2.2.1 d.2.2.2.2.2.2.2.2.2.2.2.2.2.2.2.2.2.2.2.2.1 d.2.2.2.2.2.2.2.2.2.2.2.2.2.2.2.2.2.2.2.2.2.1 d.2.2.2.2.2.2.2.2.2.2.2.2.2.2.2.2.2.2.2.2.2.2.1 d.2.2.2.2.2.2.2.2.2.2.2.2.2.2.2.2.2.2.2.2.2.2.2.1 d.2.2.2.2.2.2.2.2.2.2.2.2.2.2.2.2.2.2.2.2.2.2.2.2.1 d.2.2.2.2.2.2.2.2.2.2.2.2.2.2.2.2.2.2.2.2.2.2.2.2.2.1 d.2.2.2.2.2.2.2.2.2.2.2.2.2.2.2.2.2.2.2.2.2.2.2.2.2.2.1 d.2.2.2.2.2.2.2.2.2.2.2.2.2.2.2.2.2.2.2.2.2.2.2.2.2.2.2.1 d.2.2.2.2.2.2.2.2.2.2.2.2.2.2.2.2.2.2.2.2.2.2.2.2.2.2.2.2.1 d.2.2.2.2.2.2.2.2.2.2.2.2.2.2.2.2.2.2.2.2.2.2.2.2.2.2.2.2.2.1 hc)
/- jobmux/reload.named$1 -/
noncomputable def l_isn : Nat → Option LoopSpec := (fun _ => none)
noncomputable def b_isn : Code := (Try.f45.body).getD .skip
noncomputable def Γ_isn : Env := fun f => none
theorem e_isn : EnvOk Try.prog Γ_isn := by
  intro f G h
  unfold Γ_isn at h
  cases h
theorem x_isn (j_0 : ByteArray) (j_1 : ByteArray) (j_2 : List (ByteArray × (ByteArray × Unit))) (j_3 : List ByteArray) (j_4 : Bool) (j_5 : ByteArray) (j_6 : Int) (j_7 : Int) (j_8 : Int) (j_9 : Int) (j_10 : Int) (j_11 : Int) (j_12 : List (Int × (Int × Unit))) (j_13 : Int) (j_14 : Int) (name_0 : ByteArray) : execF Δ0 Γ_isn l_isn b_isn Try.f45.results Try.f45.ntmps [] [.val (true, [(none, ⟨.str, j_0⟩), (none, ⟨.str, j_1⟩), (none, ⟨.slice (.pair (.str) (.pair (.str) (.unit))), j_2⟩), (none, ⟨.slice (.str), j_3⟩), (none, ⟨.bool, j_4⟩), (none, ⟨.str, j_5⟩), (none, ⟨.int .i64, j_6⟩), (none, ⟨.int .u64, j_7⟩), (none, ⟨.int .u64, j_8⟩), (none, ⟨.int .u64, j_9⟩), (none, ⟨.int .i64, j_10⟩), (none, ⟨.int .u64, j_11⟩), (none, ⟨.slice (.pair (.int .i64) (.pair (.int .u64) (.unit))), j_12⟩), (none, ⟨.int .i64, j_13⟩), (none, ⟨.int .i64, j_14⟩)]), .box [(none, ⟨.str, name_0⟩)]] = m_isn j_0 j_1 j_2 j_3 j_4 j_5 j_6 j_7 j_8 j_9 j_10 j_11 j_12 j_13 j_14 name_0 := by kernel_rfl
theorem ok_isn : CallOk Try.prog 45 isnS := by
  refine callOk_of_exec (mask := []) (fn := Try.f45) (code := b_isn) (Λ := l_isn) mixed tys e_isn Try.func45 (by kernel_rfl) (by kernel_rfl) fun xs c dc r hG hc => ?_
  unfold isnS at hG
  split at hG
  · cases hG
    exact (x_isn _ _ _ _ _ _ _ _ _ _ _ _ _ _ _ _).trans (p_isn _ _ _ _ _ _ _ _ _ _ _ _ _ _ _ _ hc)
  · cases hG
/- slices.IndexFunc[[]jobmux/api.Job,jobmux/api.Job] -/
noncomputable def l_idx (k0 : Nat) : Nat → Option LoopSpec := (fun n => match n with | 0 => some ⟨sh_idx_0, fun _ => k0⟩ | _ => none)
noncomputable def b_idx : Code := (Try.f44.body).getD .skip
noncomputable def Γ_idx : Env := fun f => if f = 45 then some isnS else none
theorem e_idx : EnvOk Try.prog Γ_idx := by
  intro f G h
  unfold Γ_idx at h
  split at h
  · rename_i hf; subst hf; cases h; exact ok_isn
  cases h
theorem x_idx (k0 : Nat) (l : List (ByteArray × (ByteArray × ((List (ByteArray × (ByteArray × Unit))) × ((List ByteArray) × (Bool × (ByteArray × (Int × (Int × (Int × (Int × (Int × (Int × ((List (Int × (Int × Unit))) × (Int × (Int × Unit)))))))))))))))) (name : ByteArray) : execF Δ0 Γ_idx (l_idx k0 ) b_idx Try.f44.results Try.f44.ntmps [] [.val (false, [(none, ⟨.slice (.pair (.str) (.pair (.str) (.pair (.slice (.pair (.str) (.pair (.str) (.unit)))) (.pair (.slice (.str)) (.pair (.bool) (.pair (.str) (.pair (.int .i64) (.pair (.int .u64) (.pair (.int .u64) (.pair (.int .u64) (.pair (.int .i64) (.pair (.int .u64) (.pair (.slice (.pair (.int .i64) (.pair (.int .u64) (.unit)))) (.pair (.int .i64) (.pair (.int .i64) (.unit)))))))))))))))), l⟩)]), .fn 45 [[(none, ⟨.str, name⟩)]]] = m_idx k0 l name := by kernel_rfl
theorem ok_idx : CallOk Try.prog 44 idxS := by
  refine callOk_of_exec (mask := []) (fn := Try.f44) (code := b_idx) (Λ := (l_idx 2000000 )) mixed tys e_idx Try.func44 (by kernel_rfl) (by kernel_rfl) fun xs c dc r hG hc => ?_
  unfold idxS at hG
  split at hG
  · cases hG
    exact (x_idx 2000000 _ _).trans (p_idx _ _ hc)
  · cases hG
/- jobmux/reload.named -/
noncomputable def l_named : Nat → Option LoopSpec := (fun _ => none)
noncomputable def b_named : Code := (Try.f33.body).getD .skip
noncomputable def Γ_named : Env := fun f => if f = 44 then some idxS else none
theorem e_named : EnvOk Try.prog Γ_named := by
  intro f G h
  unfold Γ_named at h
  split at h
  · rename_i hf; subst hf; cases h; exact ok_idx
  cases h
theorem x_named (l : List (ByteArray × (ByteArray × ((List (ByteArray × (ByteArray × Unit))) × ((List ByteArray) × (Bool × (ByteArray × (Int × (Int × (Int × (Int × (Int × (Int × ((List (Int × (Int × Unit))) × (Int × (Int × Unit)))))))))))))))) (name : ByteArray) : execF Δ0 Γ_named l_named b_named Try.f33.results Try.f33.ntmps [] [.val (false, [(none, ⟨.slice (.pair (.str) (.pair (.str) (.pair (.slice (.pair (.str) (.pair (.str) (.unit)))) (.pair (.slice (.str)) (.pair (.bool) (.pair (.str) (.pair (.int .i64) (.pair (.int .u64) (.pair (.int .u64) (.pair (.int .u64) (.pair (.int .i64) (.pair (.int .u64) (.pair (.slice (.pair (.int .i64) (.pair (.int .u64) (.unit)))) (.pair (.int .i64) (.pair (.int .i64) (.unit)))))))))))))))), l⟩)]), .val (false, [(none, ⟨.str, name⟩)])] = m_named l name := by kernel_rfl
theorem ok_named : CallOk Try.prog 33 namedS := by
  refine callOk_of_exec (mask := []) (fn := Try.f33) (code := b_named) (Λ := l_named) mixed tys e_named Try.func33 (by kernel_rfl) (by kernel_rfl) fun xs c dc r hG hc => ?_
  unfold namedS at hG
  split at hG
  · cases hG
    exact (x_named _ _).trans (p_named _ _ hc)
  · cases hG
/- jobmux/reload.Plan -/
noncomputable def l_plan (k0 : Nat) (k1 : Nat) : Nat → Option LoopSpec := (fun n => match n with | 0 => some ⟨sh_plan_0, fun _ => k0⟩ | 1 => some ⟨sh_plan_1, fun _ => k1⟩ | _ => none)
noncomputable def b_plan : Code := (Try.f13.body).getD .skip
noncomputable def Γ_plan : Env := fun f => if f = 15 then some sameS else if f = 33 then some namedS else none
theorem e_plan : EnvOk Try.prog Γ_plan := by
  intro f G h
  unfold Γ_plan at h
  split at h
  · rename_i hf; subst hf; cases h; exact ok_same
  split at h
  · rename_i hf; subst hf; cases h; exact ok_named
  cases h
theorem x_plan (k0 : Nat) (k1 : Nat) (old : List (ByteArray × (ByteArray × ((List (ByteArray × (ByteArray × Unit))) × ((List ByteArray) × (Bool × (ByteArray × (Int × (Int × (Int × (Int × (Int × (Int × ((List (Int × (Int × Unit))) × (Int × (Int × Unit)))))))))))))))) (next : List (ByteArray × (ByteArray × ((List (ByteArray × (ByteArray × Unit))) × ((List ByteArray) × (Bool × (ByteArray × (Int × (Int × (Int × (Int × (Int × (Int × ((List (Int × (Int × Unit))) × (Int × (Int × Unit)))))))))))))))) : execF Δ0 Γ_plan (l_plan k0 k1 ) b_plan Try.f13.results Try.f13.ntmps [[true]] [.val (false, [(none, ⟨.slice (.pair (.str) (.pair (.str) (.pair (.slice (.pair (.str) (.pair (.str) (.unit)))) (.pair (.slice (.str)) (.pair (.bool) (.pair (.str) (.pair (.int .i64) (.pair (.int .u64) (.pair (.int .u64) (.pair (.int .u64) (.pair (.int .i64) (.pair (.int .u64) (.pair (.slice (.pair (.int .i64) (.pair (.int .u64) (.unit)))) (.pair (.int .i64) (.pair (.int .i64) (.unit)))))))))))))))), old⟩)]), .val (false, [(none, ⟨.slice (.pair (.str) (.pair (.str) (.pair (.slice (.pair (.str) (.pair (.str) (.unit)))) (.pair (.slice (.str)) (.pair (.bool) (.pair (.str) (.pair (.int .i64) (.pair (.int .u64) (.pair (.int .u64) (.pair (.int .u64) (.pair (.int .i64) (.pair (.int .u64) (.pair (.slice (.pair (.int .i64) (.pair (.int .u64) (.unit)))) (.pair (.int .i64) (.pair (.int .i64) (.unit)))))))))))))))), next⟩)])] = m_plan k0 k1 old next := by kernel_rfl
theorem ok_plan : CallOk Try.prog 13 planS := by
  refine callOk_of_exec (mask := [[true]]) (fn := Try.f13) (code := b_plan) (Λ := (l_plan 2000000 2000000 )) mixed tys e_plan Try.func13 (by kernel_rfl) (by kernel_rfl) fun xs c dc r hG hc => ?_
  unfold planS at hG
  split at hG
  · cases hG
    exact (x_plan 2000000 2000000 _ _).trans (p_plan _ _ hc)
  · cases hG
/- jobmux/jobmuxref23.SamePlan -/
noncomputable def l_samePlan (k0 : Nat) : Nat → Option LoopSpec := (fun n => match n with | 0 => some ⟨sh_samePlan_0, fun _ => k0⟩ | _ => none)
noncomputable def b_samePlan : Code := (Try.f12.body).getD .skip
noncomputable def Γ_samePlan : Env := fun f => none
theorem e_samePlan : EnvOk Try.prog Γ_samePlan := by
  intro f G h
  unfold Γ_samePlan at h
  cases h
theorem x_samePlan (k0 : Nat) (a : List (ByteArray × (Int × Unit))) (b : List (ByteArray × (Int × Unit))) : execF Δ0 Γ_samePlan (l_samePlan k0 ) b_samePlan Try.f12.results Try.f12.ntmps [] [.val (false, [(none, ⟨.slice (.pair (.str) (.pair (.int .i64) (.unit))), a⟩)]), .val (false, [(none, ⟨.slice (.pair (.str) (.pair (.int .i64) (.unit))), b⟩)])] = m_samePlan k0 a b := by kernel_rfl
theorem ok_samePlan : CallOk Try.prog 12 samePlanS := by
  refine callOk_of_exec (mask := []) (fn := Try.f12) (code := b_samePlan) (Λ := (l_samePlan 300000000000000 )) mixed tys e_samePlan Try.func12 (by kernel_rfl) (by kernel_rfl) fun xs c dc r hG hc => ?_
  unfold samePlanS at hG
  split at hG
  · cases hG
    exact (x_samePlan 300000000000000 _ _).trans (p_samePlan _ _ hc)
  · cases hG
/- jobmux/jobmuxlaw23.sane -/
noncomputable def l_sane : Nat → Option LoopSpec := (fun _ => none)
noncomputable def b_sane : Code := (Try.f8.body).getD .skip
noncomputable def Γ_sane : Env := fun f => if f = 12 then some samePlanS else if f = 13 then some planS else none
theorem e_sane : EnvOk Try.prog Γ_sane := by
  intro f G h
  unfold Γ_sane at h
  split at h
  · rename_i hf; subst hf; cases h; exact ok_samePlan
  split at h
  · rename_i hf; subst hf; cases h; exact ok_plan
  cases h
theorem x_sane  : execF Δ0 Γ_sane l_sane b_sane Try.f8.results Try.f8.ntmps [] [] = m_sane  := by kernel_rfl
theorem ok_sane : CallOk Try.prog 8 saneS := by
  refine callOk_of_exec (mask := []) (fn := Try.f8) (code := b_sane) (Λ := l_sane) mixed tys e_sane Try.func8 (by kernel_rfl) (by kernel_rfl) fun xs c dc r hG hc => ?_
  unfold saneS at hG
  split at hG
  · cases hG
    exact (x_sane ).trans (p_sane  hc)
  · cases hG
/- jobmux/jobmuxlaw23.ReloadKeeps -/
noncomputable def l_reloadKeeps (k0 : Nat) (k1 : Nat) (k2 : Nat) : Nat → Option LoopSpec := (fun n => match n with | 0 => some ⟨sh_reloadKeeps_0, fun _ => k0⟩ | 1 => some ⟨sh_reloadKeeps_1, fun _ => k1⟩ | 2 => some ⟨sh_reloadKeeps_2, fun _ => k2⟩ | _ => none)
noncomputable def b_reloadKeeps : Code := (Try.f4.body).getD .skip
noncomputable def Γ_reloadKeeps : Env := fun f => if f = 8 then some saneS else if f = 10 then some Go.Mil.newS else if f = 13 then some planS else if f = 17 then some Go.Mil.jobsS else none
theorem e_reloadKeeps : EnvOk Try.prog Γ_reloadKeeps := by
  intro f G h
  unfold Γ_reloadKeeps at h
  split at h
  · rename_i hf; subst hf; cases h; exact ok_sane
  split at h
  · rename_i hf; subst hf; cases h; exact Go.Mil.ok_new
  split at h
  · rename_i hf; subst hf; cases h; exact ok_plan
  split at h
  · rename_i hf; subst hf; cases h; exact Go.Mil.ok_jobs
  cases h
theorem x_reloadKeeps (k0 : Nat) (k1 : Nat) (k2 : Nat) (l : List Int) (m : List Int) : execF Δ0 Γ_reloadKeeps (l_reloadKeeps k0 k1 k2 ) b_reloadKeeps Try.f4.results Try.f4.ntmps [] [.val (false, [(none, ⟨.slice (.int .i64), l⟩)]), .val (false, [(none, ⟨.slice (.int .i64), m⟩)])] = m_reloadKeeps k0 k1 k2 l m := by kernel_rfl
theorem reloadKeeps_true (d : Tup [.slice (.int .i64), .slice (.int .i64)]) (h : WfT [.slice (.int .i64), .slice (.int .i64)] d) : execF Δ0 Γ_reloadKeeps (l_reloadKeeps 100 100 100 ) b_reloadKeeps Try.f4.results Try.f4.ntmps [] (argsT [.slice (.int .i64), .slice (.int .i64)] [false, false] d) = resB true :=
  (x_reloadKeeps 100 100 100 d.1 d.2.1).trans (p_reloadKeeps d.1 d.2.1 h)
end Go.Rel
