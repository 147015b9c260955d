/- Calls of the named Go functions come to what their models tell, and the rows of laws: Lad. -/

import Derived.Test.YtinhdhaohmnbeaaTy
import Derived.Test.YtinhdhaohmnbeaaAbExt
import Derived.Test.YtinhdhaohmnbeaaAbArg
import Derived.Test.YtinhdhaohmnbeaaLadP
namespace Go.Lad
open Go.Ab Go.RowKit Go.Proofs Go.YtinhdhaohmnbeaaTy
set_option linter.unusedVariables false
set_option linter.unusedSimpArgs false
set_option maxRecDepth 100000
/- jobmux/ticks.Add -/
noncomputable def l_add : Nat → Option LoopSpec := (fun _ => none)
noncomputable def b_add : Code := (Try.f39.body).getD .skip
noncomputable def Γ_add : Env := fun f => if f = 31 then some add64S else none
theorem e_add : EnvOk Try.prog Γ_add := by
  intro f G h
  unfold Γ_add at h
  split at h
  · rename_i hf; subst hf; cases h; exact add64_ok Try.func31 (by kernel_rfl) (by kernel_rfl) (by kernel_rfl) (by kernel_rfl)
  cases h
theorem x_add (x : Int) (y : Int) : execF Δ0 Γ_add l_add b_add Try.f39.results Try.f39.ntmps [] [.val (false, [(none, ⟨.int .u64, x⟩)]), .val (false, [(none, ⟨.int .u64, y⟩)])] = m_add x y := by kernel_rfl
theorem ok_add : CallOk Try.prog 39 addS := by
  refine callOk_of_exec (mask := []) (fn := Try.f39) (code := b_add) (Λ := l_add) mixed tys e_add Try.func39 (by kernel_rfl) (by kernel_rfl) fun xs c dc r hG hc => ?_
  unfold addS at hG
  split at hG
  · cases hG
    exact (x_add _ _).trans (p_add _ _ hc)
  · cases hG
/- jobmux/jobmuxref01.Add -/
noncomputable def l_rAdd : Nat → Option LoopSpec := (fun _ => none)
noncomputable def b_rAdd : Code := (Try.f14.body).getD .skip
noncomputable def Γ_rAdd : Env := fun f => if f = 31 then some add64S else none
theorem e_rAdd : EnvOk Try.prog Γ_rAdd := by
  intro f G h
  unfold Γ_rAdd at h
  split at h
  · rename_i hf; subst hf; cases h; exact add64_ok Try.func31 (by kernel_rfl) (by kernel_rfl) (by kernel_rfl) (by kernel_rfl)
  cases h
theorem x_rAdd (x : Int) (y : Int) : execF Δ0 Γ_rAdd l_rAdd b_rAdd Try.f14.results Try.f14.ntmps [] [.val (false, [(none, ⟨.int .u64, x⟩)]), .val (false, [(none, ⟨.int .u64, y⟩)])] = m_rAdd x y := by kernel_rfl
theorem ok_rAdd : CallOk Try.prog 14 rAddS := by
  refine callOk_of_exec (mask := []) (fn := Try.f14) (code := b_rAdd) (Λ := l_rAdd) mixed tys e_rAdd Try.func14 (by kernel_rfl) (by kernel_rfl) fun xs c dc r hG hc => ?_
  unfold rAddS at hG
  split at hG
  · cases hG
    exact (x_rAdd _ _).trans (p_rAdd _ _ hc)
  · cases hG
/- jobmux/jobmuxmill.Mod -/
noncomputable def l_mod : Nat → Option LoopSpec := (fun _ => none)
noncomputable def b_mod : Code := (Try.f29.body).getD .skip
noncomputable def Γ_mod : Env := fun f => none
theorem e_mod : EnvOk Try.prog Γ_mod := by
  intro f G h
  unfold Γ_mod at h
  cases h
theorem x_mod (x : Int) (y : Int) : execF Δ0 Γ_mod l_mod b_mod Try.f29.results Try.f29.ntmps [] [.val (false, [(none, ⟨.int .i64, x⟩)]), .val (false, [(none, ⟨.int .i64, y⟩)])] = m_mod x y := by kernel_rfl
theorem ok_mod : CallOk Try.prog 29 modS := by
  refine callOk_of_exec (mask := []) (fn := Try.f29) (code := b_mod) (Λ := l_mod) mixed tys e_mod Try.func29 (by kernel_rfl) (by kernel_rfl) fun xs c dc r hG hc => ?_
  unfold modS at hG
  split at hG
  · cases hG
    exact (x_mod _ _).trans (p_mod _ _ hc)
  · cases hG
/- jobmux/ladder.Next -/
noncomputable def l_next : Nat → Option LoopSpec := (fun _ => none)
noncomputable def b_next : Code := (Try.f42.body).getD .skip
noncomputable def Γ_next : Env := fun f => if f = 39 then some addS else none
theorem e_next : EnvOk Try.prog Γ_next := by
  intro f G h
  unfold Γ_next at h
  split at h
  · rename_i hf; subst hf; cases h; exact ok_add
  cases h
theorem x_next (l : List (Int × (Int × Unit))) (k : Int) (a : Int) : execF Δ0 Γ_next l_next b_next Try.f42.results Try.f42.ntmps [] [.val (false, [(none, ⟨.slice (.pair (.int .i64) (.pair (.int .u64) (.unit))), l⟩)]), .val (false, [(none, ⟨.int .i64, k⟩)]), .val (false, [(none, ⟨.int .u64, a⟩)])] = m_next l k a := by kernel_rfl
theorem ok_next : CallOk Try.prog 42 nextS := by
  refine callOk_of_exec (mask := []) (fn := Try.f42) (code := b_next) (Λ := l_next) mixed tys e_next Try.func42 (by kernel_rfl) (by kernel_rfl) fun xs c dc r hG hc => ?_
  unfold nextS at hG
  split at hG
  · cases hG
    exact (x_next _ _ _).trans (p_next _ _ _ hc)
  · cases hG
/- jobmux/jobmuxref21.Next -/
noncomputable def l_rnext : Nat → Option LoopSpec := (fun _ => none)
noncomputable def b_rnext : Code := (Try.f35.body).getD .skip
noncomputable def Γ_rnext : Env := fun f => if f = 14 then some rAddS else none
theorem e_rnext : EnvOk Try.prog Γ_rnext := by
  intro f G h
  unfold Γ_rnext at h
  split at h
  · rename_i hf; subst hf; cases h; exact ok_rAdd
  cases h
theorem x_rnext (l : List (Int × (Int × Unit))) (k : Int) (a : Int) : execF Δ0 Γ_rnext l_rnext b_rnext Try.f35.results Try.f35.ntmps [] [.val (false, [(none, ⟨.slice (.pair (.int .i64) (.pair (.int .u64) (.unit))), l⟩)]), .val (false, [(none, ⟨.int .i64, k⟩)]), .val (false, [(none, ⟨.int .u64, a⟩)])] = m_rnext l k a := by kernel_rfl
theorem ok_rnext : CallOk Try.prog 35 rnextS := by
  refine callOk_of_exec (mask := []) (fn := Try.f35) (code := b_rnext) (Λ := l_rnext) mixed tys e_rnext Try.func35 (by kernel_rfl) (by kernel_rfl) fun xs c dc r hG hc => ?_
  unfold rnextS at hG
  split at hG
  · cases hG
    exact (x_rnext _ _ _).trans (p_rnext _ _ _ hc)
  · cases hG
/- jobmux/jobmuxref21.Steps -/
noncomputable def l_rsteps (k0 : Nat) : Nat → Option LoopSpec := (fun n => match n with | 0 => some ⟨sh_rsteps_0, fun _ => k0⟩ | _ => none)
noncomputable def b_rsteps : Code := (Try.f18.body).getD .skip
noncomputable def Γ_rsteps : Env := fun f => if f = 35 then some rnextS else none
theorem e_rsteps : EnvOk Try.prog Γ_rsteps := by
  intro f G h
  unfold Γ_rsteps at h
  split at h
  · rename_i hf; subst hf; cases h; exact ok_rnext
  cases h
theorem x_rsteps (k0 : Nat) (l : List (Int × (Int × Unit))) (a : Int) : execF Δ0 Γ_rsteps (l_rsteps k0 ) b_rsteps Try.f18.results Try.f18.ntmps [] [.val (false, [(none, ⟨.slice (.pair (.int .i64) (.pair (.int .u64) (.unit))), l⟩)]), .val (false, [(none, ⟨.int .u64, a⟩)])] = m_rsteps k0 l a := by kernel_rfl
theorem ok_rsteps : CallOk Try.prog 18 rstepsS := by
  refine callOk_of_exec (mask := []) (fn := Try.f18) (code := b_rsteps) (Λ := (l_rsteps 3000 )) mixed tys e_rsteps Try.func18 (by kernel_rfl) (by kernel_rfl) fun xs c dc r hG hc => ?_
  unfold rstepsS at hG
  split at hG
  · cases hG
    exact (x_rsteps 3000 _ _).trans (p_rsteps _ _ hc)
  · cases hG
end Go.Lad
