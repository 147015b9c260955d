/- Calls of the named Go functions come to what their models tell, and the rows of laws: Bur. -/

import Derived.Test.YtinhdhaohmnbeaaTy
import Derived.Test.YtinhdhaohmnbeaaAbExt
import Derived.Test.YtinhdhaohmnbeaaAbArg
import Derived.Test.YtinhdhaohmnbeaaBurP
namespace Go.Bur
open Go.Ab Go.RowKit Go.Proofs Go.YtinhdhaohmnbeaaTy
set_option linter.unusedVariables false
set_option linter.unusedSimpArgs false
set_option maxRecDepth 1000000
set_option maxHeartbeats 8000000
/- jobmux/ticks.Sub -/
noncomputable def l_sub : Nat → Option LoopSpec := (fun _ => none)
noncomputable def b_sub : Code := (Try.f30.body).getD .skip
noncomputable def Γ_sub : Env := fun f => if f = 41 then some sub64S else none
theorem e_sub : EnvOk Try.prog Γ_sub := by
  intro f G h
  unfold Γ_sub at h
  split at h
  · rename_i hf; subst hf; cases h; exact sub64_ok Try.func41 (by kernel_rfl) (by kernel_rfl) (by kernel_rfl) (by kernel_rfl)
  cases h
theorem x_sub (a : Int) (b : Int) : execF Δ0 Γ_sub l_sub b_sub Try.f30.results Try.f30.ntmps [] [.val (false, [(none, ⟨.int .u64, a⟩)]), .val (false, [(none, ⟨.int .u64, b⟩)])] = m_sub a b := by kernel_rfl
theorem ok_sub : CallOk Try.prog 30 subS := by
  refine callOk_of_exec (mask := []) (fn := Try.f30) (code := b_sub) (Λ := l_sub) mixed tys e_sub Try.func30 (by kernel_rfl) (by kernel_rfl) fun xs c dc r hG hc => ?_
  unfold subS at hG
  split at hG
  · cases hG
    exact (x_sub _ _).trans (p_sub _ _ hc)
  · cases hG
/- jobmux/burst.Trim$1 -/
noncomputable def l_out : Nat → Option LoopSpec := (fun _ => none)
noncomputable def b_out : Code := (Try.f46.body).getD .skip
noncomputable def Γ_out : Env := fun f => if f = 30 then some subS else none
theorem e_out : EnvOk Try.prog Γ_out := by
  intro f G h
  unfold Γ_out at h
  split at h
  · rename_i hf; subst hf; cases h; exact ok_sub
  cases h
theorem x_out (t : Int) (now_0 : Int) (window_0 : Int) : execF Δ0 Γ_out l_out b_out Try.f46.results Try.f46.ntmps [] [.val (false, [(none, ⟨.int .u64, t⟩)]), .box [(none, ⟨.int .u64, now_0⟩)], .box [(none, ⟨.int .u64, window_0⟩)]] = m_out t now_0 window_0 := by kernel_rfl
theorem ok_out : CallOk Try.prog 46 outS := by
  refine callOk_of_exec (mask := []) (fn := Try.f46) (code := b_out) (Λ := l_out) mixed tys e_out Try.func46 (by kernel_rfl) (by kernel_rfl) fun xs c dc r hG hc => ?_
  unfold outS at hG
  split at hG
  · cases hG
    exact (x_out _ _ _).trans (p_out _ _ _ hc)
  · cases hG
noncomputable def b_clone : Code := (Try.f37.body).getD .skip
theorem e_clone : EnvOk Try.prog (fun _ => none) := by
  intro f G h
  cases h
theorem x_clone_nil : exec Δ0 (fun _ => none) (fun _ => none) [] 0 b_clone ⟨lv (.kn ⟨.slice (.int .u64), ([] : List Int)⟩ true) :: List.replicate (Try.f37.ntmps - 1) .any, []⟩ (retK Δ0 Try.f37.results.toList [] []) = m_clone_nil := by kernel_rfl
theorem x_clone (l : List Int) : exec Δ0 (fun _ => none) (fun _ => none) [] 0 b_clone ⟨lv (.kn ⟨.slice (.int .u64), l⟩ false) :: List.replicate (Try.f37.ntmps - 1) .any, []⟩ (retK Δ0 Try.f37.results.toList [] []) = m_clone l := by kernel_rfl
theorem ok_clone : CallOk Try.prog 37 cloneS := by
  refine callOk_nilness (fn := Try.f37) (code := b_clone) (Λ := fun _ => none) mixed tys e_clone Try.func37 (by kernel_rfl) (by kernel_rfl) fun xs c dc r hG hc => ?_
  unfold cloneS at hG
  split at hG
  · cases hG
    exact ⟨_, _, rfl, fun h => by subst h; exact x_clone_nil.trans p_clone_nil, (x_clone _).trans (p_clone _ hc)⟩
  · cases hG
/- slices.IndexFunc[[]uint64,uint64] -/
noncomputable def l_idx (k0 : Nat) : Nat → Option LoopSpec := (fun n => match n with | 0 => some ⟨sh_idx_0, fun _ => k0⟩ | _ => none)
noncomputable def b_idx : Code := (Try.f48.body).getD .skip
noncomputable def Γ_idx : Env := fun f => if f = 46 then some outS else none
theorem e_idx : EnvOk Try.prog Γ_idx := by
  intro f G h
  unfold Γ_idx at h
  split at h
  · rename_i hf; subst hf; cases h; exact ok_out
  cases h
theorem x_idx (k0 : Nat) (l : List Int) (now : Int) (window : Int) : execF Δ0 Γ_idx (l_idx k0 ) b_idx Try.f48.results Try.f48.ntmps [] [.val (false, [(none, ⟨.slice (.int .u64), l⟩)]), .fn 46 [[(none, ⟨.int .u64, now⟩)], [(none, ⟨.int .u64, window⟩)]]] = m_idx k0 l now window := by kernel_rfl
theorem ok_idx : CallOk Try.prog 48 idxS := by
  refine callOk_of_exec (mask := []) (fn := Try.f48) (code := b_idx) (Λ := (l_idx 2000000000000 )) mixed tys e_idx Try.func48 (by kernel_rfl) (by kernel_rfl) fun xs c dc r hG hc => ?_
  unfold idxS at hG
  split at hG
  · cases hG
    exact (x_idx 2000000000000 _ _ _).trans (p_idx _ _ _ hc)
  · cases hG
/- slices.DeleteFunc[[]uint64,uint64] -/
noncomputable def l_del (k0 : Nat) : Nat → Option LoopSpec := (fun n => match n with | 0 => some ⟨sh_del_0, fun _ => k0⟩ | _ => none)
noncomputable def b_del : Code := (Try.f45.body).getD .skip
noncomputable def Γ_del : Env := fun f => if f = 46 then some outS else if f = 48 then some idxS else none
theorem e_del : EnvOk Try.prog Γ_del := by
  intro f G h
  unfold Γ_del at h
  split at h
  · rename_i hf; subst hf; cases h; exact ok_out
  split at h
  · rename_i hf; subst hf; cases h; exact ok_idx
  cases h
theorem x_del (k0 : Nat) (l : List Int) (now : Int) (window : Int) : execF Δ0 Γ_del (l_del k0 ) b_del Try.f45.results Try.f45.ntmps [] [.val (false, [(some 23, ⟨.slice (.int .u64), l⟩)]), .fn 46 [[(none, ⟨.int .u64, now⟩)], [(none, ⟨.int .u64, window⟩)]]] = m_del k0 l now window := by kernel_rfl
theorem ok_del : CallOk Try.prog 45 delS := by
  refine callOk_of_exec (mask := []) (fn := Try.f45) (code := b_del) (Λ := (l_del 2000000000000 )) mixed tys e_del Try.func45 (by kernel_rfl) (by kernel_rfl) fun xs c dc r hG hc => ?_
  unfold delS at hG
  split at hG
  · cases hG
    exact (x_del 2000000000000 _ _ _).trans (p_del _ _ _ hc)
  · cases hG
/- jobmux/burst.Trim -/
noncomputable def l_trim : Nat → Option LoopSpec := (fun _ => none)
noncomputable def b_trim : Code := (Try.f43.body).getD .skip
noncomputable def Γ_trim : Env := fun f => if f = 37 then some cloneS else if f = 45 then some delS else none
theorem e_trim : EnvOk Try.prog Γ_trim := by
  intro f G h
  unfold Γ_trim at h
  split at h
  · rename_i hf; subst hf; cases h; exact ok_clone
  split at h
  · rename_i hf; subst hf; cases h; exact ok_del
  cases h
theorem x_trim (l : List Int) (now : Int) (window : Int) : execF Δ0 Γ_trim l_trim b_trim Try.f43.results Try.f43.ntmps [] [.val (false, [(none, ⟨.slice (.int .u64), l⟩)]), .val (false, [(none, ⟨.int .u64, now⟩)]), .val (false, [(none, ⟨.int .u64, window⟩)])] = m_trim l now window := by kernel_rfl
theorem ok_trim : CallOk Try.prog 43 trimS := by
  refine callOk_of_exec (mask := []) (fn := Try.f43) (code := b_trim) (Λ := l_trim) mixed tys e_trim Try.func43 (by kernel_rfl) (by kernel_rfl) fun xs c dc r hG hc => ?_
  unfold trimS at hG
  split at hG
  · cases hG
    exact (x_trim _ _ _).trans (p_trim _ _ _ hc)
  · cases hG
/- jobmux/burst.Allow -/
noncomputable def l_allow : Nat → Option LoopSpec := (fun _ => none)
noncomputable def b_allow : Code := (Try.f38.body).getD .skip
noncomputable def Γ_allow : Env := fun f => if f = 43 then some trimS else none
theorem e_allow : EnvOk Try.prog Γ_allow := by
  intro f G h
  unfold Γ_allow at h
  split at h
  · rename_i hf; subst hf; cases h; exact ok_trim
  cases h
theorem x_allow (l : List Int) (most : Int) (now : Int) (window : Int) : execF Δ0 Γ_allow l_allow b_allow Try.f38.results Try.f38.ntmps [] [.val (false, [(none, ⟨.slice (.int .u64), l⟩)]), .val (false, [(none, ⟨.int .i64, most⟩)]), .val (false, [(none, ⟨.int .u64, now⟩)]), .val (false, [(none, ⟨.int .u64, window⟩)])] = m_allow l most now window := by kernel_rfl
theorem ok_allow : CallOk Try.prog 38 allowS := by
  refine callOk_of_exec (mask := []) (fn := Try.f38) (code := b_allow) (Λ := l_allow) mixed tys e_allow Try.func38 (by kernel_rfl) (by kernel_rfl) fun xs c dc r hG hc => ?_
  unfold allowS at hG
  split at hG
  · cases hG
    exact (x_allow _ _ _ _).trans (p_allow _ _ _ _ hc)
  · cases hG
end Go.Bur
