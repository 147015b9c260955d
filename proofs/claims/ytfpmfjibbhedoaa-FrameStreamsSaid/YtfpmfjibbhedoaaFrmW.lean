/- Calls of the named Go functions come to what their models tell, and the rows of laws: Frm. -/

import Derived.Test.YtfpmfjibbhedoaaTy
import Derived.Test.YtfpmfjibbhedoaaAbExt
import Derived.Test.YtfpmfjibbhedoaaAbArg
import Derived.Test.YtfpmfjibbhedoaaFrmP
namespace Go.Frm
open Go.Ab Go.RowKit Go.Proofs Go.YtfpmfjibbhedoaaTy
set_option linter.unusedVariables false
set_option linter.unusedSimpArgs false
set_option maxRecDepth 100000
/- jobmux/jobmuxmill.Mod -/
noncomputable def l_mod : Nat → Option LoopSpec := (fun _ => none)
noncomputable def b_mod : Code := (Try.f14.body).getD .skip
noncomputable def Γ_mod : Env := fun f => none
theorem e_mod : EnvOk Try.prog Γ_mod := by
  intro f G h
  unfold Γ_mod at h
  cases h
theorem x_mod (x : Int) (y : Int) : execF Δ0 Γ_mod l_mod b_mod Try.f14.results Try.f14.ntmps [.val (false, [(none, ⟨.int .i64, x⟩)]), .val (false, [(none, ⟨.int .i64, y⟩)])] = m_mod x y := by kernel_rfl
theorem ok_mod : CallOk Try.prog 14 modS := by
  refine callOk_of_exec (fn := Try.f14) (code := b_mod) (Λ := l_mod) mixed tys e_mod Try.func14 (by kernel_rfl) (by kernel_rfl) fun xs c dc r hG hc => ?_
  unfold modS at hG
  split at hG
  · cases hG
    exact (x_mod _ _).trans (p_mod _ _ hc)
  · cases hG
noncomputable def b_clone : Code := (Try.f48.body).getD .skip
theorem e_clone : EnvOk Try.prog (fun _ => none) := by
  intro f G h
  cases h
theorem x_clone_nil : exec Δ0 (fun _ => none) (fun _ => none) [] 0 b_clone ⟨lv (.kn ⟨.slice (.int .u8), ([] : List Int)⟩ true) :: List.replicate (Try.f48.ntmps - 1) .any, []⟩ (retK Δ0 Try.f48.results.toList []) = m_clone_nil := by kernel_rfl
theorem x_clone (l : List Int) : exec Δ0 (fun _ => none) (fun _ => none) [] 0 b_clone ⟨lv (.kn ⟨.slice (.int .u8), l⟩ false) :: List.replicate (Try.f48.ntmps - 1) .any, []⟩ (retK Δ0 Try.f48.results.toList []) = m_clone l := by kernel_rfl
theorem ok_clone : CallOk Try.prog 48 cloneS := by
  refine callOk_nilness (fn := Try.f48) (code := b_clone) (Λ := fun _ => none) mixed tys e_clone Try.func48 (by kernel_rfl) (by kernel_rfl) fun xs c dc r hG hc => ?_
  unfold cloneS at hG
  split at hG
  · cases hG
    exact ⟨_, _, rfl, fun h => by subst h; exact x_clone_nil.trans p_clone_nil, (x_clone _).trans (p_clone _ hc)⟩
  · cases hG
/- jobmux/frame.Encode -/
noncomputable def l_enc : Nat → Option LoopSpec := (fun _ => none)
noncomputable def b_enc : Code := (Try.f24.body).getD .skip
noncomputable def Γ_enc : Env := fun f => none
theorem e_enc : EnvOk Try.prog Γ_enc := by
  intro f G h
  unfold Γ_enc at h
  cases h
theorem x_enc (b : List Int) : execF Δ0 Γ_enc l_enc b_enc Try.f24.results Try.f24.ntmps [.val (false, [(none, ⟨.slice (.int .u8), b⟩)])] = m_enc b := by kernel_rfl
theorem ok_enc : CallOk Try.prog 24 encS := by
  refine callOk_of_exec (fn := Try.f24) (code := b_enc) (Λ := l_enc) mixed tys e_enc Try.func24 (by kernel_rfl) (by kernel_rfl) fun xs c dc r hG hc => ?_
  unfold encS at hG
  split at hG
  · cases hG
    exact (x_enc _).trans (p_enc _ hc)
  · cases hG
/- jobmux/jobmuxref27.Encode -/
noncomputable def l_renc : Nat → Option LoopSpec := (fun _ => none)
noncomputable def b_renc : Code := (Try.f25.body).getD .skip
noncomputable def Γ_renc : Env := fun f => none
theorem e_renc : EnvOk Try.prog Γ_renc := by
  intro f G h
  unfold Γ_renc at h
  cases h
theorem x_renc (b : List Int) : execF Δ0 Γ_renc l_renc b_renc Try.f25.results Try.f25.ntmps [.val (false, [(none, ⟨.slice (.int .u8), b⟩)])] = m_renc b := by kernel_rfl
theorem ok_renc : CallOk Try.prog 25 rencS := by
  refine callOk_of_exec (fn := Try.f25) (code := b_renc) (Λ := l_renc) mixed tys e_renc Try.func25 (by kernel_rfl) (by kernel_rfl) fun xs c dc r hG hc => ?_
  unfold rencS at hG
  split at hG
  · cases hG
    exact (x_renc _).trans (p_renc _ hc)
  · cases hG
/- jobmux/frame.number -/
noncomputable def l_num (k0 : Nat) : Nat → Option LoopSpec := (fun n => match n with | 0 => some ⟨sh_num_0, fun _ => k0⟩ | _ => none)
noncomputable def b_num : Code := (Try.f47.body).getD .skip
noncomputable def Γ_num : Env := fun f => none
theorem e_num : EnvOk Try.prog Γ_num := by
  intro f G h
  unfold Γ_num at h
  cases h
theorem x_num (k0 : Nat) (b : List Int) : execF Δ0 Γ_num (l_num k0 ) b_num Try.f47.results Try.f47.ntmps [.val (false, [(none, ⟨.slice (.int .u8), b⟩)])] = m_num k0 b := by kernel_rfl
theorem ok_num : CallOk Try.prog 47 numS := by
  refine callOk_of_exec (fn := Try.f47) (code := b_num) (Λ := (l_num 10 )) mixed tys e_num Try.func47 (by kernel_rfl) (by kernel_rfl) fun xs c dc r hG hc => ?_
  unfold numS at hG
  split at hG
  · cases hG
    exact (x_num 10 _).trans (p_num _ hc)
  · cases hG
/- jobmux/frame.Split -/
noncomputable def l_split (k0 : Nat) : Nat → Option LoopSpec := (fun n => match n with | 0 => some ⟨sh_split_0, fun _ => k0⟩ | _ => none)
noncomputable def b_split : Code := (Try.f26.body).getD .skip
noncomputable def Γ_split : Env := fun f => if f = 47 then some numS else if f = 48 then some cloneS else none
theorem e_split : EnvOk Try.prog Γ_split := by
  intro f G h
  unfold Γ_split at h
  split at h
  · rename_i hf; subst hf; cases h; exact ok_num
  split at h
  · rename_i hf; subst hf; cases h; exact ok_clone
  cases h
theorem x_split (k0 : Nat) (b : List Int) : execF Δ0 Γ_split (l_split k0 ) b_split Try.f26.results Try.f26.ntmps [.val (false, [(none, ⟨.slice (.int .u8), b⟩)])] = m_split k0 b := by kernel_rfl
theorem ok_split : CallOk Try.prog 26 splitS := by
  refine callOk_of_exec (fn := Try.f26) (code := b_split) (Λ := (l_split 2000000000000 )) mixed tys e_split Try.func26 (by kernel_rfl) (by kernel_rfl) fun xs c dc r hG hc => ?_
  unfold splitS at hG
  split at hG
  · cases hG
    exact (x_split 2000000000000 _).trans (p_split _ hc)
  · cases hG
/- jobmux/jobmuxref27.Split -/
noncomputable def l_rsplit (k0 : Nat) : Nat → Option LoopSpec := (fun n => match n with | 0 => some ⟨sh_rsplit_0, fun _ => k0⟩ | _ => none)
noncomputable def b_rsplit : Code := (Try.f27.body).getD .skip
noncomputable def Γ_rsplit : Env := fun f => none
theorem e_rsplit : EnvOk Try.prog Γ_rsplit := by
  intro f G h
  unfold Γ_rsplit at h
  cases h
theorem x_rsplit (k0 : Nat) (b : List Int) : execF Δ0 Γ_rsplit (l_rsplit k0 ) b_rsplit Try.f27.results Try.f27.ntmps [.val (false, [(none, ⟨.slice (.int .u8), b⟩)])] = m_rsplit k0 b := by kernel_rfl
theorem ok_rsplit : CallOk Try.prog 27 rsplitS := by
  refine callOk_of_exec (fn := Try.f27) (code := b_rsplit) (Λ := (l_rsplit 2000000000000 )) mixed tys e_rsplit Try.func27 (by kernel_rfl) (by kernel_rfl) fun xs c dc r hG hc => ?_
  unfold rsplitS at hG
  split at hG
  · cases hG
    exact (x_rsplit 2000000000000 _).trans (p_rsplit _ hc)
  · cases hG
/- jobmux/jobmuxref27.Same -/
noncomputable def l_same (k0 : Nat) : Nat → Option LoopSpec := (fun n => match n with | 0 => some ⟨sh_same_0, fun _ => k0⟩ | _ => none)
noncomputable def b_same : Code := (Try.f28.body).getD .skip
noncomputable def Γ_same : Env := fun f => none
theorem e_same : EnvOk Try.prog Γ_same := by
  intro f G h
  unfold Γ_same at h
  cases h
theorem x_same (k0 : Nat) (x : List (List Int)) (y : List (List Int)) : execF Δ0 Γ_same (l_same k0 ) b_same Try.f28.results Try.f28.ntmps [.val (false, [(none, ⟨.slice (.slice (.int .u8)), x⟩)]), .val (false, [(none, ⟨.slice (.slice (.int .u8)), y⟩)])] = m_same k0 x y := by kernel_rfl
theorem ok_same : CallOk Try.prog 28 sameS := by
  refine callOk_of_exec (fn := Try.f28) (code := b_same) (Λ := (l_same 2000000000000 )) mixed tys e_same Try.func28 (by kernel_rfl) (by kernel_rfl) fun xs c dc r hG hc => ?_
  unfold sameS at hG
  split at hG
  · cases hG
    exact (x_same 2000000000000 _ _).trans (p_same _ _ hc)
  · cases hG
/- jobmux/jobmuxlaw27.sane -/
noncomputable def l_sane : Nat → Option LoopSpec := (fun _ => none)
noncomputable def b_sane : Code := (Try.f23.body).getD .skip
noncomputable def Γ_sane : Env := fun f => if f = 24 then some encS else none
theorem e_sane : EnvOk Try.prog Γ_sane := by
  intro f G h
  unfold Γ_sane at h
  split at h
  · rename_i hf; subst hf; cases h; exact ok_enc
  cases h
theorem x_sane  : execF Δ0 Γ_sane l_sane b_sane Try.f23.results Try.f23.ntmps [] = m_sane  := by kernel_rfl
theorem ok_sane : CallOk Try.prog 23 saneS := by
  refine callOk_of_exec (fn := Try.f23) (code := b_sane) (Λ := l_sane) mixed tys e_sane Try.func23 (by kernel_rfl) (by kernel_rfl) fun xs c dc r hG hc => ?_
  unfold saneS at hG
  split at hG
  · cases hG
    exact (x_sane ).trans (p_sane  hc)
  · cases hG
/- jobmux/jobmuxlaw27.FrameLimits -/
noncomputable def l_frameLimits : Nat → Option LoopSpec := (fun _ => none)
noncomputable def b_frameLimits : Code := (Try.f7.body).getD .skip
noncomputable def Γ_frameLimits : Env := fun f => if f = 14 then some modS else if f = 23 then some saneS else if f = 24 then some encS else if f = 25 then some rencS else if f = 26 then some splitS else if f = 27 then some rsplitS else if f = 28 then some sameS else none
theorem e_frameLimits : EnvOk Try.prog Γ_frameLimits := by
  intro f G h
  unfold Γ_frameLimits at h
  split at h
  · rename_i hf; subst hf; cases h; exact ok_mod
  split at h
  · rename_i hf; subst hf; cases h; exact ok_sane
  split at h
  · rename_i hf; subst hf; cases h; exact ok_enc
  split at h
  · rename_i hf; subst hf; cases h; exact ok_renc
  split at h
  · rename_i hf; subst hf; cases h; exact ok_split
  split at h
  · rename_i hf; subst hf; cases h; exact ok_rsplit
  split at h
  · rename_i hf; subst hf; cases h; exact ok_same
  cases h
theorem x_frameLimits (n : Int) : execF Δ0 Γ_frameLimits l_frameLimits b_frameLimits Try.f7.results Try.f7.ntmps [.val (false, [(none, ⟨.int .i64, n⟩)])] = m_frameLimits n := by kernel_rfl
theorem frameLimits_true (d : Tup [.int .i64]) (h : WfT [.int .i64] d) : execF Δ0 Γ_frameLimits l_frameLimits b_frameLimits Try.f7.results Try.f7.ntmps (argsT [.int .i64] [false] d) = resB true :=
  (x_frameLimits d.1).trans (p_frameLimits d.1 h)
end Go.Frm
