/- Calls of the named Go functions come to what their models tell, and the rows of laws: Mil. -/

import Derived.Test.YtlcibodnpogfhaaTy
import Derived.Test.YtlcibodnpogfhaaAbExt
import Derived.Test.YtlcibodnpogfhaaAbArg
import Derived.Test.YtlcibodnpogfhaaMilP
namespace Go.Mil
open Go.Ab Go.RowKit Go.Proofs Go.YtlcibodnpogfhaaTy
set_option linter.unusedVariables false
set_option linter.unusedSimpArgs false
set_option maxRecDepth 1000000
set_option maxHeartbeats 8000000
/- jobmux/jobmuxmill.Mod -/
noncomputable def l_mod : Nat → Option LoopSpec := (fun _ => none)
noncomputable def b_mod : Code := (Try.f11.body).getD .skip
noncomputable def Γ_mod : Env := fun f => none
theorem e_mod : EnvOk Try.prog Γ_mod := by
  intro f G h
  unfold Γ_mod at h
  cases h
theorem x_mod (x : Int) (y : Int) : execF Δ0 Γ_mod l_mod b_mod Try.f11.results Try.f11.ntmps [] [.val (false, [(none, ⟨.int .i64, x⟩)]), .val (false, [(none, ⟨.int .i64, y⟩)])] = m_mod x y := by kernel_rfl
theorem ok_mod : CallOk Try.prog 11 modS := by
  refine callOk_of_exec (mask := []) (fn := Try.f11) (code := b_mod) (Λ := l_mod) mixed tys e_mod Try.func11 (by kernel_rfl) (by kernel_rfl) fun xs c dc r hG hc => ?_
  unfold modS at hG
  split at hG
  · cases hG
    exact (x_mod _ _).trans (p_mod _ _ hc)
  · cases hG
/- jobmux/jobmuxmill.New -/
noncomputable def l_new : Nat → Option LoopSpec := (fun _ => none)
noncomputable def b_new : Code := (Try.f10.body).getD .skip
noncomputable def Γ_new : Env := fun f => none
theorem e_new : EnvOk Try.prog Γ_new := by
  intro f G h
  unfold Γ_new at h
  cases h
theorem x_new (l : List Int) : execF Δ0 Γ_new l_new b_new Try.f10.results Try.f10.ntmps [] [.val (false, [(none, ⟨.slice (.int .i64), l⟩)])] = m_new l := by kernel_rfl
theorem ok_new : CallOk Try.prog 10 newS := by
  refine callOk_of_exec (mask := []) (fn := Try.f10) (code := b_new) (Λ := l_new) mixed tys e_new Try.func10 (by kernel_rfl) (by kernel_rfl) fun xs c dc r hG hc => ?_
  unfold newS at hG
  split at hG
  · cases hG
    exact (x_new _).trans (p_new _ hc)
  · cases hG
/- (*jobmux/jobmuxmill.Deck).Left -/
noncomputable def l_left : Nat → Option LoopSpec := (fun _ => none)
noncomputable def b_left : Code := (Try.f20.body).getD .skip
noncomputable def Γ_left : Env := fun f => none
theorem e_left : EnvOk Try.prog Γ_left := by
  intro f G h
  unfold Γ_left at h
  cases h
theorem x_left (d_0 : List Int) (d_1 : Int) : execF Δ0 Γ_left l_left b_left Try.f20.results Try.f20.ntmps [] [.box [(none, ⟨.slice (.int .i64), d_0⟩), (none, ⟨.int .i64, d_1⟩)]] = m_left d_0 d_1 := by kernel_rfl
theorem ok_left : CallOk Try.prog 20 leftS := by
  refine callOk_of_exec (mask := []) (fn := Try.f20) (code := b_left) (Λ := l_left) mixed tys e_left Try.func20 (by kernel_rfl) (by kernel_rfl) fun xs c dc r hG hc => ?_
  unfold leftS at hG
  split at hG
  · cases hG
    exact (x_left _ _).trans (p_left _ _ hc)
  · cases hG
/- (*jobmux/jobmuxmill.Deck).Next -/
noncomputable def l_dnxt : Nat → Option LoopSpec := (fun _ => none)
noncomputable def b_dnxt : Code := (Try.f21.body).getD .skip
noncomputable def Γ_dnxt : Env := fun f => if f = 11 then some modS else if f = 20 then some leftS else none
theorem e_dnxt : EnvOk Try.prog Γ_dnxt := by
  intro f G h
  unfold Γ_dnxt at h
  split at h
  · rename_i hf; subst hf; cases h; exact ok_mod
  split at h
  · rename_i hf; subst hf; cases h; exact ok_left
  cases h
theorem x_dnxt (d_0 : List Int) (d_1 : Int) (n : Int) : execF Δ0 Γ_dnxt l_dnxt b_dnxt Try.f21.results Try.f21.ntmps [] [.box [(none, ⟨.slice (.int .i64), d_0⟩), (none, ⟨.int .i64, d_1⟩)], .val (false, [(none, ⟨.int .i64, n⟩)])] = m_dnxt d_0 d_1 n := by kernel_rfl
theorem ok_dnxt : CallOk Try.prog 21 dnxtS := by
  refine callOk_of_exec (mask := []) (fn := Try.f21) (code := b_dnxt) (Λ := l_dnxt) mixed tys e_dnxt Try.func21 (by kernel_rfl) (by kernel_rfl) fun xs c dc r hG hc => ?_
  unfold dnxtS at hG
  split at hG
  · cases hG
    exact (x_dnxt _ _ _).trans (p_dnxt _ _ _ hc)
  · cases hG
/- (*jobmux/jobmuxmill.Deck).Range -/
noncomputable def l_drng : Nat → Option LoopSpec := (fun _ => none)
noncomputable def b_drng : Code := (Try.f37.body).getD .skip
noncomputable def Γ_drng : Env := fun f => if f = 21 then some dnxtS else none
theorem e_drng : EnvOk Try.prog Γ_drng := by
  intro f G h
  unfold Γ_drng at h
  split at h
  · rename_i hf; subst hf; cases h; exact ok_dnxt
  cases h
theorem x_drng (d_0 : List Int) (d_1 : Int) (lo : Int) (hi : Int) : execF Δ0 Γ_drng l_drng b_drng Try.f37.results Try.f37.ntmps [] [.box [(none, ⟨.slice (.int .i64), d_0⟩), (none, ⟨.int .i64, d_1⟩)], .val (false, [(none, ⟨.int .i64, lo⟩)]), .val (false, [(none, ⟨.int .i64, hi⟩)])] = m_drng d_0 d_1 lo hi := by kernel_rfl
theorem ok_drng : CallOk Try.prog 37 drngS := by
  refine callOk_of_exec (mask := []) (fn := Try.f37) (code := b_drng) (Λ := l_drng) mixed tys e_drng Try.func37 (by kernel_rfl) (by kernel_rfl) fun xs c dc r hG hc => ?_
  unfold drngS at hG
  split at hG
  · cases hG
    exact (x_drng _ _ _ _).trans (p_drng _ _ _ _ hc)
  · cases hG
/- jobmux/jobmuxmill.Patterns -/
noncomputable def l_pat : Nat → Option LoopSpec := (fun _ => none)
noncomputable def b_pat : Code := (Try.f50.body).getD .skip
noncomputable def Γ_pat : Env := fun f => none
theorem e_pat : EnvOk Try.prog Γ_pat := by
  intro f G h
  unfold Γ_pat at h
  cases h
theorem x_pat  : execF Δ0 Γ_pat l_pat b_pat Try.f50.results Try.f50.ntmps [[true]] [] = m_pat  := by kernel_rfl
theorem ok_pat : CallOk Try.prog 50 patS := by
  refine callOk_of_exec (mask := [[true]]) (fn := Try.f50) (code := b_pat) (Λ := l_pat) mixed tys e_pat Try.func50 (by kernel_rfl) (by kernel_rfl) fun xs c dc r hG hc => ?_
  unfold patS at hG
  split at hG
  · cases hG
    exact (x_pat ).trans (p_pat  hc)
  · cases hG
/- jobmux/jobmuxmill.Job -/
noncomputable def l_job (k0 : Nat) (k1 : Nat) : Nat → Option LoopSpec := (fun n => match n with | 0 => some ⟨sh_job_0, fun _ => k0⟩ | 1 => some ⟨sh_job_1, fun _ => k1⟩ | _ => none)
noncomputable def b_job : Code := (Try.f38.body).getD .skip
noncomputable def Γ_job : Env := fun f => if f = 21 then some dnxtS else if f = 37 then some drngS else if f = 50 then some patS else none
theorem e_job : EnvOk Try.prog Γ_job := by
  intro f G h
  unfold Γ_job at h
  split at h
  · rename_i hf; subst hf; cases h; exact ok_dnxt
  split at h
  · rename_i hf; subst hf; cases h; exact ok_drng
  split at h
  · rename_i hf; subst hf; cases h; exact ok_pat
  cases h
theorem x_job (k0 : Nat) (k1 : Nat) (d_0 : List Int) (d_1 : Int) (name : ByteArray) (others : List ByteArray) : execF Δ0 Γ_job (l_job k0 k1 ) b_job Try.f38.results Try.f38.ntmps [[false, false, true, true, false, false, false, false, false, false, false, false, true, false, false]] [.box [(none, ⟨.slice (.int .i64), d_0⟩), (none, ⟨.int .i64, d_1⟩)], .val (false, [(none, ⟨.str, name⟩)]), .val (false, [(none, ⟨.slice (.str), others⟩)])] = m_job k0 k1 d_0 d_1 name others := by kernel_rfl
theorem ok_job : CallOk Try.prog 38 jobS := by
  refine callOk_of_exec (mask := [[false, false, true, true, false, false, false, false, false, false, false, false, true, false, false]]) (fn := Try.f38) (code := b_job) (Λ := (l_job 100 10 )) mixed tys e_job Try.func38 (by kernel_rfl) (by kernel_rfl) fun xs c dc r hG hc => ?_
  unfold jobS at hG
  split at hG
  · cases hG
    exact (x_job 100 10 _ _ _ _).trans (p_job _ _ _ _ hc)
  · cases hG
/- jobmux/jobmuxmill.Jobs -/
noncomputable def l_jobs (k0 : Nat) : Nat → Option LoopSpec := (fun n => match n with | 0 => some ⟨sh_jobs_0, fun _ => k0⟩ | _ => none)
noncomputable def b_jobs : Code := (Try.f17.body).getD .skip
noncomputable def Γ_jobs : Env := fun f => if f = 21 then some dnxtS else if f = 37 then some drngS else if f = 38 then some jobS else none
theorem e_jobs : EnvOk Try.prog Γ_jobs := by
  intro f G h
  unfold Γ_jobs at h
  split at h
  · rename_i hf; subst hf; cases h; exact ok_dnxt
  split at h
  · rename_i hf; subst hf; cases h; exact ok_drng
  split at h
  · rename_i hf; subst hf; cases h; exact ok_job
  cases h
theorem x_jobs (k0 : Nat) (d_0 : List Int) (d_1 : Int) : execF Δ0 Γ_jobs (l_jobs k0 ) b_jobs Try.f17.results Try.f17.ntmps [[true]] [.box [(none, ⟨.slice (.int .i64), d_0⟩), (none, ⟨.int .i64, d_1⟩)]] = m_jobs k0 d_0 d_1 := by kernel_rfl
theorem ok_jobs : CallOk Try.prog 17 jobsS := by
  refine callOk_of_exec (mask := [[true]]) (fn := Try.f17) (code := b_jobs) (Λ := (l_jobs 10 )) mixed tys e_jobs Try.func17 (by kernel_rfl) (by kernel_rfl) fun xs c dc r hG hc => ?_
  unfold jobsS at hG
  split at hG
  · cases hG
    exact (x_jobs 10 _ _).trans (p_jobs _ _ hc)
  · cases hG
end Go.Mil
