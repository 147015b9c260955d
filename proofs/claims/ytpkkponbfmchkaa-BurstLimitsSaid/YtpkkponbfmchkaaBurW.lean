/- Calls of the named Go functions come to what their models tell, and the rows of laws: Bur. -/

import Derived.Test.YtpkkponbfmchkaaTy
import Derived.Test.YtpkkponbfmchkaaAbExt
import Derived.Test.YtpkkponbfmchkaaAbArg
import Derived.Test.YtpkkponbfmchkaaBurP
namespace Go.Bur
open Go.Ab Go.RowKit Go.Proofs Go.YtpkkponbfmchkaaTy
set_option linter.unusedVariables false
set_option linter.unusedSimpArgs false
set_option maxRecDepth 100000
/- jobmux/ticks.Sub -/
noncomputable def l_sub : Nat → Option LoopSpec := (fun _ => none)
noncomputable def b_sub : Code := (Try.f14.body).getD .skip
noncomputable def Γ_sub : Env := fun f => if f = 16 then some sub64S else none
theorem e_sub : EnvOk Try.prog Γ_sub := by
  intro f G h
  unfold Γ_sub at h
  split at h
  · rename_i hf; subst hf; cases h; exact sub64_ok Try.func16 (by kernel_rfl) (by kernel_rfl) (by kernel_rfl) (by kernel_rfl)
  cases h
theorem x_sub (a : Int) (b : Int) : execF Δ0 Γ_sub l_sub b_sub Try.f14.results Try.f14.ntmps [.val (false, [(none, ⟨.int .u64, a⟩)]), .val (false, [(none, ⟨.int .u64, b⟩)])] = m_sub a b := by kernel_rfl
theorem ok_sub : CallOk Try.prog 14 subS := by
  refine callOk_of_exec (fn := Try.f14) (code := b_sub) (Λ := l_sub) mixed tys e_sub Try.func14 (by kernel_rfl) (by kernel_rfl) fun xs c dc r hG hc => ?_
  unfold subS at hG
  split at hG
  · cases hG
    exact (x_sub _ _).trans (p_sub _ _ hc)
  · cases hG
/- jobmux/burst.Trim$1 -/
noncomputable def l_out : Nat → Option LoopSpec := (fun _ => none)
noncomputable def b_out : Code := (Try.f13.body).getD .skip
noncomputable def Γ_out : Env := fun f => if f = 14 then some subS else none
theorem e_out : EnvOk Try.prog Γ_out := by
  intro f G h
  unfold Γ_out at h
  split at h
  · rename_i hf; subst hf; cases h; exact ok_sub
  cases h
theorem x_out (t : Int) (now_0 : Int) (window_0 : Int) : execF Δ0 Γ_out l_out b_out Try.f13.results Try.f13.ntmps [.val (false, [(none, ⟨.int .u64, t⟩)]), .box [(none, ⟨.int .u64, now_0⟩)], .box [(none, ⟨.int .u64, window_0⟩)]] = m_out t now_0 window_0 := by kernel_rfl
theorem ok_out : CallOk Try.prog 13 outS := by
  refine callOk_of_exec (fn := Try.f13) (code := b_out) (Λ := l_out) mixed tys e_out Try.func13 (by kernel_rfl) (by kernel_rfl) fun xs c dc r hG hc => ?_
  unfold outS at hG
  split at hG
  · cases hG
    exact (x_out _ _ _).trans (p_out _ _ _ hc)
  · cases hG
noncomputable def b_clone : Code := (Try.f12.body).getD .skip
theorem e_clone : EnvOk Try.prog (fun _ => none) := by
  intro f G h
  cases h
theorem x_clone_nil : exec Δ0 (fun _ => none) (fun _ => none) [] 0 b_clone ⟨lv (.kn ⟨.slice (.int .u64), ([] : List Int)⟩ true) :: List.replicate (Try.f12.ntmps - 1) .any, []⟩ (retK Δ0 Try.f12.results.toList []) = m_clone_nil := by kernel_rfl
theorem x_clone (l : List Int) : exec Δ0 (fun _ => none) (fun _ => none) [] 0 b_clone ⟨lv (.kn ⟨.slice (.int .u64), l⟩ false) :: List.replicate (Try.f12.ntmps - 1) .any, []⟩ (retK Δ0 Try.f12.results.toList []) = m_clone l := by kernel_rfl
theorem ok_clone : CallOk Try.prog 12 cloneS := by
  refine callOk_nilness (fn := Try.f12) (code := b_clone) (Λ := fun _ => none) mixed tys e_clone Try.func12 (by kernel_rfl) (by kernel_rfl) fun xs c dc r hG hc => ?_
  unfold cloneS at hG
  split at hG
  · cases hG
    exact ⟨_, _, rfl, fun h => by subst h; exact x_clone_nil.trans p_clone_nil, (x_clone _).trans (p_clone _ hc)⟩
  · cases hG
/- slices.IndexFunc[[]uint64,uint64] -/
noncomputable def l_idx (k0 : Nat) : Nat → Option LoopSpec := (fun n => match n with | 0 => some ⟨sh_idx_0, fun _ => k0⟩ | _ => none)
noncomputable def b_idx : Code := (Try.f15.body).getD .skip
noncomputable def Γ_idx : Env := fun f => if f = 13 then some outS else none
theorem e_idx : EnvOk Try.prog Γ_idx := by
  intro f G h
  unfold Γ_idx at h
  split at h
  · rename_i hf; subst hf; cases h; exact ok_out
  cases h
theorem x_idx (k0 : Nat) (l : List Int) (now : Int) (window : Int) : execF Δ0 Γ_idx (l_idx k0 ) b_idx Try.f15.results Try.f15.ntmps [.val (false, [(none, ⟨.slice (.int .u64), l⟩)]), .fn 13 [[(none, ⟨.int .u64, now⟩)], [(none, ⟨.int .u64, window⟩)]]] = m_idx k0 l now window := by kernel_rfl
theorem ok_idx : CallOk Try.prog 15 idxS := by
  refine callOk_of_exec (fn := Try.f15) (code := b_idx) (Λ := (l_idx 2000000000000 )) mixed tys e_idx Try.func15 (by kernel_rfl) (by kernel_rfl) fun xs c dc r hG hc => ?_
  unfold idxS at hG
  split at hG
  · cases hG
    exact (x_idx 2000000000000 _ _ _).trans (p_idx _ _ _ hc)
  · cases hG
/- slices.DeleteFunc[[]uint64,uint64] -/
noncomputable def l_del (k0 : Nat) : Nat → Option LoopSpec := (fun n => match n with | 0 => some ⟨sh_del_0, fun _ => k0⟩ | _ => none)
noncomputable def b_del : Code := (Try.f11.body).getD .skip
noncomputable def Γ_del : Env := fun f => if f = 13 then some outS else if f = 15 then some idxS else none
theorem e_del : EnvOk Try.prog Γ_del := by
  intro f G h
  unfold Γ_del at h
  split at h
  · rename_i hf; subst hf; cases h; exact ok_out
  split at h
  · rename_i hf; subst hf; cases h; exact ok_idx
  cases h
theorem x_del (k0 : Nat) (l : List Int) (now : Int) (window : Int) : execF Δ0 Γ_del (l_del k0 ) b_del Try.f11.results Try.f11.ntmps [.val (false, [(some 22, ⟨.slice (.int .u64), l⟩)]), .fn 13 [[(none, ⟨.int .u64, now⟩)], [(none, ⟨.int .u64, window⟩)]]] = m_del k0 l now window := by kernel_rfl
theorem ok_del : CallOk Try.prog 11 delS := by
  refine callOk_of_exec (fn := Try.f11) (code := b_del) (Λ := (l_del 2000000000000 )) mixed tys e_del Try.func11 (by kernel_rfl) (by kernel_rfl) fun xs c dc r hG hc => ?_
  unfold delS at hG
  split at hG
  · cases hG
    exact (x_del 2000000000000 _ _ _).trans (p_del _ _ _ hc)
  · cases hG
/- jobmux/burst.Trim -/
noncomputable def l_trim : Nat → Option LoopSpec := (fun _ => none)
noncomputable def b_trim : Code := (Try.f8.body).getD .skip
noncomputable def Γ_trim : Env := fun f => if f = 11 then some delS else if f = 12 then some cloneS else none
theorem e_trim : EnvOk Try.prog Γ_trim := by
  intro f G h
  unfold Γ_trim at h
  split at h
  · rename_i hf; subst hf; cases h; exact ok_del
  split at h
  · rename_i hf; subst hf; cases h; exact ok_clone
  cases h
theorem x_trim (l : List Int) (now : Int) (window : Int) : execF Δ0 Γ_trim l_trim b_trim Try.f8.results Try.f8.ntmps [.val (false, [(none, ⟨.slice (.int .u64), l⟩)]), .val (false, [(none, ⟨.int .u64, now⟩)]), .val (false, [(none, ⟨.int .u64, window⟩)])] = m_trim l now window := by kernel_rfl
theorem ok_trim : CallOk Try.prog 8 trimS := by
  refine callOk_of_exec (fn := Try.f8) (code := b_trim) (Λ := l_trim) mixed tys e_trim Try.func8 (by kernel_rfl) (by kernel_rfl) fun xs c dc r hG hc => ?_
  unfold trimS at hG
  split at hG
  · cases hG
    exact (x_trim _ _ _).trans (p_trim _ _ _ hc)
  · cases hG
/- jobmux/burst.Allow -/
noncomputable def l_allow : Nat → Option LoopSpec := (fun _ => none)
noncomputable def b_allow : Code := (Try.f9.body).getD .skip
noncomputable def Γ_allow : Env := fun f => if f = 8 then some trimS else none
theorem e_allow : EnvOk Try.prog Γ_allow := by
  intro f G h
  unfold Γ_allow at h
  split at h
  · rename_i hf; subst hf; cases h; exact ok_trim
  cases h
theorem x_allow (l : List Int) (most : Int) (now : Int) (window : Int) : execF Δ0 Γ_allow l_allow b_allow Try.f9.results Try.f9.ntmps [.val (false, [(none, ⟨.slice (.int .u64), l⟩)]), .val (false, [(none, ⟨.int .i64, most⟩)]), .val (false, [(none, ⟨.int .u64, now⟩)]), .val (false, [(none, ⟨.int .u64, window⟩)])] = m_allow l most now window := by kernel_rfl
theorem ok_allow : CallOk Try.prog 9 allowS := by
  refine callOk_of_exec (fn := Try.f9) (code := b_allow) (Λ := l_allow) mixed tys e_allow Try.func9 (by kernel_rfl) (by kernel_rfl) fun xs c dc r hG hc => ?_
  unfold allowS at hG
  split at hG
  · cases hG
    exact (x_allow _ _ _ _).trans (p_allow _ _ _ _ hc)
  · cases hG
/- jobmux/burst.Play -/
noncomputable def l_play (k0 : Nat) : Nat → Option LoopSpec := (fun n => match n with | 0 => some ⟨sh_play_0, fun _ => k0⟩ | _ => none)
noncomputable def b_play : Code := (Try.f7.body).getD .skip
noncomputable def Γ_play : Env := fun f => if f = 9 then some allowS else none
theorem e_play : EnvOk Try.prog Γ_play := by
  intro f G h
  unfold Γ_play at h
  split at h
  · rename_i hf; subst hf; cases h; exact ok_allow
  cases h
theorem x_play (k0 : Nat) (most : Int) (window : Int) (l : List Int) : execF Δ0 Γ_play (l_play k0 ) b_play Try.f7.results Try.f7.ntmps [.val (false, [(none, ⟨.int .i64, most⟩)]), .val (false, [(none, ⟨.int .u64, window⟩)]), .val (false, [(none, ⟨.slice (.int .u64), l⟩)])] = m_play k0 most window l := by kernel_rfl
theorem ok_play : CallOk Try.prog 7 playS := by
  refine callOk_of_exec (fn := Try.f7) (code := b_play) (Λ := (l_play 2000000000000 )) mixed tys e_play Try.func7 (by kernel_rfl) (by kernel_rfl) fun xs c dc r hG hc => ?_
  unfold playS at hG
  split at hG
  · cases hG
    exact (x_play 2000000000000 _ _ _).trans (p_play _ _ _ hc)
  · cases hG
/- jobmux/jobmuxlaw03.small -/
noncomputable def l_small (k0 : Nat) : Nat → Option LoopSpec := (fun n => match n with | 0 => some ⟨sh_small_0, fun _ => k0⟩ | _ => none)
noncomputable def b_small : Code := (Try.f6.body).getD .skip
noncomputable def Γ_small : Env := fun f => none
theorem e_small : EnvOk Try.prog Γ_small := by
  intro f G h
  unfold Γ_small at h
  cases h
theorem x_small (k0 : Nat) (l : List Int) (n : Int) : execF Δ0 Γ_small (l_small k0 ) b_small Try.f6.results Try.f6.ntmps [.val (false, [(none, ⟨.slice (.int .u64), l⟩)]), .val (false, [(none, ⟨.int .u64, n⟩)])] = m_small k0 l n := by kernel_rfl
theorem ok_small : CallOk Try.prog 6 smallS := by
  refine callOk_of_exec (fn := Try.f6) (code := b_small) (Λ := (l_small 2000000000000 )) mixed tys e_small Try.func6 (by kernel_rfl) (by kernel_rfl) fun xs c dc r hG hc => ?_
  unfold smallS at hG
  split at hG
  · cases hG
    exact (x_small 2000000000000 _ _).trans (p_small _ _ hc)
  · cases hG
/- jobmux/jobmuxref03.SameTimes -/
noncomputable def l_same (k0 : Nat) : Nat → Option LoopSpec := (fun n => match n with | 0 => some ⟨sh_same_0, fun _ => k0⟩ | _ => none)
noncomputable def b_same : Code := (Try.f10.body).getD .skip
noncomputable def Γ_same : Env := fun f => none
theorem e_same : EnvOk Try.prog Γ_same := by
  intro f G h
  unfold Γ_same at h
  cases h
theorem x_same (k0 : Nat) (a : List Int) (b : List Int) : execF Δ0 Γ_same (l_same k0 ) b_same Try.f10.results Try.f10.ntmps [.val (false, [(none, ⟨.slice (.int .u64), a⟩)]), .val (false, [(none, ⟨.slice (.int .u64), b⟩)])] = m_same k0 a b := by kernel_rfl
theorem ok_same : CallOk Try.prog 10 sameS := by
  refine callOk_of_exec (fn := Try.f10) (code := b_same) (Λ := (l_same 2000000000000 )) mixed tys e_same Try.func10 (by kernel_rfl) (by kernel_rfl) fun xs c dc r hG hc => ?_
  unfold sameS at hG
  split at hG
  · cases hG
    exact (x_same 2000000000000 _ _).trans (p_same _ _ hc)
  · cases hG
/- jobmux/jobmuxlaw03.sane -/
noncomputable def l_sane : Nat → Option LoopSpec := (fun _ => none)
noncomputable def b_sane : Code := (Try.f5.body).getD .skip
noncomputable def Γ_sane : Env := fun f => if f = 7 then some playS else none
theorem e_sane : EnvOk Try.prog Γ_sane := by
  intro f G h
  unfold Γ_sane at h
  split at h
  · rename_i hf; subst hf; cases h; exact ok_play
  cases h
theorem x_sane  : execF Δ0 Γ_sane l_sane b_sane Try.f5.results Try.f5.ntmps [] = m_sane  := by kernel_rfl
theorem ok_sane : CallOk Try.prog 5 saneS := by
  refine callOk_of_exec (fn := Try.f5) (code := b_sane) (Λ := l_sane) mixed tys e_sane Try.func5 (by kernel_rfl) (by kernel_rfl) fun xs c dc r hG hc => ?_
  unfold saneS at hG
  split at hG
  · cases hG
    exact (x_sane ).trans (p_sane  hc)
  · cases hG
/- jobmux/jobmuxlaw03.BurstLimits -/
noncomputable def l_burstLimits (k0 : Nat) (k1 : Nat) (k2 : Nat) : Nat → Option LoopSpec := (fun n => match n with | 0 => some ⟨sh_burstLimits_0, fun _ => k0⟩ | 1 => some ⟨sh_burstLimits_1, fun _ => k1⟩ | 2 => some ⟨sh_burstLimits_2, fun _ => k2⟩ | _ => none)
noncomputable def b_burstLimits : Code := (Try.f3.body).getD .skip
noncomputable def Γ_burstLimits : Env := fun f => if f = 5 then some saneS else if f = 6 then some smallS else if f = 7 then some playS else none
theorem e_burstLimits : EnvOk Try.prog Γ_burstLimits := by
  intro f G h
  unfold Γ_burstLimits at h
  split at h
  · rename_i hf; subst hf; cases h; exact ok_sane
  split at h
  · rename_i hf; subst hf; cases h; exact ok_small
  split at h
  · rename_i hf; subst hf; cases h; exact ok_play
  cases h
theorem x_burstLimits (k0 : Nat) (k1 : Nat) (k2 : Nat) (most : Int) (window : Int) (l : List Int) : execF Δ0 Γ_burstLimits (l_burstLimits k0 k1 k2 ) b_burstLimits Try.f3.results Try.f3.ntmps [.val (false, [(none, ⟨.int .i64, most⟩)]), .val (false, [(none, ⟨.int .u64, window⟩)]), .val (false, [(none, ⟨.slice (.int .u64), l⟩)])] = m_burstLimits k0 k1 k2 most window l := by kernel_rfl
theorem burstLimits_true (d : Tup [.int .i64, .int .u64, .slice (.int .u64)]) (h : WfT [.int .i64, .int .u64, .slice (.int .u64)] d) : execF Δ0 Γ_burstLimits (l_burstLimits 100 100 100 ) b_burstLimits Try.f3.results Try.f3.ntmps (argsT [.int .i64, .int .u64, .slice (.int .u64)] [false, false, false] d) = resB true :=
  (x_burstLimits 100 100 100 d.1 d.2.1 d.2.2.1).trans (p_burstLimits d.1 d.2.1 d.2.2.1 h)
/- jobmux/jobmuxlaw03.BurstForgets -/
noncomputable def l_burstForgets : Nat → Option LoopSpec := (fun _ => none)
noncomputable def b_burstForgets : Code := (Try.f4.body).getD .skip
noncomputable def Γ_burstForgets : Env := fun f => if f = 5 then some saneS else if f = 6 then some smallS else if f = 8 then some trimS else if f = 9 then some allowS else if f = 10 then some sameS else none
theorem e_burstForgets : EnvOk Try.prog Γ_burstForgets := by
  intro f G h
  unfold Γ_burstForgets at h
  split at h
  · rename_i hf; subst hf; cases h; exact ok_sane
  split at h
  · rename_i hf; subst hf; cases h; exact ok_small
  split at h
  · rename_i hf; subst hf; cases h; exact ok_trim
  split at h
  · rename_i hf; subst hf; cases h; exact ok_allow
  split at h
  · rename_i hf; subst hf; cases h; exact ok_same
  cases h
theorem x_burstForgets (l : List Int) (now : Int) (more : Int) (window : Int) : execF Δ0 Γ_burstForgets l_burstForgets b_burstForgets Try.f4.results Try.f4.ntmps [.val (false, [(none, ⟨.slice (.int .u64), l⟩)]), .val (false, [(none, ⟨.int .u64, now⟩)]), .val (false, [(none, ⟨.int .u64, more⟩)]), .val (false, [(none, ⟨.int .u64, window⟩)])] = m_burstForgets l now more window := by kernel_rfl
theorem burstForgets_true (d : Tup [.slice (.int .u64), .int .u64, .int .u64, .int .u64]) (h : WfT [.slice (.int .u64), .int .u64, .int .u64, .int .u64] d) : execF Δ0 Γ_burstForgets l_burstForgets b_burstForgets Try.f4.results Try.f4.ntmps (argsT [.slice (.int .u64), .int .u64, .int .u64, .int .u64] [false, false, false, false] d) = resB true :=
  (x_burstForgets d.1 d.2.1 d.2.2.1 d.2.2.2.1).trans (p_burstForgets d.1 d.2.1 d.2.2.1 d.2.2.2.1 h)
end Go.Bur
