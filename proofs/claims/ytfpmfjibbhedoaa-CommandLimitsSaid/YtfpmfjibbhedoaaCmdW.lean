/- Calls of the named Go functions come to what their models tell, and the rows of laws: Cmd. -/

import Derived.Test.YtfpmfjibbhedoaaTy
import Derived.Test.YtfpmfjibbhedoaaAbExt
import Derived.Test.YtfpmfjibbhedoaaAbArg
import Derived.Test.YtfpmfjibbhedoaaCmdP
namespace Go.Cmd
open Go.Ab Go.RowKit Go.Proofs Go.YtfpmfjibbhedoaaTy
set_option linter.unusedVariables false
set_option linter.unusedSimpArgs false
set_option maxRecDepth 100000
/- jobmux/jobmuxmill.Mod -/
noncomputable def l_mod : Nat → Option LoopSpec := (fun _ => none)
noncomputable def b_mod : Code := (Try.f14.body).getD .skip
noncomputable def Γ_mod : Env := fun f => none
theorem e_mod : EnvOk Try.prog Γ_mod := by
  intro f G h
  unfold Γ_mod at h
  cases h
theorem x_mod (x : Int) (y : Int) : execF Δ0 Γ_mod l_mod b_mod Try.f14.results Try.f14.ntmps [.val (false, [(none, ⟨.int .i64, x⟩)]), .val (false, [(none, ⟨.int .i64, y⟩)])] = m_mod x y := by kernel_rfl
theorem ok_mod : CallOk Try.prog 14 modS := by
  refine callOk_of_exec (fn := Try.f14) (code := b_mod) (Λ := l_mod) mixed tys e_mod Try.func14 (by kernel_rfl) (by kernel_rfl) fun xs c dc r hG hc => ?_
  unfold modS at hG
  split at hG
  · cases hG
    exact (x_mod _ _).trans (p_mod _ _ hc)
  · cases hG
/- jobmux/command.proper -/
noncomputable def l_proper : Nat → Option LoopSpec := (fun _ => none)
noncomputable def b_proper : Code := (Try.f43.body).getD .skip
noncomputable def Γ_proper : Env := fun f => none
theorem e_proper : EnvOk Try.prog Γ_proper := by
  intro f G h
  unfold Γ_proper at h
  cases h
theorem x_proper (c_0 : Int) (c_1 : Int) (c_2 : Int) (c_3 : ByteArray) (c_4 : List Int) : execF Δ0 Γ_proper l_proper b_proper Try.f43.results Try.f43.ntmps [.val (true, [(none, ⟨.int .i64, c_0⟩), (none, ⟨.int .i64, c_1⟩), (none, ⟨.int .i64, c_2⟩), (none, ⟨.str, c_3⟩), (none, ⟨.slice (.int .u8), c_4⟩)])] = m_proper c_0 c_1 c_2 c_3 c_4 := by kernel_rfl
theorem ok_proper : CallOk Try.prog 43 properS := by
  refine callOk_of_exec (fn := Try.f43) (code := b_proper) (Λ := l_proper) mixed tys e_proper Try.func43 (by kernel_rfl) (by kernel_rfl) fun xs c dc r hG hc => ?_
  unfold properS at hG
  split at hG
  · cases hG
    exact (x_proper _ _ _ _ _).trans (p_proper _ _ _ _ _ hc)
  · cases hG
/- jobmux/command.Encode -/
noncomputable def l_enc : Nat → Option LoopSpec := (fun _ => none)
noncomputable def b_enc : Code := (Try.f15.body).getD .skip
noncomputable def Γ_enc : Env := fun f => if f = 43 then some properS else none
theorem e_enc : EnvOk Try.prog Γ_enc := by
  intro f G h
  unfold Γ_enc at h
  split at h
  · rename_i hf; subst hf; cases h; exact ok_proper
  cases h
theorem x_enc (c_0 : Int) (c_1 : Int) (c_2 : Int) (c_3 : ByteArray) (c_4 : List Int) : execF Δ0 Γ_enc l_enc b_enc Try.f15.results Try.f15.ntmps [.val (true, [(none, ⟨.int .i64, c_0⟩), (none, ⟨.int .i64, c_1⟩), (none, ⟨.int .i64, c_2⟩), (none, ⟨.str, c_3⟩), (none, ⟨.slice (.int .u8), c_4⟩)])] = m_enc c_0 c_1 c_2 c_3 c_4 := by kernel_rfl
theorem ok_enc : CallOk Try.prog 15 encS := by
  refine callOk_of_exec (fn := Try.f15) (code := b_enc) (Λ := l_enc) mixed tys e_enc Try.func15 (by kernel_rfl) (by kernel_rfl) fun xs c dc r hG hc => ?_
  unfold encS at hG
  split at hG
  · cases hG
    exact (x_enc _ _ _ _ _).trans (p_enc _ _ _ _ _ hc)
  · cases hG
/- jobmux/jobmuxref28.clean -/
noncomputable def l_clean : Nat → Option LoopSpec := (fun _ => none)
noncomputable def b_clean : Code := (Try.f59.body).getD .skip
noncomputable def Γ_clean : Env := fun f => none
theorem e_clean : EnvOk Try.prog Γ_clean := by
  intro f G h
  unfold Γ_clean at h
  cases h
theorem x_clean (c_0 : Int) (c_1 : Int) (c_2 : Int) (c_3 : ByteArray) (c_4 : List Int) : execF Δ0 Γ_clean l_clean b_clean Try.f59.results Try.f59.ntmps [.val (true, [(none, ⟨.int .i64, c_0⟩), (none, ⟨.int .i64, c_1⟩), (none, ⟨.int .i64, c_2⟩), (none, ⟨.str, c_3⟩), (none, ⟨.slice (.int .u8), c_4⟩)])] = m_clean c_0 c_1 c_2 c_3 c_4 := by kernel_rfl
theorem ok_clean : CallOk Try.prog 59 cleanS := by
  refine callOk_of_exec (fn := Try.f59) (code := b_clean) (Λ := l_clean) mixed tys e_clean Try.func59 (by kernel_rfl) (by kernel_rfl) fun xs c dc r hG hc => ?_
  unfold cleanS at hG
  split at hG
  · cases hG
    exact (x_clean _ _ _ _ _).trans (p_clean _ _ _ _ _ hc)
  · cases hG
/- jobmux/jobmuxref28.Same -/
noncomputable def l_same : Nat → Option LoopSpec := (fun _ => none)
noncomputable def b_same : Code := (Try.f34.body).getD .skip
noncomputable def Γ_same : Env := fun f => none
theorem e_same : EnvOk Try.prog Γ_same := by
  intro f G h
  unfold Γ_same at h
  cases h
theorem x_same (a_0 : Int) (a_1 : Int) (a_2 : Int) (a_3 : ByteArray) (a_4 : List Int) (b_0 : Int) (b_1 : Int) (b_2 : Int) (b_3 : ByteArray) (b_4 : List Int) : execF Δ0 Γ_same l_same b_same Try.f34.results Try.f34.ntmps [.val (true, [(none, ⟨.int .i64, a_0⟩), (none, ⟨.int .i64, a_1⟩), (none, ⟨.int .i64, a_2⟩), (none, ⟨.str, a_3⟩), (none, ⟨.slice (.int .u8), a_4⟩)]), .val (true, [(none, ⟨.int .i64, b_0⟩), (none, ⟨.int .i64, b_1⟩), (none, ⟨.int .i64, b_2⟩), (none, ⟨.str, b_3⟩), (none, ⟨.slice (.int .u8), b_4⟩)])] = m_same a_0 a_1 a_2 a_3 a_4 b_0 b_1 b_2 b_3 b_4 := by kernel_rfl
theorem ok_same : CallOk Try.prog 34 sameS := by
  refine callOk_of_exec (fn := Try.f34) (code := b_same) (Λ := l_same) mixed tys e_same Try.func34 (by kernel_rfl) (by kernel_rfl) fun xs c dc r hG hc => ?_
  unfold sameS at hG
  split at hG
  · cases hG
    exact (x_same _ _ _ _ _ _ _ _ _ _).trans (p_same _ _ _ _ _ _ _ _ _ _ hc)
  · cases hG
/- jobmux/jobmuxref28.proper -/
noncomputable def l_rproper : Nat → Option LoopSpec := (fun _ => none)
noncomputable def b_rproper : Code := (Try.f44.body).getD .skip
noncomputable def Γ_rproper : Env := fun f => if f = 34 then some sameS else if f = 59 then some cleanS else none
theorem e_rproper : EnvOk Try.prog Γ_rproper := by
  intro f G h
  unfold Γ_rproper at h
  split at h
  · rename_i hf; subst hf; cases h; exact ok_same
  split at h
  · rename_i hf; subst hf; cases h; exact ok_clean
  cases h
theorem x_rproper (c_0 : Int) (c_1 : Int) (c_2 : Int) (c_3 : ByteArray) (c_4 : List Int) : execF Δ0 Γ_rproper l_rproper b_rproper Try.f44.results Try.f44.ntmps [.val (true, [(none, ⟨.int .i64, c_0⟩), (none, ⟨.int .i64, c_1⟩), (none, ⟨.int .i64, c_2⟩), (none, ⟨.str, c_3⟩), (none, ⟨.slice (.int .u8), c_4⟩)])] = m_rproper c_0 c_1 c_2 c_3 c_4 := by kernel_rfl
theorem ok_rproper : CallOk Try.prog 44 rproperS := by
  refine callOk_of_exec (fn := Try.f44) (code := b_rproper) (Λ := l_rproper) mixed tys e_rproper Try.func44 (by kernel_rfl) (by kernel_rfl) fun xs c dc r hG hc => ?_
  unfold rproperS at hG
  split at hG
  · cases hG
    exact (x_rproper _ _ _ _ _).trans (p_rproper _ _ _ _ _ hc)
  · cases hG
/- jobmux/jobmuxref28.Encode -/
noncomputable def l_renc : Nat → Option LoopSpec := (fun _ => none)
noncomputable def b_renc : Code := (Try.f16.body).getD .skip
noncomputable def Γ_renc : Env := fun f => if f = 44 then some rproperS else none
theorem e_renc : EnvOk Try.prog Γ_renc := by
  intro f G h
  unfold Γ_renc at h
  split at h
  · rename_i hf; subst hf; cases h; exact ok_rproper
  cases h
theorem x_renc (c_0 : Int) (c_1 : Int) (c_2 : Int) (c_3 : ByteArray) (c_4 : List Int) : execF Δ0 Γ_renc l_renc b_renc Try.f16.results Try.f16.ntmps [.val (true, [(none, ⟨.int .i64, c_0⟩), (none, ⟨.int .i64, c_1⟩), (none, ⟨.int .i64, c_2⟩), (none, ⟨.str, c_3⟩), (none, ⟨.slice (.int .u8), c_4⟩)])] = m_renc c_0 c_1 c_2 c_3 c_4 := by kernel_rfl
theorem ok_renc : CallOk Try.prog 16 rencS := by
  refine callOk_of_exec (fn := Try.f16) (code := b_renc) (Λ := l_renc) mixed tys e_renc Try.func16 (by kernel_rfl) (by kernel_rfl) fun xs c dc r hG hc => ?_
  unfold rencS at hG
  split at hG
  · cases hG
    exact (x_renc _ _ _ _ _).trans (p_renc _ _ _ _ _ hc)
  · cases hG
/- jobmux/jobmuxlaw28.sane -/
noncomputable def l_sane : Nat → Option LoopSpec := (fun _ => none)
noncomputable def b_sane : Code := (Try.f13.body).getD .skip
noncomputable def Γ_sane : Env := fun f => if f = 15 then some encS else none
theorem e_sane : EnvOk Try.prog Γ_sane := by
  intro f G h
  unfold Γ_sane at h
  split at h
  · rename_i hf; subst hf; cases h; exact ok_enc
  cases h
theorem x_sane  : execF Δ0 Γ_sane l_sane b_sane Try.f13.results Try.f13.ntmps [] = m_sane  := by kernel_rfl
theorem ok_sane : CallOk Try.prog 13 saneS := by
  refine callOk_of_exec (fn := Try.f13) (code := b_sane) (Λ := l_sane) mixed tys e_sane Try.func13 (by kernel_rfl) (by kernel_rfl) fun xs c dc r hG hc => ?_
  unfold saneS at hG
  split at hG
  · cases hG
    exact (x_sane ).trans (p_sane  hc)
  · cases hG
/- jobmux/jobmuxlaw28.CommandLimits -/
noncomputable def l_commandLimits (k0 : Nat) : Nat → Option LoopSpec := (fun n => match n with | 0 => some ⟨sh_commandLimits_0, fun _ => k0⟩ | _ => none)
noncomputable def b_commandLimits : Code := (Try.f3.body).getD .skip
noncomputable def Γ_commandLimits : Env := fun f => if f = 13 then some saneS else if f = 14 then some modS else if f = 15 then some encS else if f = 16 then some rencS else none
theorem e_commandLimits : EnvOk Try.prog Γ_commandLimits := by
  intro f G h
  unfold Γ_commandLimits at h
  split at h
  · rename_i hf; subst hf; cases h; exact ok_sane
  split at h
  · rename_i hf; subst hf; cases h; exact ok_mod
  split at h
  · rename_i hf; subst hf; cases h; exact ok_enc
  split at h
  · rename_i hf; subst hf; cases h; exact ok_renc
  cases h
theorem x_commandLimits (k0 : Nat) (n : Int) : execF Δ0 Γ_commandLimits (l_commandLimits k0 ) b_commandLimits Try.f3.results Try.f3.ntmps [.val (false, [(none, ⟨.int .i64, n⟩)])] = m_commandLimits k0 n := by kernel_rfl
theorem commandLimits_true (d : Tup [.int .i64]) (h : WfT [.int .i64] d) : execF Δ0 Γ_commandLimits (l_commandLimits 10 ) b_commandLimits Try.f3.results Try.f3.ntmps (argsT [.int .i64] [false] d) = resB true :=
  (x_commandLimits 10 d.1).trans (p_commandLimits d.1 h)
end Go.Cmd
