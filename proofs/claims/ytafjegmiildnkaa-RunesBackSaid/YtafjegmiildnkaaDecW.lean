/- Calls of the named Go functions come to what their models tell, and the rows of laws: Dec. -/

import Derived.Test.YtafjegmiildnkaaTy
import Derived.Test.YtafjegmiildnkaaAbExt
import Derived.Test.YtafjegmiildnkaaAbArg
import Derived.Test.YtafjegmiildnkaaDecP
import Derived.Test.YtafjegmiildnkaaRunW
namespace Go.Dec
open Go.Ab Go.RowKit Go.Proofs Go.YtafjegmiildnkaaTy Go.Run
set_option linter.unusedVariables false
set_option linter.unusedSimpArgs false
set_option maxRecDepth 100000
/- jobmux/runes.Flush -/
noncomputable def l_flush : Nat → Option LoopSpec := (fun _ => none)
noncomputable def b_flush : Code := (Try.f16.body).getD .skip
noncomputable def Γ_flush : Env := fun f => if f = 14 then some Go.Run.validS else none
theorem e_flush : EnvOk Try.prog Γ_flush := by
  intro f G h
  unfold Γ_flush at h
  split at h
  · rename_i hf; subst hf; cases h; exact Go.Run.ok_valid
  cases h
theorem x_flush (d_0 : List Int) : execF Δ0 Γ_flush l_flush b_flush Try.f16.results Try.f16.ntmps [.val (true, [(none, ⟨.slice (.int .u8), d_0⟩)])] = m_flush d_0 := by kernel_rfl
theorem ok_flush : CallOk Try.prog 16 flushS := by
  refine callOk_of_exec (fn := Try.f16) (code := b_flush) (Λ := l_flush) mixed tys e_flush Try.func16 (by kernel_rfl) (by kernel_rfl) fun xs c dc r hG hc => ?_
  unfold flushS at hG
  split at hG
  · cases hG
    exact (x_flush _).trans (p_flush _ hc)
  · cases hG
/- jobmux/jobmuxref04.size -/
noncomputable def l_rsize : Nat → Option LoopSpec := (fun _ => none)
noncomputable def b_rsize : Code := (Try.f34.body).getD .skip
noncomputable def Γ_rsize : Env := fun f => none
theorem e_rsize : EnvOk Try.prog Γ_rsize := by
  intro f G h
  unfold Γ_rsize at h
  cases h
theorem x_rsize (b : Int) : execF Δ0 Γ_rsize l_rsize b_rsize Try.f34.results Try.f34.ntmps [.val (false, [(none, ⟨.int .u8, b⟩)])] = m_rsize b := by kernel_rfl
theorem ok_rsize : CallOk Try.prog 34 rsizeS := by
  refine callOk_of_exec (fn := Try.f34) (code := b_rsize) (Λ := l_rsize) mixed tys e_rsize Try.func34 (by kernel_rfl) (by kernel_rfl) fun xs c dc r hG hc => ?_
  unfold rsizeS at hG
  split at hG
  · cases hG
    exact (x_rsize _).trans (p_rsize _ hc)
  · cases hG
/- jobmux/jobmuxref04.number -/
noncomputable def l_num (k0 : Nat) : Nat → Option LoopSpec := (fun n => match n with | 0 => some ⟨sh_num_0, fun _ => k0⟩ | _ => none)
noncomputable def b_num : Code := (Try.f28.body).getD .skip
noncomputable def Γ_num : Env := fun f => none
theorem e_num : EnvOk Try.prog Γ_num := by
  intro f G h
  unfold Γ_num at h
  cases h
theorem x_num (k0 : Nat) (b : List Int) (n : Int) (d : Int) : execF Δ0 Γ_num (l_num k0 ) b_num Try.f28.results Try.f28.ntmps [.val (false, [(none, ⟨.slice (.int .u8), b⟩)]), .val (false, [(none, ⟨.int .i64, n⟩)]), .val (false, [(none, ⟨.int .i64, d⟩)])] = m_num k0 b n d := by kernel_rfl
theorem ok_num : CallOk Try.prog 28 numS := by
  refine callOk_of_exec (fn := Try.f28) (code := b_num) (Λ := (l_num 100 )) mixed tys e_num Try.func28 (by kernel_rfl) (by kernel_rfl) fun xs c dc r hG hc => ?_
  unfold numS at hG
  split at hG
  · cases hG
    exact (x_num 100 _ _ _).trans (p_num _ _ _ hc)
  · cases hG
/- jobmux/jobmuxref04.prefix -/
noncomputable def l_prefix (k0 : Nat) : Nat → Option LoopSpec := (fun n => match n with | 0 => some ⟨sh_prefix_0, fun _ => k0⟩ | _ => none)
noncomputable def b_prefix : Code := (Try.f27.body).getD .skip
noncomputable def Γ_prefix : Env := fun f => if f = 28 then some numS else if f = 34 then some rsizeS else none
theorem e_prefix : EnvOk Try.prog Γ_prefix := by
  intro f G h
  unfold Γ_prefix at h
  split at h
  · rename_i hf; subst hf; cases h; exact ok_num
  split at h
  · rename_i hf; subst hf; cases h; exact ok_rsize
  cases h
theorem x_prefix (k0 : Nat) (b : List Int) : execF Δ0 Γ_prefix (l_prefix k0 ) b_prefix Try.f27.results Try.f27.ntmps [.val (false, [(none, ⟨.slice (.int .u8), b⟩)])] = m_prefix k0 b := by kernel_rfl
theorem ok_prefix : CallOk Try.prog 27 prefixS := by
  refine callOk_of_exec (fn := Try.f27) (code := b_prefix) (Λ := (l_prefix 100 )) mixed tys e_prefix Try.func27 (by kernel_rfl) (by kernel_rfl) fun xs c dc r hG hc => ?_
  unfold prefixS at hG
  split at hG
  · cases hG
    exact (x_prefix 100 _).trans (p_prefix _ hc)
  · cases hG
/- jobmux/jobmuxref04.Valid -/
noncomputable def l_rvalid : Nat → Option LoopSpec := (fun _ => none)
noncomputable def b_rvalid : Code := (Try.f15.body).getD .skip
noncomputable def Γ_rvalid : Env := fun f => if f = 27 then some prefixS else none
theorem e_rvalid : EnvOk Try.prog Γ_rvalid := by
  intro f G h
  unfold Γ_rvalid at h
  split at h
  · rename_i hf; subst hf; cases h; exact ok_prefix
  cases h
theorem x_rvalid (d_0 : List Int) : execF Δ0 Γ_rvalid l_rvalid b_rvalid Try.f15.results Try.f15.ntmps [.val (true, [(none, ⟨.slice (.int .u8), d_0⟩)])] = m_rvalid d_0 := by kernel_rfl
theorem ok_rvalid : CallOk Try.prog 15 rvalidS := by
  refine callOk_of_exec (fn := Try.f15) (code := b_rvalid) (Λ := l_rvalid) mixed tys e_rvalid Try.func15 (by kernel_rfl) (by kernel_rfl) fun xs c dc r hG hc => ?_
  unfold rvalidS at hG
  split at hG
  · cases hG
    exact (x_rvalid _).trans (p_rvalid _ hc)
  · cases hG
/- jobmux/jobmuxref04.Flush -/
noncomputable def l_rflush : Nat → Option LoopSpec := (fun _ => none)
noncomputable def b_rflush : Code := (Try.f17.body).getD .skip
noncomputable def Γ_rflush : Env := fun f => if f = 15 then some rvalidS else none
theorem e_rflush : EnvOk Try.prog Γ_rflush := by
  intro f G h
  unfold Γ_rflush at h
  split at h
  · rename_i hf; subst hf; cases h; exact ok_rvalid
  cases h
theorem x_rflush (d_0 : List Int) : execF Δ0 Γ_rflush l_rflush b_rflush Try.f17.results Try.f17.ntmps [.val (true, [(none, ⟨.slice (.int .u8), d_0⟩)])] = m_rflush d_0 := by kernel_rfl
theorem ok_rflush : CallOk Try.prog 17 rflushS := by
  refine callOk_of_exec (fn := Try.f17) (code := b_rflush) (Λ := l_rflush) mixed tys e_rflush Try.func17 (by kernel_rfl) (by kernel_rfl) fun xs c dc r hG hc => ?_
  unfold rflushS at hG
  split at hG
  · cases hG
    exact (x_rflush _).trans (p_rflush _ hc)
  · cases hG
/- jobmux/jobmuxref04.Decode -/
noncomputable def l_rdec (k0 : Nat) : Nat → Option LoopSpec := (fun n => match n with | 0 => some ⟨sh_rdec_0, fun _ => k0⟩ | _ => none)
noncomputable def b_rdec : Code := (Try.f13.body).getD .skip
noncomputable def Γ_rdec : Env := fun f => if f = 15 then some rvalidS else if f = 27 then some prefixS else if f = 28 then some numS else none
theorem e_rdec : EnvOk Try.prog Γ_rdec := by
  intro f G h
  unfold Γ_rdec at h
  split at h
  · rename_i hf; subst hf; cases h; exact ok_rvalid
  split at h
  · rename_i hf; subst hf; cases h; exact ok_prefix
  split at h
  · rename_i hf; subst hf; cases h; exact ok_num
  cases h
theorem x_rdec (k0 : Nat) (d_0 : List Int) (b : List Int) : execF Δ0 Γ_rdec (l_rdec k0 ) b_rdec Try.f13.results Try.f13.ntmps [.val (true, [(none, ⟨.slice (.int .u8), d_0⟩)]), .val (false, [(none, ⟨.slice (.int .u8), b⟩)])] = m_rdec k0 d_0 b := by kernel_rfl
theorem ok_rdec : CallOk Try.prog 13 rdecS := by
  refine callOk_of_exec (fn := Try.f13) (code := b_rdec) (Λ := (l_rdec 9000000000000 )) mixed tys e_rdec Try.func13 (by kernel_rfl) (by kernel_rfl) fun xs c dc r hG hc => ?_
  unfold rdecS at hG
  split at hG
  · cases hG
    exact (x_rdec 9000000000000 _ _).trans (p_rdec _ _ hc)
  · cases hG
/- jobmux/jobmuxlaw04.RunesDecodes -/
noncomputable def l_runesDecodes (k0 : Nat) (k1 : Nat) : Nat → Option LoopSpec := (fun n => match n with | 0 => some ⟨sh_runesDecodes_0, fun _ => k0⟩ | 1 => some ⟨sh_runesDecodes_1, fun _ => k1⟩ | _ => none)
noncomputable def b_runesDecodes : Code := (Try.f4.body).getD .skip
noncomputable def Γ_runesDecodes : Env := fun f => if f = 7 then some Go.Run.saneS else if f = 8 then some Go.Run.oddS else if f = 10 then some Go.Run.decS else if f = 11 then some Go.Run.rsameS else if f = 12 then some Go.Run.sameS else if f = 13 then some rdecS else if f = 14 then some Go.Run.validS else if f = 15 then some rvalidS else if f = 16 then some flushS else if f = 17 then some rflushS else none
theorem e_runesDecodes : EnvOk Try.prog Γ_runesDecodes := by
  intro f G h
  unfold Γ_runesDecodes at h
  split at h
  · rename_i hf; subst hf; cases h; exact Go.Run.ok_sane
  split at h
  · rename_i hf; subst hf; cases h; exact Go.Run.ok_odd
  split at h
  · rename_i hf; subst hf; cases h; exact Go.Run.ok_dec
  split at h
  · rename_i hf; subst hf; cases h; exact Go.Run.ok_rsame
  split at h
  · rename_i hf; subst hf; cases h; exact Go.Run.ok_same
  split at h
  · rename_i hf; subst hf; cases h; exact ok_rdec
  split at h
  · rename_i hf; subst hf; cases h; exact Go.Run.ok_valid
  split at h
  · rename_i hf; subst hf; cases h; exact ok_rvalid
  split at h
  · rename_i hf; subst hf; cases h; exact ok_flush
  split at h
  · rename_i hf; subst hf; cases h; exact ok_rflush
  cases h
theorem x_runesDecodes (k0 : Nat) (k1 : Nat) (rest : List Int) (raw : List Int) (l : List Int) : execF Δ0 Γ_runesDecodes (l_runesDecodes k0 k1 ) b_runesDecodes Try.f4.results Try.f4.ntmps [.val (false, [(none, ⟨.slice (.int .u8), rest⟩)]), .val (false, [(none, ⟨.slice (.int .u8), raw⟩)]), .val (false, [(none, ⟨.slice (.int .i64), l⟩)])] = m_runesDecodes k0 k1 rest raw l := by kernel_rfl
theorem runesDecodes_true (d : Tup [.slice (.int .u8), .slice (.int .u8), .slice (.int .i64)]) (h : WfT [.slice (.int .u8), .slice (.int .u8), .slice (.int .i64)] d) : execF Δ0 Γ_runesDecodes (l_runesDecodes 10 10 ) b_runesDecodes Try.f4.results Try.f4.ntmps (argsT [.slice (.int .u8), .slice (.int .u8), .slice (.int .i64)] [false, false, false] d) = resB true :=
  (x_runesDecodes 10 10 d.1 d.2.1 d.2.2.1).trans (p_runesDecodes d.1 d.2.1 d.2.2.1 h)
end Go.Dec
