/- Calls of the named Go functions come to what their models tell, and the rows of laws: Enc. -/

import Derived.Test.YtafjegmiildnkaaTy
import Derived.Test.YtafjegmiildnkaaAbExt
import Derived.Test.YtafjegmiildnkaaAbArg
import Derived.Test.YtafjegmiildnkaaEncP
import Derived.Test.YtafjegmiildnkaaRunW
namespace Go.Enc
open Go.Ab Go.RowKit Go.Proofs Go.YtafjegmiildnkaaTy Go.Run
set_option linter.unusedVariables false
set_option linter.unusedSimpArgs false
set_option maxRecDepth 100000
/- jobmux/runes.Is -/
noncomputable def l_is : Nat → Option LoopSpec := (fun _ => none)
noncomputable def b_is : Code := (Try.f29.body).getD .skip
noncomputable def Γ_is : Env := fun f => none
theorem e_is : EnvOk Try.prog Γ_is := by
  intro f G h
  unfold Γ_is at h
  cases h
theorem x_is (r : Int) : execF Δ0 Γ_is l_is b_is Try.f29.results Try.f29.ntmps [.val (false, [(none, ⟨.int .i64, r⟩)])] = m_is r := by kernel_rfl
theorem ok_is : CallOk Try.prog 29 isS := by
  refine callOk_of_exec (fn := Try.f29) (code := b_is) (Λ := l_is) mixed tys e_is Try.func29 (by kernel_rfl) (by kernel_rfl) fun xs c dc r hG hc => ?_
  unfold isS at hG
  split at hG
  · cases hG
    exact (x_is _).trans (p_is _ hc)
  · cases hG
/- jobmux/jobmuxref04.Character -/
noncomputable def l_rchar : Nat → Option LoopSpec := (fun _ => none)
noncomputable def b_rchar : Code := (Try.f31.body).getD .skip
noncomputable def Γ_rchar : Env := fun f => none
theorem e_rchar : EnvOk Try.prog Γ_rchar := by
  intro f G h
  unfold Γ_rchar at h
  cases h
theorem x_rchar (r : Int) : execF Δ0 Γ_rchar l_rchar b_rchar Try.f31.results Try.f31.ntmps [.val (false, [(none, ⟨.int .i64, r⟩)])] = m_rchar r := by kernel_rfl
theorem ok_rchar : CallOk Try.prog 31 rcharS := by
  refine callOk_of_exec (fn := Try.f31) (code := b_rchar) (Λ := l_rchar) mixed tys e_rchar Try.func31 (by kernel_rfl) (by kernel_rfl) fun xs c dc r hG hc => ?_
  unfold rcharS at hG
  split at hG
  · cases hG
    exact (x_rchar _).trans (p_rchar _ hc)
  · cases hG
/- jobmux/runes.Encode$1 -/
noncomputable def l_tail : Nat → Option LoopSpec := (fun _ => none)
noncomputable def b_tail : Code := (Try.f30.body).getD .skip
noncomputable def Γ_tail : Env := fun f => none
theorem e_tail : EnvOk Try.prog Γ_tail := by
  intro f G h
  unfold Γ_tail at h
  cases h
theorem x_tail (s : Int) (r_0 : Int) : execF Δ0 Γ_tail l_tail b_tail Try.f30.results Try.f30.ntmps [.val (false, [(none, ⟨.int .i64, s⟩)]), .box [(none, ⟨.int .i64, r_0⟩)]] = m_tail s r_0 := by kernel_rfl
theorem ok_tail : CallOk Try.prog 30 tailS := by
  refine callOk_of_exec (fn := Try.f30) (code := b_tail) (Λ := l_tail) mixed tys e_tail Try.func30 (by kernel_rfl) (by kernel_rfl) fun xs c dc r hG hc => ?_
  unfold tailS at hG
  split at hG
  · cases hG
    exact (x_tail _ _).trans (p_tail _ _ hc)
  · cases hG
/- jobmux/runes.Encode -/
noncomputable def l_enc : Nat → Option LoopSpec := (fun _ => none)
noncomputable def b_enc : Code := (Try.f18.body).getD .skip
noncomputable def Γ_enc : Env := fun f => if f = 29 then some isS else if f = 30 then some tailS else none
theorem e_enc : EnvOk Try.prog Γ_enc := by
  intro f G h
  unfold Γ_enc at h
  split at h
  · rename_i hf; subst hf; cases h; exact ok_is
  split at h
  · rename_i hf; subst hf; cases h; exact ok_tail
  cases h
theorem x_enc (r : Int) : execF Δ0 Γ_enc l_enc b_enc Try.f18.results Try.f18.ntmps [.val (false, [(none, ⟨.int .i64, r⟩)])] = m_enc r := by kernel_rfl
theorem ok_enc : CallOk Try.prog 18 encS := by
  refine callOk_of_exec (fn := Try.f18) (code := b_enc) (Λ := l_enc) mixed tys e_enc Try.func18 (by kernel_rfl) (by kernel_rfl) fun xs c dc r hG hc => ?_
  unfold encS at hG
  split at hG
  · cases hG
    exact (x_enc _).trans (p_enc _ hc)
  · cases hG
/- jobmux/jobmuxref04.Encode -/
noncomputable def l_renc : Nat → Option LoopSpec := (fun _ => none)
noncomputable def b_renc : Code := (Try.f19.body).getD .skip
noncomputable def Γ_renc : Env := fun f => if f = 31 then some rcharS else none
theorem e_renc : EnvOk Try.prog Γ_renc := by
  intro f G h
  unfold Γ_renc at h
  split at h
  · rename_i hf; subst hf; cases h; exact ok_rchar
  cases h
theorem x_renc (r : Int) : execF Δ0 Γ_renc l_renc b_renc Try.f19.results Try.f19.ntmps [.val (false, [(none, ⟨.int .i64, r⟩)])] = m_renc r := by kernel_rfl
theorem ok_renc : CallOk Try.prog 19 rencS := by
  refine callOk_of_exec (fn := Try.f19) (code := b_renc) (Λ := l_renc) mixed tys e_renc Try.func19 (by kernel_rfl) (by kernel_rfl) fun xs c dc r hG hc => ?_
  unfold rencS at hG
  split at hG
  · cases hG
    exact (x_renc _).trans (p_renc _ hc)
  · cases hG
/- jobmux/jobmuxlaw04.RunesEncodes -/
noncomputable def l_runesEncodes (k0 : Nat) : Nat → Option LoopSpec := (fun n => match n with | 0 => some ⟨sh_runesEncodes_0, fun _ => k0⟩ | _ => none)
noncomputable def b_runesEncodes : Code := (Try.f5.body).getD .skip
noncomputable def Γ_runesEncodes : Env := fun f => if f = 7 then some Go.Run.saneS else if f = 9 then some Go.Run.modS else if f = 18 then some encS else if f = 19 then some rencS else none
theorem e_runesEncodes : EnvOk Try.prog Γ_runesEncodes := by
  intro f G h
  unfold Γ_runesEncodes at h
  split at h
  · rename_i hf; subst hf; cases h; exact Go.Run.ok_sane
  split at h
  · rename_i hf; subst hf; cases h; exact Go.Run.ok_mod
  split at h
  · rename_i hf; subst hf; cases h; exact ok_enc
  split at h
  · rename_i hf; subst hf; cases h; exact ok_renc
  cases h
theorem x_runesEncodes (k0 : Nat) (r : Int) : execF Δ0 Γ_runesEncodes (l_runesEncodes k0 ) b_runesEncodes Try.f5.results Try.f5.ntmps [.val (false, [(none, ⟨.int .i64, r⟩)])] = m_runesEncodes k0 r := by kernel_rfl
theorem runesEncodes_true (d : Tup [.int .i64]) (h : WfT [.int .i64] d) : execF Δ0 Γ_runesEncodes (l_runesEncodes 10 ) b_runesEncodes Try.f5.results Try.f5.ntmps (argsT [.int .i64] [false] d) = resB true :=
  (x_runesEncodes 10 d.1).trans (p_runesEncodes d.1 h)
end Go.Enc
