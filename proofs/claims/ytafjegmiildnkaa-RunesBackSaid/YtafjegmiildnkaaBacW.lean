/- Calls of the named Go functions come to what their models tell, and the rows of laws: Bac. -/

import Derived.Test.YtafjegmiildnkaaTy
import Derived.Test.YtafjegmiildnkaaAbExt
import Derived.Test.YtafjegmiildnkaaAbArg
import Derived.Test.YtafjegmiildnkaaBacP
import Derived.Test.YtafjegmiildnkaaRunW
import Derived.Test.YtafjegmiildnkaaEncW
import Derived.Test.YtafjegmiildnkaaDecW
namespace Go.Bac
open Go.Ab Go.RowKit Go.Proofs Go.YtafjegmiildnkaaTy Go.Run Go.Enc Go.Dec
set_option linter.unusedVariables false
set_option linter.unusedSimpArgs false
set_option maxRecDepth 100000
/- jobmux/jobmuxmill.Few -/
noncomputable def l_few : Nat → Option LoopSpec := (fun _ => none)
noncomputable def b_few : Code := (Try.f20.body).getD .skip
noncomputable def Γ_few : Env := fun f => none
theorem e_few : EnvOk Try.prog Γ_few := by
  intro f G h
  unfold Γ_few at h
  cases h
theorem x_few (l : List Int) : execF Δ0 Γ_few l_few b_few Try.f20.results Try.f20.ntmps [.val (false, [(none, ⟨.slice (.int .i64), l⟩)])] = m_few l := by kernel_rfl
theorem ok_few : CallOk Try.prog 20 fewS := by
  refine callOk_of_exec (fn := Try.f20) (code := b_few) (Λ := l_few) mixed tys e_few Try.func20 (by kernel_rfl) (by kernel_rfl) fun xs c dc r hG hc => ?_
  unfold fewS at hG
  split at hG
  · cases hG
    exact (x_few _).trans (p_few _ hc)
  · cases hG
/- jobmux/jobmuxlaw04.RunesBack -/
noncomputable def l_runesBack (k0 : Nat) : Nat → Option LoopSpec := (fun n => match n with | 0 => some ⟨sh_runesBack_0, fun _ => k0⟩ | _ => none)
noncomputable def b_runesBack : Code := (Try.f6.body).getD .skip
noncomputable def Γ_runesBack : Env := fun f => if f = 7 then some Go.Run.saneS else if f = 9 then some Go.Run.modS else if f = 10 then some Go.Run.decS else if f = 12 then some Go.Run.sameS else if f = 16 then some Go.Dec.flushS else if f = 18 then some Go.Enc.encS else if f = 20 then some fewS else none
theorem e_runesBack : EnvOk Try.prog Γ_runesBack := by
  intro f G h
  unfold Γ_runesBack at h
  split at h
  · rename_i hf; subst hf; cases h; exact Go.Run.ok_sane
  split at h
  · rename_i hf; subst hf; cases h; exact Go.Run.ok_mod
  split at h
  · rename_i hf; subst hf; cases h; exact Go.Run.ok_dec
  split at h
  · rename_i hf; subst hf; cases h; exact Go.Run.ok_same
  split at h
  · rename_i hf; subst hf; cases h; exact Go.Dec.ok_flush
  split at h
  · rename_i hf; subst hf; cases h; exact Go.Enc.ok_enc
  split at h
  · rename_i hf; subst hf; cases h; exact ok_few
  cases h
theorem x_runesBack (k0 : Nat) (l : List Int) : execF Δ0 Γ_runesBack (l_runesBack k0 ) b_runesBack Try.f6.results Try.f6.ntmps [.val (false, [(none, ⟨.slice (.int .i64), l⟩)])] = m_runesBack k0 l := by kernel_rfl
theorem runesBack_true (d : Tup [.slice (.int .i64)]) (h : WfT [.slice (.int .i64)] d) : execF Δ0 Γ_runesBack (l_runesBack 1000 ) b_runesBack Try.f6.results Try.f6.ntmps (argsT [.slice (.int .i64)] [false] d) = resB true :=
  (x_runesBack 1000 d.1).trans (p_runesBack d.1 h)
end Go.Bac
