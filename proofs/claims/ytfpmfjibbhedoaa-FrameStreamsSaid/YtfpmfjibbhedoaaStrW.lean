/- Calls of the named Go functions come to what their models tell, and the rows of laws: Str. -/

import Derived.Test.YtfpmfjibbhedoaaTy
import Derived.Test.YtfpmfjibbhedoaaAbExt
import Derived.Test.YtfpmfjibbhedoaaAbArg
import Derived.Test.YtfpmfjibbhedoaaStrP
import Derived.Test.YtfpmfjibbhedoaaFrmW
namespace Go.Str
open Go.Ab Go.RowKit Go.Proofs Go.YtfpmfjibbhedoaaTy Go.Frm
set_option linter.unusedVariables false
set_option linter.unusedSimpArgs false
set_option maxRecDepth 100000
/- jobmux/jobmuxmill.New -/
noncomputable def l_new : Nat → Option LoopSpec := (fun _ => none)
noncomputable def b_new : Code := (Try.f31.body).getD .skip
noncomputable def Γ_new : Env := fun f => none
theorem e_new : EnvOk Try.prog Γ_new := by
  intro f G h
  unfold Γ_new at h
  cases h
theorem x_new (l : List Int) : execF Δ0 Γ_new l_new b_new Try.f31.results Try.f31.ntmps [.val (false, [(none, ⟨.slice (.int .i64), l⟩)])] = m_new l := by kernel_rfl
theorem ok_new : CallOk Try.prog 31 newS := by
  refine callOk_of_exec (fn := Try.f31) (code := b_new) (Λ := l_new) mixed tys e_new Try.func31 (by kernel_rfl) (by kernel_rfl) fun xs c dc r hG hc => ?_
  unfold newS at hG
  split at hG
  · cases hG
    exact (x_new _).trans (p_new _ hc)
  · cases hG
/- (*jobmux/jobmuxmill.Deck).Left -/
noncomputable def l_left : Nat → Option LoopSpec := (fun _ => none)
noncomputable def b_left : Code := (Try.f61.body).getD .skip
noncomputable def Γ_left : Env := fun f => none
theorem e_left : EnvOk Try.prog Γ_left := by
  intro f G h
  unfold Γ_left at h
  cases h
theorem x_left (d_0 : List Int) (d_1 : Int) : execF Δ0 Γ_left l_left b_left Try.f61.results Try.f61.ntmps [.box [(none, ⟨.slice (.int .i64), d_0⟩), (none, ⟨.int .i64, d_1⟩)]] = m_left d_0 d_1 := by kernel_rfl
theorem ok_left : CallOk Try.prog 61 leftS := by
  refine callOk_of_exec (fn := Try.f61) (code := b_left) (Λ := l_left) mixed tys e_left Try.func61 (by kernel_rfl) (by kernel_rfl) fun xs c dc r hG hc => ?_
  unfold leftS at hG
  split at hG
  · cases hG
    exact (x_left _ _).trans (p_left _ _ hc)
  · cases hG
/- (*jobmux/jobmuxmill.Deck).Next -/
noncomputable def l_dnxt : Nat → Option LoopSpec := (fun _ => none)
noncomputable def b_dnxt : Code := (Try.f49.body).getD .skip
noncomputable def Γ_dnxt : Env := fun f => if f = 14 then some Go.Frm.modS else if f = 61 then some leftS else none
theorem e_dnxt : EnvOk Try.prog Γ_dnxt := by
  intro f G h
  unfold Γ_dnxt at h
  split at h
  · rename_i hf; subst hf; cases h; exact Go.Frm.ok_mod
  split at h
  · rename_i hf; subst hf; cases h; exact ok_left
  cases h
theorem x_dnxt (d_0 : List Int) (d_1 : Int) (n : Int) : execF Δ0 Γ_dnxt l_dnxt b_dnxt Try.f49.results Try.f49.ntmps [.box [(none, ⟨.slice (.int .i64), d_0⟩), (none, ⟨.int .i64, d_1⟩)], .val (false, [(none, ⟨.int .i64, n⟩)])] = m_dnxt d_0 d_1 n := by kernel_rfl
theorem ok_dnxt : CallOk Try.prog 49 dnxtS := by
  refine callOk_of_exec (fn := Try.f49) (code := b_dnxt) (Λ := l_dnxt) mixed tys e_dnxt Try.func49 (by kernel_rfl) (by kernel_rfl) fun xs c dc r hG hc => ?_
  unfold dnxtS at hG
  split at hG
  · cases hG
    exact (x_dnxt _ _ _).trans (p_dnxt _ _ _ hc)
  · cases hG
/- jobmux/jobmuxmill.Output -/
noncomputable def l_outp : Nat → Option LoopSpec := (fun _ => none)
noncomputable def b_outp : Code := (Try.f50.body).getD .skip
noncomputable def Γ_outp : Env := fun f => if f = 49 then some dnxtS else none
theorem e_outp : EnvOk Try.prog Γ_outp := by
  intro f G h
  unfold Γ_outp at h
  split at h
  · rename_i hf; subst hf; cases h; exact ok_dnxt
  cases h
theorem x_outp (d_0 : List Int) (d_1 : Int) : execF Δ0 Γ_outp l_outp b_outp Try.f50.results Try.f50.ntmps [.box [(none, ⟨.slice (.int .i64), d_0⟩), (none, ⟨.int .i64, d_1⟩)]] = m_outp d_0 d_1 := by kernel_rfl
theorem ok_outp : CallOk Try.prog 50 outpS := by
  refine callOk_of_exec (fn := Try.f50) (code := b_outp) (Λ := l_outp) mixed tys e_outp Try.func50 (by kernel_rfl) (by kernel_rfl) fun xs c dc r hG hc => ?_
  unfold outpS at hG
  split at hG
  · cases hG
    exact (x_outp _ _).trans (p_outp _ _ hc)
  · cases hG
/- jobmux/jobmuxlaw27.stream -/
noncomputable def l_stream (k0 : Nat) : Nat → Option LoopSpec := (fun n => match n with | 0 => some ⟨sh_stream_0, fun _ => k0⟩ | _ => none)
noncomputable def b_stream : Code := (Try.f29.body).getD .skip
noncomputable def Γ_stream : Env := fun f => if f = 25 then some Go.Frm.rencS else if f = 31 then some newS else if f = 49 then some dnxtS else if f = 50 then some outpS else none
theorem e_stream : EnvOk Try.prog Γ_stream := by
  intro f G h
  unfold Γ_stream at h
  split at h
  · rename_i hf; subst hf; cases h; exact Go.Frm.ok_renc
  split at h
  · rename_i hf; subst hf; cases h; exact ok_new
  split at h
  · rename_i hf; subst hf; cases h; exact ok_dnxt
  split at h
  · rename_i hf; subst hf; cases h; exact ok_outp
  cases h
theorem x_stream (k0 : Nat) (l : List Int) : execF Δ0 Γ_stream (l_stream k0 ) b_stream Try.f29.results Try.f29.ntmps [.val (false, [(none, ⟨.slice (.int .i64), l⟩)])] = m_stream k0 l := by kernel_rfl
theorem ok_stream : CallOk Try.prog 29 streamS := by
  refine callOk_of_exec (fn := Try.f29) (code := b_stream) (Λ := (l_stream 10 )) mixed tys e_stream Try.func29 (by kernel_rfl) (by kernel_rfl) fun xs c dc r hG hc => ?_
  unfold streamS at hG
  split at hG
  · cases hG
    exact (x_stream 10 _).trans (p_stream _ hc)
  · cases hG
/- jobmux/jobmuxlaw27.FrameStreams -/
noncomputable def l_frameStreams : Nat → Option LoopSpec := (fun _ => none)
noncomputable def b_frameStreams : Code := (Try.f8.body).getD .skip
noncomputable def Γ_frameStreams : Env := fun f => if f = 14 then some Go.Frm.modS else if f = 23 then some Go.Frm.saneS else if f = 26 then some Go.Frm.splitS else if f = 28 then some Go.Frm.sameS else if f = 29 then some streamS else none
theorem e_frameStreams : EnvOk Try.prog Γ_frameStreams := by
  intro f G h
  unfold Γ_frameStreams at h
  split at h
  · rename_i hf; subst hf; cases h; exact Go.Frm.ok_mod
  split at h
  · rename_i hf; subst hf; cases h; exact Go.Frm.ok_sane
  split at h
  · rename_i hf; subst hf; cases h; exact Go.Frm.ok_split
  split at h
  · rename_i hf; subst hf; cases h; exact Go.Frm.ok_same
  split at h
  · rename_i hf; subst hf; cases h; exact ok_stream
  cases h
theorem x_frameStreams (l : List Int) (cut : Int) : execF Δ0 Γ_frameStreams l_frameStreams b_frameStreams Try.f8.results Try.f8.ntmps [.val (false, [(none, ⟨.slice (.int .i64), l⟩)]), .val (false, [(none, ⟨.int .i64, cut⟩)])] = m_frameStreams l cut := by kernel_rfl
theorem frameStreams_true (d : Tup [.slice (.int .i64), .int .i64]) (h : WfT [.slice (.int .i64), .int .i64] d) : execF Δ0 Γ_frameStreams l_frameStreams b_frameStreams Try.f8.results Try.f8.ntmps (argsT [.slice (.int .i64), .int .i64] [false, false] d) = resB true :=
  (x_frameStreams d.1 d.2.1).trans (p_frameStreams d.1 d.2.1 h)
end Go.Str
