/- Calls of the named Go functions come to what their models tell, and the rows of laws: Lad. -/

import Derived.Test.YtfpmfjibbhedoaaTy
import Derived.Test.YtfpmfjibbhedoaaAbExt
import Derived.Test.YtfpmfjibbhedoaaAbArg
import Derived.Test.YtfpmfjibbhedoaaLadP
namespace Go.Lad
open Go.Ab Go.RowKit Go.Proofs Go.YtfpmfjibbhedoaaTy
set_option linter.unusedVariables false
set_option linter.unusedSimpArgs false
set_option maxRecDepth 100000
/- jobmux/ticks.Add -/
noncomputable def l_add : Nat → Option LoopSpec := (fun _ => none)
noncomputable def b_add : Code := (Try.f45.body).getD .skip
noncomputable def Γ_add : Env := fun f => if f = 60 then some add64S else none
theorem e_add : EnvOk Try.prog Γ_add := by
  intro f G h
  unfold Γ_add at h
  split at h
  · rename_i hf; subst hf; cases h; exact add64_ok Try.func60 (by kernel_rfl) (by kernel_rfl) (by kernel_rfl) (by kernel_rfl)
  cases h
theorem x_add (x : Int) (y : Int) : execF Δ0 Γ_add l_add b_add Try.f45.results Try.f45.ntmps [.val (false, [(none, ⟨.int .u64, x⟩)]), .val (false, [(none, ⟨.int .u64, y⟩)])] = m_add x y := by kernel_rfl
theorem ok_add : CallOk Try.prog 45 addS := by
  refine callOk_of_exec (fn := Try.f45) (code := b_add) (Λ := l_add) mixed tys e_add Try.func45 (by kernel_rfl) (by kernel_rfl) fun xs c dc r hG hc => ?_
  unfold addS at hG
  split at hG
  · cases hG
    exact (x_add _ _).trans (p_add _ _ hc)
  · cases hG
/- jobmux/jobmuxref01.Add -/
noncomputable def l_rAdd : Nat → Option LoopSpec := (fun _ => none)
noncomputable def b_rAdd : Code := (Try.f46.body).getD .skip
noncomputable def Γ_rAdd : Env := fun f => if f = 60 then some add64S else none
theorem e_rAdd : EnvOk Try.prog Γ_rAdd := by
  intro f G h
  unfold Γ_rAdd at h
  split at h
  · rename_i hf; subst hf; cases h; exact add64_ok Try.func60 (by kernel_rfl) (by kernel_rfl) (by kernel_rfl) (by kernel_rfl)
  cases h
theorem x_rAdd (x : Int) (y : Int) : execF Δ0 Γ_rAdd l_rAdd b_rAdd Try.f46.results Try.f46.ntmps [.val (false, [(none, ⟨.int .u64, x⟩)]), .val (false, [(none, ⟨.int .u64, y⟩)])] = m_rAdd x y := by kernel_rfl
theorem ok_rAdd : CallOk Try.prog 46 rAddS := by
  refine callOk_of_exec (fn := Try.f46) (code := b_rAdd) (Λ := l_rAdd) mixed tys e_rAdd Try.func46 (by kernel_rfl) (by kernel_rfl) fun xs c dc r hG hc => ?_
  unfold rAddS at hG
  split at hG
  · cases hG
    exact (x_rAdd _ _).trans (p_rAdd _ _ hc)
  · cases hG
/- jobmux/jobmuxmill.Mod -/
noncomputable def l_mod : Nat → Option LoopSpec := (fun _ => none)
noncomputable def b_mod : Code := (Try.f14.body).getD .skip
noncomputable def Γ_mod : Env := fun f => none
theorem e_mod : EnvOk Try.prog Γ_mod := by
  intro f G h
  unfold Γ_mod at h
  cases h
theorem x_mod (x : Int) (y : Int) : execF Δ0 Γ_mod l_mod b_mod Try.f14.results Try.f14.ntmps [.val (false, [(none, ⟨.int .i64, x⟩)]), .val (false, [(none, ⟨.int .i64, y⟩)])] = m_mod x y := by kernel_rfl
theorem ok_mod : CallOk Try.prog 14 modS := by
  refine callOk_of_exec (fn := Try.f14) (code := b_mod) (Λ := l_mod) mixed tys e_mod Try.func14 (by kernel_rfl) (by kernel_rfl) fun xs c dc r hG hc => ?_
  unfold modS at hG
  split at hG
  · cases hG
    exact (x_mod _ _).trans (p_mod _ _ hc)
  · cases hG
/- jobmux/ladder.Next -/
noncomputable def l_next : Nat → Option LoopSpec := (fun _ => none)
noncomputable def b_next : Code := (Try.f18.body).getD .skip
noncomputable def Γ_next : Env := fun f => if f = 45 then some addS else none
theorem e_next : EnvOk Try.prog Γ_next := by
  intro f G h
  unfold Γ_next at h
  split at h
  · rename_i hf; subst hf; cases h; exact ok_add
  cases h
theorem x_next (l : List (Int × (Int × Unit))) (k : Int) (a : Int) : execF Δ0 Γ_next l_next b_next Try.f18.results Try.f18.ntmps [.val (false, [(none, ⟨.slice (.pair (.int .i64) (.pair (.int .u64) (.unit))), l⟩)]), .val (false, [(none, ⟨.int .i64, k⟩)]), .val (false, [(none, ⟨.int .u64, a⟩)])] = m_next l k a := by kernel_rfl
theorem ok_next : CallOk Try.prog 18 nextS := by
  refine callOk_of_exec (fn := Try.f18) (code := b_next) (Λ := l_next) mixed tys e_next Try.func18 (by kernel_rfl) (by kernel_rfl) fun xs c dc r hG hc => ?_
  unfold nextS at hG
  split at hG
  · cases hG
    exact (x_next _ _ _).trans (p_next _ _ _ hc)
  · cases hG
/- jobmux/ladder.Steps -/
noncomputable def l_steps (k0 : Nat) : Nat → Option LoopSpec := (fun n => match n with | 0 => some ⟨sh_steps_0, fun _ => k0⟩ | _ => none)
noncomputable def b_steps : Code := (Try.f21.body).getD .skip
noncomputable def Γ_steps : Env := fun f => if f = 18 then some nextS else none
theorem e_steps : EnvOk Try.prog Γ_steps := by
  intro f G h
  unfold Γ_steps at h
  split at h
  · rename_i hf; subst hf; cases h; exact ok_next
  cases h
theorem x_steps (k0 : Nat) (l : List (Int × (Int × Unit))) (a : Int) : execF Δ0 Γ_steps (l_steps k0 ) b_steps Try.f21.results Try.f21.ntmps [.val (false, [(none, ⟨.slice (.pair (.int .i64) (.pair (.int .u64) (.unit))), l⟩)]), .val (false, [(none, ⟨.int .u64, a⟩)])] = m_steps k0 l a := by kernel_rfl
theorem ok_steps : CallOk Try.prog 21 stepsS := by
  refine callOk_of_exec (fn := Try.f21) (code := b_steps) (Λ := (l_steps 3000 )) mixed tys e_steps Try.func21 (by kernel_rfl) (by kernel_rfl) fun xs c dc r hG hc => ?_
  unfold stepsS at hG
  split at hG
  · cases hG
    exact (x_steps 3000 _ _).trans (p_steps _ _ hc)
  · cases hG
/- jobmux/jobmuxref21.Next -/
noncomputable def l_rnext : Nat → Option LoopSpec := (fun _ => none)
noncomputable def b_rnext : Code := (Try.f19.body).getD .skip
noncomputable def Γ_rnext : Env := fun f => if f = 46 then some rAddS else none
theorem e_rnext : EnvOk Try.prog Γ_rnext := by
  intro f G h
  unfold Γ_rnext at h
  split at h
  · rename_i hf; subst hf; cases h; exact ok_rAdd
  cases h
theorem x_rnext (l : List (Int × (Int × Unit))) (k : Int) (a : Int) : execF Δ0 Γ_rnext l_rnext b_rnext Try.f19.results Try.f19.ntmps [.val (false, [(none, ⟨.slice (.pair (.int .i64) (.pair (.int .u64) (.unit))), l⟩)]), .val (false, [(none, ⟨.int .i64, k⟩)]), .val (false, [(none, ⟨.int .u64, a⟩)])] = m_rnext l k a := by kernel_rfl
theorem ok_rnext : CallOk Try.prog 19 rnextS := by
  refine callOk_of_exec (fn := Try.f19) (code := b_rnext) (Λ := l_rnext) mixed tys e_rnext Try.func19 (by kernel_rfl) (by kernel_rfl) fun xs c dc r hG hc => ?_
  unfold rnextS at hG
  split at hG
  · cases hG
    exact (x_rnext _ _ _).trans (p_rnext _ _ _ hc)
  · cases hG
/- jobmux/jobmuxref21.Steps -/
noncomputable def l_rsteps (k0 : Nat) : Nat → Option LoopSpec := (fun n => match n with | 0 => some ⟨sh_rsteps_0, fun _ => k0⟩ | _ => none)
noncomputable def b_rsteps : Code := (Try.f22.body).getD .skip
noncomputable def Γ_rsteps : Env := fun f => if f = 19 then some rnextS else none
theorem e_rsteps : EnvOk Try.prog Γ_rsteps := by
  intro f G h
  unfold Γ_rsteps at h
  split at h
  · rename_i hf; subst hf; cases h; exact ok_rnext
  cases h
theorem x_rsteps (k0 : Nat) (l : List (Int × (Int × Unit))) (a : Int) : execF Δ0 Γ_rsteps (l_rsteps k0 ) b_rsteps Try.f22.results Try.f22.ntmps [.val (false, [(none, ⟨.slice (.pair (.int .i64) (.pair (.int .u64) (.unit))), l⟩)]), .val (false, [(none, ⟨.int .u64, a⟩)])] = m_rsteps k0 l a := by kernel_rfl
theorem ok_rsteps : CallOk Try.prog 22 rstepsS := by
  refine callOk_of_exec (fn := Try.f22) (code := b_rsteps) (Λ := (l_rsteps 3000 )) mixed tys e_rsteps Try.func22 (by kernel_rfl) (by kernel_rfl) fun xs c dc r hG hc => ?_
  unfold rstepsS at hG
  split at hG
  · cases hG
    exact (x_rsteps 3000 _ _).trans (p_rsteps _ _ hc)
  · cases hG
/- jobmux/jobmuxref21.Same -/
noncomputable def l_same (k0 : Nat) : Nat → Option LoopSpec := (fun n => match n with | 0 => some ⟨sh_same_0, fun _ => k0⟩ | _ => none)
noncomputable def b_same : Code := (Try.f20.body).getD .skip
noncomputable def Γ_same : Env := fun f => none
theorem e_same : EnvOk Try.prog Γ_same := by
  intro f G h
  unfold Γ_same at h
  cases h
theorem x_same (k0 : Nat) (x : List (Int × (Int × Unit))) (y : List (Int × (Int × Unit))) : execF Δ0 Γ_same (l_same k0 ) b_same Try.f20.results Try.f20.ntmps [.val (false, [(none, ⟨.slice (.pair (.int .u64) (.pair (.int .i64) (.unit))), x⟩)]), .val (false, [(none, ⟨.slice (.pair (.int .u64) (.pair (.int .i64) (.unit))), y⟩)])] = m_same k0 x y := by kernel_rfl
theorem ok_same : CallOk Try.prog 20 sameS := by
  refine callOk_of_exec (fn := Try.f20) (code := b_same) (Λ := (l_same 3000 )) mixed tys e_same Try.func20 (by kernel_rfl) (by kernel_rfl) fun xs c dc r hG hc => ?_
  unfold sameS at hG
  split at hG
  · cases hG
    exact (x_same 3000 _ _).trans (p_same _ _ hc)
  · cases hG
/- jobmux/jobmuxlaw21.sane -/
noncomputable def l_sane : Nat → Option LoopSpec := (fun _ => none)
noncomputable def b_sane : Code := (Try.f17.body).getD .skip
noncomputable def Γ_sane : Env := fun f => if f = 21 then some stepsS else none
theorem e_sane : EnvOk Try.prog Γ_sane := by
  intro f G h
  unfold Γ_sane at h
  split at h
  · rename_i hf; subst hf; cases h; exact ok_steps
  cases h
theorem x_sane  : execF Δ0 Γ_sane l_sane b_sane Try.f17.results Try.f17.ntmps [] = m_sane  := by kernel_rfl
theorem ok_sane : CallOk Try.prog 17 saneS := by
  refine callOk_of_exec (fn := Try.f17) (code := b_sane) (Λ := l_sane) mixed tys e_sane Try.func17 (by kernel_rfl) (by kernel_rfl) fun xs c dc r hG hc => ?_
  unfold saneS at hG
  split at hG
  · cases hG
    exact (x_sane ).trans (p_sane  hc)
  · cases hG
/- jobmux/jobmuxlaw21.LadderSteps -/
noncomputable def l_ladderSteps (k0 : Nat) : Nat → Option LoopSpec := (fun n => match n with | 0 => some ⟨sh_ladderSteps_0, fun _ => k0⟩ | _ => none)
noncomputable def b_ladderSteps : Code := (Try.f4.body).getD .skip
noncomputable def Γ_ladderSteps : Env := fun f => if f = 14 then some modS else if f = 17 then some saneS else if f = 18 then some nextS else if f = 19 then some rnextS else if f = 20 then some sameS else if f = 21 then some stepsS else if f = 22 then some rstepsS else none
theorem e_ladderSteps : EnvOk Try.prog Γ_ladderSteps := by
  intro f G h
  unfold Γ_ladderSteps at h
  split at h
  · rename_i hf; subst hf; cases h; exact ok_mod
  split at h
  · rename_i hf; subst hf; cases h; exact ok_sane
  split at h
  · rename_i hf; subst hf; cases h; exact ok_next
  split at h
  · rename_i hf; subst hf; cases h; exact ok_rnext
  split at h
  · rename_i hf; subst hf; cases h; exact ok_same
  split at h
  · rename_i hf; subst hf; cases h; exact ok_steps
  split at h
  · rename_i hf; subst hf; cases h; exact ok_rsteps
  cases h
theorem x_ladderSteps (k0 : Nat) (l : List (Int × (Int × Unit))) (sent : Int) (a : Int) : execF Δ0 Γ_ladderSteps (l_ladderSteps k0 ) b_ladderSteps Try.f4.results Try.f4.ntmps [.val (false, [(none, ⟨.slice (.pair (.int .i64) (.pair (.int .u64) (.unit))), l⟩)]), .val (false, [(none, ⟨.int .i64, sent⟩)]), .val (false, [(none, ⟨.int .u64, a⟩)])] = m_ladderSteps k0 l sent a := by kernel_rfl
theorem ladderSteps_true (d : Tup [.slice (.pair (.int .i64) (.pair (.int .u64) (.unit))), .int .i64, .int .u64]) (h : WfT [.slice (.pair (.int .i64) (.pair (.int .u64) (.unit))), .int .i64, .int .u64] d) : execF Δ0 Γ_ladderSteps (l_ladderSteps 5 ) b_ladderSteps Try.f4.results Try.f4.ntmps (argsT [.slice (.pair (.int .i64) (.pair (.int .u64) (.unit))), .int .i64, .int .u64] [false, false, false] d) = resB true :=
  (x_ladderSteps 5 d.1 d.2.1 d.2.2.1).trans (p_ladderSteps d.1 d.2.1 d.2.2.1 h)
/- jobmux/jobmuxlaw21.LadderClimbs -/
noncomputable def l_ladderClimbs (k0 : Nat) (k1 : Nat) : Nat → Option LoopSpec := (fun n => match n with | 0 => some ⟨sh_ladderClimbs_0, fun _ => k0⟩ | 1 => some ⟨sh_ladderClimbs_1, fun _ => k1⟩ | _ => none)
noncomputable def b_ladderClimbs : Code := (Try.f5.body).getD .skip
noncomputable def Γ_ladderClimbs : Env := fun f => if f = 17 then some saneS else if f = 18 then some nextS else if f = 21 then some stepsS else none
theorem e_ladderClimbs : EnvOk Try.prog Γ_ladderClimbs := by
  intro f G h
  unfold Γ_ladderClimbs at h
  split at h
  · rename_i hf; subst hf; cases h; exact ok_sane
  split at h
  · rename_i hf; subst hf; cases h; exact ok_next
  split at h
  · rename_i hf; subst hf; cases h; exact ok_steps
  cases h
theorem x_ladderClimbs (k0 : Nat) (k1 : Nat) (l : List (Int × (Int × Unit))) (a : Int) : execF Δ0 Γ_ladderClimbs (l_ladderClimbs k0 k1 ) b_ladderClimbs Try.f5.results Try.f5.ntmps [.val (false, [(none, ⟨.slice (.pair (.int .i64) (.pair (.int .u64) (.unit))), l⟩)]), .val (false, [(none, ⟨.int .u64, a⟩)])] = m_ladderClimbs k0 k1 l a := by kernel_rfl
theorem ladderClimbs_true (d : Tup [.slice (.pair (.int .i64) (.pair (.int .u64) (.unit))), .int .u64]) (h : WfT [.slice (.pair (.int .i64) (.pair (.int .u64) (.unit))), .int .u64] d) : execF Δ0 Γ_ladderClimbs (l_ladderClimbs 3000 3000 ) b_ladderClimbs Try.f5.results Try.f5.ntmps (argsT [.slice (.pair (.int .i64) (.pair (.int .u64) (.unit))), .int .u64] [false, false] d) = resB true :=
  (x_ladderClimbs 3000 3000 d.1 d.2.1).trans (p_ladderClimbs d.1 d.2.1 h)
/- jobmux/jobmuxlaw21.LadderShifts -/
noncomputable def l_ladderShifts (k0 : Nat) (k1 : Nat) : Nat → Option LoopSpec := (fun n => match n with | 0 => some ⟨sh_ladderShifts_0, fun _ => k0⟩ | 1 => some ⟨sh_ladderShifts_1, fun _ => k1⟩ | _ => none)
noncomputable def b_ladderShifts : Code := (Try.f6.body).getD .skip
noncomputable def Γ_ladderShifts : Env := fun f => if f = 14 then some modS else if f = 17 then some saneS else if f = 20 then some sameS else if f = 21 then some stepsS else none
theorem e_ladderShifts : EnvOk Try.prog Γ_ladderShifts := by
  intro f G h
  unfold Γ_ladderShifts at h
  split at h
  · rename_i hf; subst hf; cases h; exact ok_mod
  split at h
  · rename_i hf; subst hf; cases h; exact ok_sane
  split at h
  · rename_i hf; subst hf; cases h; exact ok_same
  split at h
  · rename_i hf; subst hf; cases h; exact ok_steps
  cases h
theorem x_ladderShifts (k0 : Nat) (k1 : Nat) (l : List (Int × (Int × Unit))) (a : Int) (later : Int) (cut : Int) : execF Δ0 Γ_ladderShifts (l_ladderShifts k0 k1 ) b_ladderShifts Try.f6.results Try.f6.ntmps [.val (false, [(none, ⟨.slice (.pair (.int .i64) (.pair (.int .u64) (.unit))), l⟩)]), .val (false, [(none, ⟨.int .u64, a⟩)]), .val (false, [(none, ⟨.int .u64, later⟩)]), .val (false, [(none, ⟨.int .i64, cut⟩)])] = m_ladderShifts k0 k1 l a later cut := by kernel_rfl
theorem ladderShifts_true (d : Tup [.slice (.pair (.int .i64) (.pair (.int .u64) (.unit))), .int .u64, .int .u64, .int .i64]) (h : WfT [.slice (.pair (.int .i64) (.pair (.int .u64) (.unit))), .int .u64, .int .u64, .int .i64] d) : execF Δ0 Γ_ladderShifts (l_ladderShifts 3000 3000 ) b_ladderShifts Try.f6.results Try.f6.ntmps (argsT [.slice (.pair (.int .i64) (.pair (.int .u64) (.unit))), .int .u64, .int .u64, .int .i64] [false, false, false, false] d) = resB true :=
  (x_ladderShifts 3000 3000 d.1 d.2.1 d.2.2.1 d.2.2.2.1).trans (p_ladderShifts d.1 d.2.1 d.2.2.1 d.2.2.2.1 h)
end Go.Lad
