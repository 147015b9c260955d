/- Calls of the named Go functions come to what their models tell, and the rows of laws: Lif. -/

import Derived.Test.YtinhdhaohmnbeaaTy
import Derived.Test.YtinhdhaohmnbeaaAbExt
import Derived.Test.YtinhdhaohmnbeaaAbArg
import Derived.Test.YtinhdhaohmnbeaaLifP
import Derived.Test.YtinhdhaohmnbeaaBurW
import Derived.Test.YtinhdhaohmnbeaaLadW
namespace Go.Lif
open Go.Ab Go.RowKit Go.Proofs Go.YtinhdhaohmnbeaaTy Go.Bur Go.Lad
set_option linter.unusedVariables false
set_option linter.unusedSimpArgs false
set_option maxRecDepth 1000000
set_option maxHeartbeats 8000000
/- math/bits.Len64 -/
noncomputable def l_len : Nat → Option LoopSpec := (fun _ => none)
noncomputable def b_len : Code := (Try.f49.body).getD .skip
noncomputable def Γ_len : Env := fun f => none
theorem e_len : EnvOk Try.prog Γ_len := by
  intro f G h
  unfold Γ_len at h
  cases h
theorem x_len (x : Int) : execF Δ0 Γ_len l_len b_len Try.f49.results Try.f49.ntmps [] [.val (false, [(none, ⟨.int .u64, x⟩)])] = m_len x := by kernel_rfl
theorem ok_len : CallOk Try.prog 49 lenS := by
  refine callOk_of_exec (mask := []) (fn := Try.f49) (code := b_len) (Λ := l_len) mixed tys e_len Try.func49 (by kernel_rfl) (by kernel_rfl) fun xs c dc r hG hc => ?_
  unfold lenS at hG
  split at hG
  · cases hG
    exact (x_len _).trans (p_len _ hc)
  · cases hG
/- math/bits.LeadingZeros64 -/
noncomputable def l_lz : Nat → Option LoopSpec := (fun _ => none)
noncomputable def b_lz : Code := (Try.f47.body).getD .skip
noncomputable def Γ_lz : Env := fun f => if f = 49 then some lenS else none
theorem e_lz : EnvOk Try.prog Γ_lz := by
  intro f G h
  unfold Γ_lz at h
  split at h
  · rename_i hf; subst hf; cases h; exact ok_len
  cases h
theorem x_lz (x : Int) : execF Δ0 Γ_lz l_lz b_lz Try.f47.results Try.f47.ntmps [] [.val (false, [(none, ⟨.int .u64, x⟩)])] = m_lz x := by kernel_rfl
theorem ok_lz : CallOk Try.prog 47 lzS := by
  refine callOk_of_exec (mask := []) (fn := Try.f47) (code := b_lz) (Λ := l_lz) mixed tys e_lz Try.func47 (by kernel_rfl) (by kernel_rfl) fun xs c dc r hG hc => ?_
  unfold lzS at hG
  split at hG
  · cases hG
    exact (x_lz _).trans (p_lz _ hc)
  · cases hG
/- jobmux/ticks.Double -/
noncomputable def l_dbl : Nat → Option LoopSpec := (fun _ => none)
noncomputable def b_dbl : Code := (Try.f44.body).getD .skip
noncomputable def Γ_dbl : Env := fun f => if f = 47 then some lzS else none
theorem e_dbl : EnvOk Try.prog Γ_dbl := by
  intro f G h
  unfold Γ_dbl at h
  split at h
  · rename_i hf; subst hf; cases h; exact ok_lz
  cases h
theorem x_dbl (a : Int) (n : Int) : execF Δ0 Γ_dbl l_dbl b_dbl Try.f44.results Try.f44.ntmps [] [.val (false, [(none, ⟨.int .u64, a⟩)]), .val (false, [(none, ⟨.int .i64, n⟩)])] = m_dbl a n := by kernel_rfl
theorem ok_dbl : CallOk Try.prog 44 dblS := by
  refine callOk_of_exec (mask := []) (fn := Try.f44) (code := b_dbl) (Λ := l_dbl) mixed tys e_dbl Try.func44 (by kernel_rfl) (by kernel_rfl) fun xs c dc r hG hc => ?_
  unfold dblS at hG
  split at hG
  · cases hG
    exact (x_dbl _ _).trans (p_dbl _ _ hc)
  · cases hG
/- jobmux/jobmuxref01.Double -/
noncomputable def l_rdbl (k0 : Nat) : Nat → Option LoopSpec := (fun n => match n with | 0 => some ⟨sh_rdbl_0, fun _ => k0⟩ | _ => none)
noncomputable def b_rdbl : Code := (Try.f32.body).getD .skip
noncomputable def Γ_rdbl : Env := fun f => if f = 14 then some Go.Lad.rAddS else none
theorem e_rdbl : EnvOk Try.prog Γ_rdbl := by
  intro f G h
  unfold Γ_rdbl at h
  split at h
  · rename_i hf; subst hf; cases h; exact Go.Lad.ok_rAdd
  cases h
theorem x_rdbl (k0 : Nat) (a : Int) (n : Int) : execF Δ0 Γ_rdbl (l_rdbl k0 ) b_rdbl Try.f32.results Try.f32.ntmps [] [.val (false, [(none, ⟨.int .u64, a⟩)]), .val (false, [(none, ⟨.int .i64, n⟩)])] = m_rdbl k0 a n := by kernel_rfl
theorem ok_rdbl : CallOk Try.prog 32 rdblS := by
  refine callOk_of_exec (mask := []) (fn := Try.f32) (code := b_rdbl) (Λ := (l_rdbl 100 )) mixed tys e_rdbl Try.func32 (by kernel_rfl) (by kernel_rfl) fun xs c dc r hG hc => ?_
  unfold rdblS at hG
  split at hG
  · cases hG
    exact (x_rdbl 100 _ _).trans (p_rdbl _ _ hc)
  · cases hG
/- jobmux/ticks.Delay -/
noncomputable def l_delay : Nat → Option LoopSpec := (fun _ => none)
noncomputable def b_delay : Code := (Try.f40.body).getD .skip
noncomputable def Γ_delay : Env := fun f => if f = 39 then some Go.Lad.addS else if f = 44 then some dblS else none
theorem e_delay : EnvOk Try.prog Γ_delay := by
  intro f G h
  unfold Γ_delay at h
  split at h
  · rename_i hf; subst hf; cases h; exact Go.Lad.ok_add
  split at h
  · rename_i hf; subst hf; cases h; exact ok_dbl
  cases h
theorem x_delay (b : Int) (l : Int) (n : Int) (j : Int) : execF Δ0 Γ_delay l_delay b_delay Try.f40.results Try.f40.ntmps [] [.val (false, [(none, ⟨.int .u64, b⟩)]), .val (false, [(none, ⟨.int .u64, l⟩)]), .val (false, [(none, ⟨.int .i64, n⟩)]), .val (false, [(none, ⟨.int .u64, j⟩)])] = m_delay b l n j := by kernel_rfl
theorem ok_delay : CallOk Try.prog 40 delayS := by
  refine callOk_of_exec (mask := []) (fn := Try.f40) (code := b_delay) (Λ := l_delay) mixed tys e_delay Try.func40 (by kernel_rfl) (by kernel_rfl) fun xs c dc r hG hc => ?_
  unfold delayS at hG
  split at hG
  · cases hG
    exact (x_delay _ _ _ _).trans (p_delay _ _ _ _ hc)
  · cases hG
/- jobmux/jobmuxref01.Delay -/
noncomputable def l_rdelay : Nat → Option LoopSpec := (fun _ => none)
noncomputable def b_rdelay : Code := (Try.f15.body).getD .skip
noncomputable def Γ_rdelay : Env := fun f => if f = 14 then some Go.Lad.rAddS else if f = 32 then some rdblS else none
theorem e_rdelay : EnvOk Try.prog Γ_rdelay := by
  intro f G h
  unfold Γ_rdelay at h
  split at h
  · rename_i hf; subst hf; cases h; exact Go.Lad.ok_rAdd
  split at h
  · rename_i hf; subst hf; cases h; exact ok_rdbl
  cases h
theorem x_rdelay (b : Int) (l : Int) (n : Int) (j : Int) : execF Δ0 Γ_rdelay l_rdelay b_rdelay Try.f15.results Try.f15.ntmps [] [.val (false, [(none, ⟨.int .u64, b⟩)]), .val (false, [(none, ⟨.int .u64, l⟩)]), .val (false, [(none, ⟨.int .i64, n⟩)]), .val (false, [(none, ⟨.int .u64, j⟩)])] = m_rdelay b l n j := by kernel_rfl
theorem ok_rdelay : CallOk Try.prog 15 rdelayS := by
  refine callOk_of_exec (mask := []) (fn := Try.f15) (code := b_rdelay) (Λ := l_rdelay) mixed tys e_rdelay Try.func15 (by kernel_rfl) (by kernel_rfl) fun xs c dc r hG hc => ?_
  unfold rdelayS at hG
  split at hG
  · cases hG
    exact (x_rdelay _ _ _ _).trans (p_rdelay _ _ _ _ hc)
  · cases hG
/- jobmux/jobmuxmill.New -/
noncomputable def l_new : Nat → Option LoopSpec := (fun _ => none)
noncomputable def b_new : Code := (Try.f7.body).getD .skip
noncomputable def Γ_new : Env := fun f => none
theorem e_new : EnvOk Try.prog Γ_new := by
  intro f G h
  unfold Γ_new at h
  cases h
theorem x_new (l : List Int) : execF Δ0 Γ_new l_new b_new Try.f7.results Try.f7.ntmps [] [.val (false, [(none, ⟨.slice (.int .i64), l⟩)])] = m_new l := by kernel_rfl
theorem ok_new : CallOk Try.prog 7 newS := by
  refine callOk_of_exec (mask := []) (fn := Try.f7) (code := b_new) (Λ := l_new) mixed tys e_new Try.func7 (by kernel_rfl) (by kernel_rfl) fun xs c dc r hG hc => ?_
  unfold newS at hG
  split at hG
  · cases hG
    exact (x_new _).trans (p_new _ hc)
  · cases hG
/- (*jobmux/jobmuxmill.Deck).Left -/
noncomputable def l_left : Nat → Option LoopSpec := (fun _ => none)
noncomputable def b_left : Code := (Try.f28.body).getD .skip
noncomputable def Γ_left : Env := fun f => none
theorem e_left : EnvOk Try.prog Γ_left := by
  intro f G h
  unfold Γ_left at h
  cases h
theorem x_left (d_0 : List Int) (d_1 : Int) : execF Δ0 Γ_left l_left b_left Try.f28.results Try.f28.ntmps [] [.box [(none, ⟨.slice (.int .i64), d_0⟩), (none, ⟨.int .i64, d_1⟩)]] = m_left d_0 d_1 := by kernel_rfl
theorem ok_left : CallOk Try.prog 28 leftS := by
  refine callOk_of_exec (mask := []) (fn := Try.f28) (code := b_left) (Λ := l_left) mixed tys e_left Try.func28 (by kernel_rfl) (by kernel_rfl) fun xs c dc r hG hc => ?_
  unfold leftS at hG
  split at hG
  · cases hG
    exact (x_left _ _).trans (p_left _ _ hc)
  · cases hG
/- (*jobmux/jobmuxmill.Deck).Next -/
noncomputable def l_dnxt : Nat → Option LoopSpec := (fun _ => none)
noncomputable def b_dnxt : Code := (Try.f12.body).getD .skip
noncomputable def Γ_dnxt : Env := fun f => if f = 28 then some leftS else if f = 29 then some Go.Lad.modS else none
theorem e_dnxt : EnvOk Try.prog Γ_dnxt := by
  intro f G h
  unfold Γ_dnxt at h
  split at h
  · rename_i hf; subst hf; cases h; exact ok_left
  split at h
  · rename_i hf; subst hf; cases h; exact Go.Lad.ok_mod
  cases h
theorem x_dnxt (d_0 : List Int) (d_1 : Int) (n : Int) : execF Δ0 Γ_dnxt l_dnxt b_dnxt Try.f12.results Try.f12.ntmps [] [.box [(none, ⟨.slice (.int .i64), d_0⟩), (none, ⟨.int .i64, d_1⟩)], .val (false, [(none, ⟨.int .i64, n⟩)])] = m_dnxt d_0 d_1 n := by kernel_rfl
theorem ok_dnxt : CallOk Try.prog 12 dnxtS := by
  refine callOk_of_exec (mask := []) (fn := Try.f12) (code := b_dnxt) (Λ := l_dnxt) mixed tys e_dnxt Try.func12 (by kernel_rfl) (by kernel_rfl) fun xs c dc r hG hc => ?_
  unfold dnxtS at hG
  split at hG
  · cases hG
    exact (x_dnxt _ _ _).trans (p_dnxt _ _ _ hc)
  · cases hG
/- (*jobmux/jobmuxmill.Deck).Range -/
noncomputable def l_drng : Nat → Option LoopSpec := (fun _ => none)
noncomputable def b_drng : Code := (Try.f21.body).getD .skip
noncomputable def Γ_drng : Env := fun f => if f = 12 then some dnxtS else none
theorem e_drng : EnvOk Try.prog Γ_drng := by
  intro f G h
  unfold Γ_drng at h
  split at h
  · rename_i hf; subst hf; cases h; exact ok_dnxt
  cases h
theorem x_drng (d_0 : List Int) (d_1 : Int) (lo : Int) (hi : Int) : execF Δ0 Γ_drng l_drng b_drng Try.f21.results Try.f21.ntmps [] [.box [(none, ⟨.slice (.int .i64), d_0⟩), (none, ⟨.int .i64, d_1⟩)], .val (false, [(none, ⟨.int .i64, lo⟩)]), .val (false, [(none, ⟨.int .i64, hi⟩)])] = m_drng d_0 d_1 lo hi := by kernel_rfl
theorem ok_drng : CallOk Try.prog 21 drngS := by
  refine callOk_of_exec (mask := []) (fn := Try.f21) (code := b_drng) (Λ := l_drng) mixed tys e_drng Try.func21 (by kernel_rfl) (by kernel_rfl) fun xs c dc r hG hc => ?_
  unfold drngS at hG
  split at hG
  · cases hG
    exact (x_drng _ _ _ _).trans (p_drng _ _ _ _ hc)
  · cases hG
/- jobmux/jobmuxmill.Patterns -/
noncomputable def l_pat : Nat → Option LoopSpec := (fun _ => none)
noncomputable def b_pat : Code := (Try.f22.body).getD .skip
noncomputable def Γ_pat : Env := fun f => none
theorem e_pat : EnvOk Try.prog Γ_pat := by
  intro f G h
  unfold Γ_pat at h
  cases h
theorem x_pat  : execF Δ0 Γ_pat l_pat b_pat Try.f22.results Try.f22.ntmps [[true]] [] = m_pat  := by kernel_rfl
theorem ok_pat : CallOk Try.prog 22 patS := by
  refine callOk_of_exec (mask := [[true]]) (fn := Try.f22) (code := b_pat) (Λ := l_pat) mixed tys e_pat Try.func22 (by kernel_rfl) (by kernel_rfl) fun xs c dc r hG hc => ?_
  unfold patS at hG
  split at hG
  · cases hG
    exact (x_pat ).trans (p_pat  hc)
  · cases hG
/- jobmux/jobmuxmill.Job -/
noncomputable def l_job (k0 : Nat) (k1 : Nat) : Nat → Option LoopSpec := (fun n => match n with | 0 => some ⟨sh_job_0, fun _ => k0⟩ | 1 => some ⟨sh_job_1, fun _ => k1⟩ | _ => none)
noncomputable def b_job : Code := (Try.f8.body).getD .skip
noncomputable def Γ_job : Env := fun f => if f = 12 then some dnxtS else if f = 21 then some drngS else if f = 22 then some patS else none
theorem e_job : EnvOk Try.prog Γ_job := by
  intro f G h
  unfold Γ_job at h
  split at h
  · rename_i hf; subst hf; cases h; exact ok_dnxt
  split at h
  · rename_i hf; subst hf; cases h; exact ok_drng
  split at h
  · rename_i hf; subst hf; cases h; exact ok_pat
  cases h
theorem x_job (k0 : Nat) (k1 : Nat) (d_0 : List Int) (d_1 : Int) (name : ByteArray) (others : List ByteArray) : execF Δ0 Γ_job (l_job k0 k1 ) b_job Try.f8.results Try.f8.ntmps [[false, false, true, true, false, false, false, false, false, false, false, false, true, false, false]] [.box [(none, ⟨.slice (.int .i64), d_0⟩), (none, ⟨.int .i64, d_1⟩)], .val (false, [(none, ⟨.str, name⟩)]), .val (false, [(none, ⟨.slice (.str), others⟩)])] = m_job k0 k1 d_0 d_1 name others := by kernel_rfl
theorem ok_job : CallOk Try.prog 8 jobS := by
  refine callOk_of_exec (mask := [[false, false, true, true, false, false, false, false, false, false, false, false, true, false, false]]) (fn := Try.f8) (code := b_job) (Λ := (l_job 10 10 )) mixed tys e_job Try.func8 (by kernel_rfl) (by kernel_rfl) fun xs c dc r hG hc => ?_
  unfold jobS at hG
  split at hG
  · cases hG
    exact (x_job 10 10 _ _ _ _).trans (p_job _ _ _ _ hc)
  · cases hG
/- jobmux/life.copied -/
noncomputable def l_copied : Nat → Option LoopSpec := (fun _ => none)
noncomputable def b_copied : Code := (Try.f23.body).getD .skip
noncomputable def Γ_copied : Env := fun f => if f = 37 then some Go.Bur.cloneS else none
theorem e_copied : EnvOk Try.prog Γ_copied := by
  intro f G h
  unfold Γ_copied at h
  split at h
  · rename_i hf; subst hf; cases h; exact Go.Bur.ok_clone
  cases h
theorem x_copied (l_0 : Int) (l_1 : Int) (l_2 : Int) (l_3 : Int) (l_4 : List Int) (l_5 : Int) (l_6 : Bool) (l_7 : Int) (l_8 : Bool) (l_9 : Bool) : execF Δ0 Γ_copied l_copied b_copied Try.f23.results Try.f23.ntmps [[false, false, false, false, true, false, false, false, false, false]] [.val (true, [(none, ⟨.int .i64, l_0⟩), (none, ⟨.int .i64, l_1⟩), (none, ⟨.int .i64, l_2⟩), (none, ⟨.int .u64, l_3⟩), (none, ⟨.slice (.int .u64), l_4⟩), (none, ⟨.int .u64, l_5⟩), (none, ⟨.bool, l_6⟩), (none, ⟨.int .i64, l_7⟩), (none, ⟨.bool, l_8⟩), (none, ⟨.bool, l_9⟩)])] = m_copied l_0 l_1 l_2 l_3 l_4 l_5 l_6 l_7 l_8 l_9 := by kernel_rfl
theorem ok_copied : CallOk Try.prog 23 copiedS := by
  refine callOk_of_exec (mask := [[false, false, false, false, true, false, false, false, false, false]]) (fn := Try.f23) (code := b_copied) (Λ := l_copied) mixed tys e_copied Try.func23 (by kernel_rfl) (by kernel_rfl) fun xs c dc r hG hc => ?_
  unfold copiedS at hG
  split at hG
  · cases hG
    exact (x_copied _ _ _ _ _ _ _ _ _ _).trans (p_copied _ _ _ _ _ _ _ _ _ _ hc)
  · cases hG
/- jobmux/life.rest -/
noncomputable def l_rest : Nat → Option LoopSpec := (fun _ => none)
noncomputable def b_rest : Code := (Try.f25.body).getD .skip
noncomputable def Γ_rest : Env := fun f => none
theorem e_rest : EnvOk Try.prog Γ_rest := by
  intro f G h
  unfold Γ_rest at h
  cases h
theorem x_rest (l_0 : Int) (l_1 : Int) (l_2 : Int) (l_3 : Int) (l_4 : List Int) (l_5 : Int) (l_6 : Bool) (l_7 : Int) (l_8 : Bool) (l_9 : Bool) (p : Int) : execF Δ0 Γ_rest l_rest b_rest Try.f25.results Try.f25.ntmps [[false, false, false, false, true, false, false, false, false, false]] [.val (true, [(none, ⟨.int .i64, l_0⟩), (none, ⟨.int .i64, l_1⟩), (none, ⟨.int .i64, l_2⟩), (none, ⟨.int .u64, l_3⟩), (none, ⟨.slice (.int .u64), l_4⟩), (none, ⟨.int .u64, l_5⟩), (none, ⟨.bool, l_6⟩), (none, ⟨.int .i64, l_7⟩), (none, ⟨.bool, l_8⟩), (none, ⟨.bool, l_9⟩)]), .val (false, [(none, ⟨.int .i64, p⟩)])] = m_rest l_0 l_1 l_2 l_3 l_4 l_5 l_6 l_7 l_8 l_9 p := by kernel_rfl
theorem ok_rest : CallOk Try.prog 25 restS := by
  refine callOk_of_exec (mask := [[false, false, false, false, true, false, false, false, false, false]]) (fn := Try.f25) (code := b_rest) (Λ := l_rest) mixed tys e_rest Try.func25 (by kernel_rfl) (by kernel_rfl) fun xs c dc r hG hc => ?_
  unfold restS at hG
  split at hG
  · cases hG
    exact (x_rest _ _ _ _ _ _ _ _ _ _ _).trans (p_rest _ _ _ _ _ _ _ _ _ _ _ hc)
  · cases hG
/- jobmux/life.stopped -/
noncomputable def l_stopped : Nat → Option LoopSpec := (fun _ => none)
noncomputable def b_stopped : Code := (Try.f24.body).getD .skip
noncomputable def Γ_stopped : Env := fun f => if f = 25 then some restS else none
theorem e_stopped : EnvOk Try.prog Γ_stopped := by
  intro f G h
  unfold Γ_stopped at h
  split at h
  · rename_i hf; subst hf; cases h; exact ok_rest
  cases h
theorem x_stopped (l_0 : Int) (l_1 : Int) (l_2 : Int) (l_3 : Int) (l_4 : List Int) (l_5 : Int) (l_6 : Bool) (l_7 : Int) (l_8 : Bool) (l_9 : Bool) : execF Δ0 Γ_stopped l_stopped b_stopped Try.f24.results Try.f24.ntmps [[false, false, false, false, true, false, false, false, false, false]] [.val (true, [(none, ⟨.int .i64, l_0⟩), (none, ⟨.int .i64, l_1⟩), (none, ⟨.int .i64, l_2⟩), (none, ⟨.int .u64, l_3⟩), (none, ⟨.slice (.int .u64), l_4⟩), (none, ⟨.int .u64, l_5⟩), (none, ⟨.bool, l_6⟩), (none, ⟨.int .i64, l_7⟩), (none, ⟨.bool, l_8⟩), (none, ⟨.bool, l_9⟩)])] = m_stopped l_0 l_1 l_2 l_3 l_4 l_5 l_6 l_7 l_8 l_9 := by kernel_rfl
theorem ok_stopped : CallOk Try.prog 24 stoppedS := by
  refine callOk_of_exec (mask := [[false, false, false, false, true, false, false, false, false, false]]) (fn := Try.f24) (code := b_stopped) (Λ := l_stopped) mixed tys e_stopped Try.func24 (by kernel_rfl) (by kernel_rfl) fun xs c dc r hG hc => ?_
  unfold stoppedS at hG
  split at hG
  · cases hG
    exact (x_stopped _ _ _ _ _ _ _ _ _ _).trans (p_stopped _ _ _ _ _ _ _ _ _ _ hc)
  · cases hG
/- jobmux/life.over -/
noncomputable def l_over : Nat → Option LoopSpec := (fun _ => none)
noncomputable def b_over : Code := (Try.f26.body).getD .skip
noncomputable def Γ_over : Env := fun f => if f = 25 then some restS else if f = 38 then some Go.Bur.allowS else if f = 39 then some Go.Lad.addS else if f = 40 then some delayS else none
theorem e_over : EnvOk Try.prog Γ_over := by
  intro f G h
  unfold Γ_over at h
  split at h
  · rename_i hf; subst hf; cases h; exact ok_rest
  split at h
  · rename_i hf; subst hf; cases h; exact Go.Bur.ok_allow
  split at h
  · rename_i hf; subst hf; cases h; exact Go.Lad.ok_add
  split at h
  · rename_i hf; subst hf; cases h; exact ok_delay
  cases h
theorem x_over (j_0 : ByteArray) (j_1 : ByteArray) (j_2 : List (ByteArray × (ByteArray × Unit))) (j_3 : List ByteArray) (j_4 : Bool) (j_5 : ByteArray) (j_6 : Int) (j_7 : Int) (j_8 : Int) (j_9 : Int) (j_10 : Int) (j_11 : Int) (j_12 : List (Int × (Int × Unit))) (j_13 : Int) (j_14 : Int) (l_0 : Int) (l_1 : Int) (l_2 : Int) (l_3 : Int) (l_4 : List Int) (l_5 : Int) (l_6 : Bool) (l_7 : Int) (l_8 : Bool) (l_9 : Bool) (now : Int) (jit : Int) : execF Δ0 Γ_over l_over b_over Try.f26.results Try.f26.ntmps [[false, false, false, false, true, false, false, false, false, false], [false]] [.val (true, [(none, ⟨.str, j_0⟩), (none, ⟨.str, j_1⟩), (none, ⟨.slice (.pair (.str) (.pair (.str) (.unit))), j_2⟩), (none, ⟨.slice (.str), j_3⟩), (none, ⟨.bool, j_4⟩), (none, ⟨.str, j_5⟩), (none, ⟨.int .i64, j_6⟩), (none, ⟨.int .u64, j_7⟩), (none, ⟨.int .u64, j_8⟩), (none, ⟨.int .u64, j_9⟩), (none, ⟨.int .i64, j_10⟩), (none, ⟨.int .u64, j_11⟩), (none, ⟨.slice (.pair (.int .i64) (.pair (.int .u64) (.unit))), j_12⟩), (none, ⟨.int .i64, j_13⟩), (none, ⟨.int .i64, j_14⟩)]), .val (true, [(none, ⟨.int .i64, l_0⟩), (none, ⟨.int .i64, l_1⟩), (none, ⟨.int .i64, l_2⟩), (none, ⟨.int .u64, l_3⟩), (none, ⟨.slice (.int .u64), l_4⟩), (none, ⟨.int .u64, l_5⟩), (none, ⟨.bool, l_6⟩), (none, ⟨.int .i64, l_7⟩), (none, ⟨.bool, l_8⟩), (none, ⟨.bool, l_9⟩)]), .val (false, [(none, ⟨.int .u64, now⟩)]), .val (false, [(none, ⟨.int .u64, jit⟩)])] = m_over j_0 j_1 j_2 j_3 j_4 j_5 j_6 j_7 j_8 j_9 j_10 j_11 j_12 j_13 j_14 l_0 l_1 l_2 l_3 l_4 l_5 l_6 l_7 l_8 l_9 now jit := by kernel_rfl
theorem ok_over : CallOk Try.prog 26 overS := by
  refine callOk_of_exec (mask := [[false, false, false, false, true, false, false, false, false, false], [false]]) (fn := Try.f26) (code := b_over) (Λ := l_over) mixed tys e_over Try.func26 (by kernel_rfl) (by kernel_rfl) fun xs c dc r hG hc => ?_
  unfold overS at hG
  cases hu : unpack [.val true [none, none, none, none, none, none, none, none, none, none, none, none, none, none, none], .val true [none, none, none, none, none, none, none, none, none, none], .val false [none], .val false [none]] [.str, .str, .slice (.pair (.str) (.pair (.str) (.unit))), .slice (.str), .bool, .str, .int .i64, .int .u64, .int .u64, .int .u64, .int .i64, .int .u64, .slice (.pair (.int .i64) (.pair (.int .u64) (.unit))), .int .i64, .int .i64, .int .i64, .int .i64, .int .i64, .int .u64, .slice (.int .u64), .int .u64, .bool, .int .i64, .bool, .bool, .int .u64, .int .u64] xs with
  | none => rw [hu] at hG; cases hG
  | some d =>
    rw [hu] at hG
    cases hG
    have e := unpack_is hu
    subst e
    exact (x_over d.1 d.2.1 d.2.2.1 d.2.2.2.1 d.2.2.2.2.1 d.2.2.2.2.2.1 d.2.2.2.2.2.2.1 d.2.2.2.2.2.2.2.1 d.2.2.2.2.2.2.2.2.1 d.2.2.2.2.2.2.2.2.2.1 d.2.2.2.2.2.2.2.2.2.2.1 d.2.2.2.2.2.2.2.2.2.2.2.1 d.2.2.2.2.2.2.2.2.2.2.2.2.1 d.2.2.2.2.2.2.2.2.2.2.2.2.2.1 d.2.2.2.2.2.2.2.2.2.2.2.2.2.2.1 d.2.2.2.2.2.2.2.2.2.2.2.2.2.2.2.1 d.2.2.2.2.2.2.2.2.2.2.2.2.2.2.2.2.1 d.2.2.2.2.2.2.2.2.2.2.2.2.2.2.2.2.2.1 d.2.2.2.2.2.2.2.2.2.2.2.2.2.2.2.2.2.2.1 d.2.2.2.2.2.2.2.2.2.2.2.2.2.2.2.2.2.2.2.1 d.2.2.2.2.2.2.2.2.2.2.2.2.2.2.2.2.2.2.2.2.1 d.2.2.2.2.2.2.2.2.2.2.2.2.2.2.2.2.2.2.2.2.2.1 d.2.2.2.2.2.2.2.2.2.2.2.2.2.2.2.2.2.2.2.2.2.2.1 d.2.2.2.2.2.2.2.2.2.2.2.2.2.2.2.2.2.2.2.2.2.2.2.1 d.2.2.2.2.2.2.2.2.2.2.2.2.2.2.2.2.2.2.2.2.2.2.2.2.1 d.2.2.2.2.2.2.2.2.2.2.2.2.2.2.2.2.2.2.2.2.2.2.2.2.2.1 d.2.2.2.2.2.2.2.2.2.2.2.2.2.2.2.2.2.2.2.2.2.2.2.2.2.2.1).trans (p_over d.1 d.2.1 d.2.2.1 d.2.2.2.1 d.2.2.2.2.1 d.2.2.2.2.2.1 d.2.2.2.2.2.2.1 d.2.2.2.2.2.2.2.1 d.2.2.2.2.2.2.2.2.1 d.2.2.2.2.2.2.2.2.2.1 d.2.2.2.2.2.2.2.2.2.2.1 d.2.2.2.2.2.2.2.2.2.2.2.1 d.2.2.2.2.2.2.2.2.2.2.2.2.1 d.2.2.2.2.2.2.2.2.2.2.2.2.2.1 d.2.2.2.2.2.2.2.2.2.2.2.2.2.2.1 d.2.2.2.2.2.2.2.2.2.2.2.2.2.2.2.1 d.2.2.2.2.2.2.2.2.2.2.2.2.2.2.2.2.1 d.2.2.2.2.2.2.2.2.2.2.2.2.2.2.2.2.2.1 d.2.2.2.2.2.2.2.2.2.2.2.2.2.2.2.2.2.2.1 d.2.2.2.2.2.2.2.2.2.2.2.2.2.2.2.2.2.2.2.1 d.2.2.2.2.2.2.2.2.2.2.2.2.2.2.2.2.2.2.2.2.1 d.2.2.2.2.2.2.2.2.2.2.2.2.2.2.2.2.2.2.2.2.2.1 d.2.2.2.2.2.2.2.2.2.2.2.2.2.2.2.2.2.2.2.2.2.2.1 d.2.2.2.2.2.2.2.2.2.2.2.2.2.2.2.2.2.2.2.2.2.2.2.1 d.2.2.2.2.2.2.2.2.2.2.2.2.2.2.2.2.2.2.2.2.2.2.2.2.1 d.2.2.2.2.2.2.2.2.2.2.2.2.2.2.2.2.2.2.2.2.2.2.2.2.2.1 d.2.2.2.2.2.2.2.2.2.2.2.2.2.2.2.2.2.2.2.2.2.2.2.2.2.2.1 hc)
/- jobmux/life.climb -/
noncomputable def l_climb : Nat → Option LoopSpec := (fun _ => none)
noncomputable def b_climb : Code := (Try.f33.body).getD .skip
noncomputable def Γ_climb : Env := fun f => if f = 42 then some Go.Lad.nextS else none
theorem e_climb : EnvOk Try.prog Γ_climb := by
  intro f G h
  unfold Γ_climb at h
  split at h
  · rename_i hf; subst hf; cases h; exact Go.Lad.ok_next
  cases h
theorem x_climb (j_0 : ByteArray) (j_1 : ByteArray) (j_2 : List (ByteArray × (ByteArray × Unit))) (j_3 : List ByteArray) (j_4 : Bool) (j_5 : ByteArray) (j_6 : Int) (j_7 : Int) (j_8 : Int) (j_9 : Int) (j_10 : Int) (j_11 : Int) (j_12 : List (Int × (Int × Unit))) (j_13 : Int) (j_14 : Int) (l_0 : Int) (l_1 : Int) (l_2 : Int) (l_3 : Int) (l_4 : List Int) (l_5 : Int) (l_6 : Bool) (l_7 : Int) (l_8 : Bool) (l_9 : Bool) (at_ : Int) : execF Δ0 Γ_climb l_climb b_climb Try.f33.results Try.f33.ntmps [[false, false, false, false, true, false, false, false, false, false], [false]] [.val (true, [(none, ⟨.str, j_0⟩), (none, ⟨.str, j_1⟩), (none, ⟨.slice (.pair (.str) (.pair (.str) (.unit))), j_2⟩), (none, ⟨.slice (.str), j_3⟩), (none, ⟨.bool, j_4⟩), (none, ⟨.str, j_5⟩), (none, ⟨.int .i64, j_6⟩), (none, ⟨.int .u64, j_7⟩), (none, ⟨.int .u64, j_8⟩), (none, ⟨.int .u64, j_9⟩), (none, ⟨.int .i64, j_10⟩), (none, ⟨.int .u64, j_11⟩), (none, ⟨.slice (.pair (.int .i64) (.pair (.int .u64) (.unit))), j_12⟩), (none, ⟨.int .i64, j_13⟩), (none, ⟨.int .i64, j_14⟩)]), .val (true, [(none, ⟨.int .i64, l_0⟩), (none, ⟨.int .i64, l_1⟩), (none, ⟨.int .i64, l_2⟩), (none, ⟨.int .u64, l_3⟩), (none, ⟨.slice (.int .u64), l_4⟩), (none, ⟨.int .u64, l_5⟩), (none, ⟨.bool, l_6⟩), (none, ⟨.int .i64, l_7⟩), (none, ⟨.bool, l_8⟩), (none, ⟨.bool, l_9⟩)]), .val (false, [(none, ⟨.int .u64, at_⟩)])] = m_climb j_0 j_1 j_2 j_3 j_4 j_5 j_6 j_7 j_8 j_9 j_10 j_11 j_12 j_13 j_14 l_0 l_1 l_2 l_3 l_4 l_5 l_6 l_7 l_8 l_9 at_ := by kernel_rfl
theorem ok_climb : CallOk Try.prog 33 climbS := by
  refine callOk_of_exec (mask := [[false, false, false, false, true, false, false, false, false, false], [false]]) (fn := Try.f33) (code := b_climb) (Λ := l_climb) mixed tys e_climb Try.func33 (by kernel_rfl) (by kernel_rfl) fun xs c dc r hG hc => ?_
  unfold climbS at hG
  cases hu : unpack [.val true [none, none, none, none, none, none, none, none, none, none, none, none, none, none, none], .val true [none, none, none, none, none, none, none, none, none, none], .val false [none]] [.str, .str, .slice (.pair (.str) (.pair (.str) (.unit))), .slice (.str), .bool, .str, .int .i64, .int .u64, .int .u64, .int .u64, .int .i64, .int .u64, .slice (.pair (.int .i64) (.pair (.int .u64) (.unit))), .int .i64, .int .i64, .int .i64, .int .i64, .int .i64, .int .u64, .slice (.int .u64), .int .u64, .bool, .int .i64, .bool, .bool, .int .u64] xs with
  | none => rw [hu] at hG; cases hG
  | some d =>
    rw [hu] at hG
    cases hG
    have e := unpack_is hu
    subst e
    exact (x_climb d.1 d.2.1 d.2.2.1 d.2.2.2.1 d.2.2.2.2.1 d.2.2.2.2.2.1 d.2.2.2.2.2.2.1 d.2.2.2.2.2.2.2.1 d.2.2.2.2.2.2.2.2.1 d.2.2.2.2.2.2.2.2.2.1 d.2.2.2.2.2.2.2.2.2.2.1 d.2.2.2.2.2.2.2.2.2.2.2.1 d.2.2.2.2.2.2.2.2.2.2.2.2.1 d.2.2.2.2.2.2.2.2.2.2.2.2.2.1 d.2.2.2.2.2.2.2.2.2.2.2.2.2.2.1 d.2.2.2.2.2.2.2.2.2.2.2.2.2.2.2.1 d.2.2.2.2.2.2.2.2.2.2.2.2.2.2.2.2.1 d.2.2.2.2.2.2.2.2.2.2.2.2.2.2.2.2.2.1 d.2.2.2.2.2.2.2.2.2.2.2.2.2.2.2.2.2.2.1 d.2.2.2.2.2.2.2.2.2.2.2.2.2.2.2.2.2.2.2.1 d.2.2.2.2.2.2.2.2.2.2.2.2.2.2.2.2.2.2.2.2.1 d.2.2.2.2.2.2.2.2.2.2.2.2.2.2.2.2.2.2.2.2.2.1 d.2.2.2.2.2.2.2.2.2.2.2.2.2.2.2.2.2.2.2.2.2.2.1 d.2.2.2.2.2.2.2.2.2.2.2.2.2.2.2.2.2.2.2.2.2.2.2.1 d.2.2.2.2.2.2.2.2.2.2.2.2.2.2.2.2.2.2.2.2.2.2.2.2.1 d.2.2.2.2.2.2.2.2.2.2.2.2.2.2.2.2.2.2.2.2.2.2.2.2.2.1).trans (p_climb d.1 d.2.1 d.2.2.1 d.2.2.2.1 d.2.2.2.2.1 d.2.2.2.2.2.1 d.2.2.2.2.2.2.1 d.2.2.2.2.2.2.2.1 d.2.2.2.2.2.2.2.2.1 d.2.2.2.2.2.2.2.2.2.1 d.2.2.2.2.2.2.2.2.2.2.1 d.2.2.2.2.2.2.2.2.2.2.2.1 d.2.2.2.2.2.2.2.2.2.2.2.2.1 d.2.2.2.2.2.2.2.2.2.2.2.2.2.1 d.2.2.2.2.2.2.2.2.2.2.2.2.2.2.1 d.2.2.2.2.2.2.2.2.2.2.2.2.2.2.2.1 d.2.2.2.2.2.2.2.2.2.2.2.2.2.2.2.2.1 d.2.2.2.2.2.2.2.2.2.2.2.2.2.2.2.2.2.1 d.2.2.2.2.2.2.2.2.2.2.2.2.2.2.2.2.2.2.1 d.2.2.2.2.2.2.2.2.2.2.2.2.2.2.2.2.2.2.2.1 d.2.2.2.2.2.2.2.2.2.2.2.2.2.2.2.2.2.2.2.2.1 d.2.2.2.2.2.2.2.2.2.2.2.2.2.2.2.2.2.2.2.2.2.1 d.2.2.2.2.2.2.2.2.2.2.2.2.2.2.2.2.2.2.2.2.2.2.1 d.2.2.2.2.2.2.2.2.2.2.2.2.2.2.2.2.2.2.2.2.2.2.2.1 d.2.2.2.2.2.2.2.2.2.2.2.2.2.2.2.2.2.2.2.2.2.2.2.2.1 d.2.2.2.2.2.2.2.2.2.2.2.2.2.2.2.2.2.2.2.2.2.2.2.2.2.1 hc)
/- jobmux/life.stopping -/
noncomputable def l_stopping : Nat → Option LoopSpec := (fun _ => none)
noncomputable def b_stopping : Code := (Try.f27.body).getD .skip
noncomputable def Γ_stopping : Env := fun f => if f = 33 then some climbS else none
theorem e_stopping : EnvOk Try.prog Γ_stopping := by
  intro f G h
  unfold Γ_stopping at h
  split at h
  · rename_i hf; subst hf; cases h; exact ok_climb
  cases h
theorem x_stopping (j_0 : ByteArray) (j_1 : ByteArray) (j_2 : List (ByteArray × (ByteArray × Unit))) (j_3 : List ByteArray) (j_4 : Bool) (j_5 : ByteArray) (j_6 : Int) (j_7 : Int) (j_8 : Int) (j_9 : Int) (j_10 : Int) (j_11 : Int) (j_12 : List (Int × (Int × Unit))) (j_13 : Int) (j_14 : Int) (l_0 : Int) (l_1 : Int) (l_2 : Int) (l_3 : Int) (l_4 : List Int) (l_5 : Int) (l_6 : Bool) (l_7 : Int) (l_8 : Bool) (l_9 : Bool) (now : Int) : execF Δ0 Γ_stopping l_stopping b_stopping Try.f27.results Try.f27.ntmps [[false, false, false, false, true, false, false, false, false, false], [false]] [.val (true, [(none, ⟨.str, j_0⟩), (none, ⟨.str, j_1⟩), (none, ⟨.slice (.pair (.str) (.pair (.str) (.unit))), j_2⟩), (none, ⟨.slice (.str), j_3⟩), (none, ⟨.bool, j_4⟩), (none, ⟨.str, j_5⟩), (none, ⟨.int .i64, j_6⟩), (none, ⟨.int .u64, j_7⟩), (none, ⟨.int .u64, j_8⟩), (none, ⟨.int .u64, j_9⟩), (none, ⟨.int .i64, j_10⟩), (none, ⟨.int .u64, j_11⟩), (none, ⟨.slice (.pair (.int .i64) (.pair (.int .u64) (.unit))), j_12⟩), (none, ⟨.int .i64, j_13⟩), (none, ⟨.int .i64, j_14⟩)]), .val (true, [(none, ⟨.int .i64, l_0⟩), (none, ⟨.int .i64, l_1⟩), (none, ⟨.int .i64, l_2⟩), (none, ⟨.int .u64, l_3⟩), (none, ⟨.slice (.int .u64), l_4⟩), (none, ⟨.int .u64, l_5⟩), (none, ⟨.bool, l_6⟩), (none, ⟨.int .i64, l_7⟩), (none, ⟨.bool, l_8⟩), (none, ⟨.bool, l_9⟩)]), .val (false, [(none, ⟨.int .u64, now⟩)])] = m_stopping j_0 j_1 j_2 j_3 j_4 j_5 j_6 j_7 j_8 j_9 j_10 j_11 j_12 j_13 j_14 l_0 l_1 l_2 l_3 l_4 l_5 l_6 l_7 l_8 l_9 now := by kernel_rfl
theorem ok_stopping : CallOk Try.prog 27 stoppingS := by
  refine callOk_of_exec (mask := [[false, false, false, false, true, false, false, false, false, false], [false]]) (fn := Try.f27) (code := b_stopping) (Λ := l_stopping) mixed tys e_stopping Try.func27 (by kernel_rfl) (by kernel_rfl) fun xs c dc r hG hc => ?_
  unfold stoppingS at hG
  cases hu : unpack [.val true [none, none, none, none, none, none, none, none, none, none, none, none, none, none, none], .val true [none, none, none, none, none, none, none, none, none, none], .val false [none]] [.str, .str, .slice (.pair (.str) (.pair (.str) (.unit))), .slice (.str), .bool, .str, .int .i64, .int .u64, .int .u64, .int .u64, .int .i64, .int .u64, .slice (.pair (.int .i64) (.pair (.int .u64) (.unit))), .int .i64, .int .i64, .int .i64, .int .i64, .int .i64, .int .u64, .slice (.int .u64), .int .u64, .bool, .int .i64, .bool, .bool, .int .u64] xs with
  | none => rw [hu] at hG; cases hG
  | some d =>
    rw [hu] at hG
    cases hG
    have e := unpack_is hu
    subst e
    exact (x_stopping d.1 d.2.1 d.2.2.1 d.2.2.2.1 d.2.2.2.2.1 d.2.2.2.2.2.1 d.2.2.2.2.2.2.1 d.2.2.2.2.2.2.2.1 d.2.2.2.2.2.2.2.2.1 d.2.2.2.2.2.2.2.2.2.1 d.2.2.2.2.2.2.2.2.2.2.1 d.2.2.2.2.2.2.2.2.2.2.2.1 d.2.2.2.2.2.2.2.2.2.2.2.2.1 d.2.2.2.2.2.2.2.2.2.2.2.2.2.1 d.2.2.2.2.2.2.2.2.2.2.2.2.2.2.1 d.2.2.2.2.2.2.2.2.2.2.2.2.2.2.2.1 d.2.2.2.2.2.2.2.2.2.2.2.2.2.2.2.2.1 d.2.2.2.2.2.2.2.2.2.2.2.2.2.2.2.2.2.1 d.2.2.2.2.2.2.2.2.2.2.2.2.2.2.2.2.2.2.1 d.2.2.2.2.2.2.2.2.2.2.2.2.2.2.2.2.2.2.2.1 d.2.2.2.2.2.2.2.2.2.2.2.2.2.2.2.2.2.2.2.2.1 d.2.2.2.2.2.2.2.2.2.2.2.2.2.2.2.2.2.2.2.2.2.1 d.2.2.2.2.2.2.2.2.2.2.2.2.2.2.2.2.2.2.2.2.2.2.1 d.2.2.2.2.2.2.2.2.2.2.2.2.2.2.2.2.2.2.2.2.2.2.2.1 d.2.2.2.2.2.2.2.2.2.2.2.2.2.2.2.2.2.2.2.2.2.2.2.2.1 d.2.2.2.2.2.2.2.2.2.2.2.2.2.2.2.2.2.2.2.2.2.2.2.2.2.1).trans (p_stopping d.1 d.2.1 d.2.2.1 d.2.2.2.1 d.2.2.2.2.1 d.2.2.2.2.2.1 d.2.2.2.2.2.2.1 d.2.2.2.2.2.2.2.1 d.2.2.2.2.2.2.2.2.1 d.2.2.2.2.2.2.2.2.2.1 d.2.2.2.2.2.2.2.2.2.2.1 d.2.2.2.2.2.2.2.2.2.2.2.1 d.2.2.2.2.2.2.2.2.2.2.2.2.1 d.2.2.2.2.2.2.2.2.2.2.2.2.2.1 d.2.2.2.2.2.2.2.2.2.2.2.2.2.2.1 d.2.2.2.2.2.2.2.2.2.2.2.2.2.2.2.1 d.2.2.2.2.2.2.2.2.2.2.2.2.2.2.2.2.1 d.2.2.2.2.2.2.2.2.2.2.2.2.2.2.2.2.2.1 d.2.2.2.2.2.2.2.2.2.2.2.2.2.2.2.2.2.2.1 d.2.2.2.2.2.2.2.2.2.2.2.2.2.2.2.2.2.2.2.1 d.2.2.2.2.2.2.2.2.2.2.2.2.2.2.2.2.2.2.2.2.1 d.2.2.2.2.2.2.2.2.2.2.2.2.2.2.2.2.2.2.2.2.2.1 d.2.2.2.2.2.2.2.2.2.2.2.2.2.2.2.2.2.2.2.2.2.2.1 d.2.2.2.2.2.2.2.2.2.2.2.2.2.2.2.2.2.2.2.2.2.2.2.1 d.2.2.2.2.2.2.2.2.2.2.2.2.2.2.2.2.2.2.2.2.2.2.2.2.1 d.2.2.2.2.2.2.2.2.2.2.2.2.2.2.2.2.2.2.2.2.2.2.2.2.2.1 hc)
/- jobmux/life.New -/
noncomputable def l_lnew : Nat → Option LoopSpec := (fun _ => none)
noncomputable def b_lnew : Code := (Try.f9.body).getD .skip
noncomputable def Γ_lnew : Env := fun f => none
theorem e_lnew : EnvOk Try.prog Γ_lnew := by
  intro f G h
  unfold Γ_lnew at h
  cases h
theorem x_lnew  : execF Δ0 Γ_lnew l_lnew b_lnew Try.f9.results Try.f9.ntmps [[false, false, false, false, true, false, false, false, false, false]] [] = m_lnew  := by kernel_rfl
theorem ok_lnew : CallOk Try.prog 9 lnewS := by
  refine callOk_of_exec (mask := [[false, false, false, false, true, false, false, false, false, false]]) (fn := Try.f9) (code := b_lnew) (Λ := l_lnew) mixed tys e_lnew Try.func9 (by kernel_rfl) (by kernel_rfl) fun xs c dc r hG hc => ?_
  unfold lnewS at hG
  split at hG
  · cases hG
    exact (x_lnew ).trans (p_lnew  hc)
  · cases hG
/- jobmux/life.Live -/
noncomputable def l_live : Nat → Option LoopSpec := (fun _ => none)
noncomputable def b_live : Code := (Try.f19.body).getD .skip
noncomputable def Γ_live : Env := fun f => none
theorem e_live : EnvOk Try.prog Γ_live := by
  intro f G h
  unfold Γ_live at h
  cases h
theorem x_live (l_0 : Int) (l_1 : Int) (l_2 : Int) (l_3 : Int) (l_4 : List Int) (l_5 : Int) (l_6 : Bool) (l_7 : Int) (l_8 : Bool) (l_9 : Bool) : execF Δ0 Γ_live l_live b_live Try.f19.results Try.f19.ntmps [] [.val (true, [(none, ⟨.int .i64, l_0⟩), (none, ⟨.int .i64, l_1⟩), (none, ⟨.int .i64, l_2⟩), (none, ⟨.int .u64, l_3⟩), (none, ⟨.slice (.int .u64), l_4⟩), (none, ⟨.int .u64, l_5⟩), (none, ⟨.bool, l_6⟩), (none, ⟨.int .i64, l_7⟩), (none, ⟨.bool, l_8⟩), (none, ⟨.bool, l_9⟩)])] = m_live l_0 l_1 l_2 l_3 l_4 l_5 l_6 l_7 l_8 l_9 := by kernel_rfl
theorem ok_live : CallOk Try.prog 19 liveS := by
  refine callOk_of_exec (mask := []) (fn := Try.f19) (code := b_live) (Λ := l_live) mixed tys e_live Try.func19 (by kernel_rfl) (by kernel_rfl) fun xs c dc r hG hc => ?_
  unfold liveS at hG
  split at hG
  · cases hG
    exact (x_live _ _ _ _ _ _ _ _ _ _).trans (p_live _ _ _ _ _ _ _ _ _ _ hc)
  · cases hG
/- jobmux/life.Spawn -/
noncomputable def l_spawn : Nat → Option LoopSpec := (fun _ => none)
noncomputable def b_spawn : Code := (Try.f10.body).getD .skip
noncomputable def Γ_spawn : Env := fun f => if f = 23 then some copiedS else none
theorem e_spawn : EnvOk Try.prog Γ_spawn := by
  intro f G h
  unfold Γ_spawn at h
  split at h
  · rename_i hf; subst hf; cases h; exact ok_copied
  cases h
theorem x_spawn (l_0 : Int) (l_1 : Int) (l_2 : Int) (l_3 : Int) (l_4 : List Int) (l_5 : Int) (l_6 : Bool) (l_7 : Int) (l_8 : Bool) (l_9 : Bool) : execF Δ0 Γ_spawn l_spawn b_spawn Try.f10.results Try.f10.ntmps [[false, false, false, false, true, false, false, false, false, false], [false]] [.val (true, [(none, ⟨.int .i64, l_0⟩), (none, ⟨.int .i64, l_1⟩), (none, ⟨.int .i64, l_2⟩), (none, ⟨.int .u64, l_3⟩), (none, ⟨.slice (.int .u64), l_4⟩), (none, ⟨.int .u64, l_5⟩), (none, ⟨.bool, l_6⟩), (none, ⟨.int .i64, l_7⟩), (none, ⟨.bool, l_8⟩), (none, ⟨.bool, l_9⟩)])] = m_spawn l_0 l_1 l_2 l_3 l_4 l_5 l_6 l_7 l_8 l_9 := by kernel_rfl
theorem ok_spawn : CallOk Try.prog 10 spawnS := by
  refine callOk_of_exec (mask := [[false, false, false, false, true, false, false, false, false, false], [false]]) (fn := Try.f10) (code := b_spawn) (Λ := l_spawn) mixed tys e_spawn Try.func10 (by kernel_rfl) (by kernel_rfl) fun xs c dc r hG hc => ?_
  unfold spawnS at hG
  split at hG
  · cases hG
    exact (x_spawn _ _ _ _ _ _ _ _ _ _).trans (p_spawn _ _ _ _ _ _ _ _ _ _ hc)
  · cases hG
/- jobmux/life.Spawned -/
noncomputable def l_spawned : Nat → Option LoopSpec := (fun _ => none)
noncomputable def b_spawned : Code := (Try.f11.body).getD .skip
noncomputable def Γ_spawned : Env := fun f => if f = 23 then some copiedS else if f = 24 then some stoppedS else if f = 25 then some restS else if f = 26 then some overS else if f = 27 then some stoppingS else none
theorem e_spawned : EnvOk Try.prog Γ_spawned := by
  intro f G h
  unfold Γ_spawned at h
  split at h
  · rename_i hf; subst hf; cases h; exact ok_copied
  split at h
  · rename_i hf; subst hf; cases h; exact ok_stopped
  split at h
  · rename_i hf; subst hf; cases h; exact ok_rest
  split at h
  · rename_i hf; subst hf; cases h; exact ok_over
  split at h
  · rename_i hf; subst hf; cases h; exact ok_stopping
  cases h
theorem x_spawned (j_0 : ByteArray) (j_1 : ByteArray) (j_2 : List (ByteArray × (ByteArray × Unit))) (j_3 : List ByteArray) (j_4 : Bool) (j_5 : ByteArray) (j_6 : Int) (j_7 : Int) (j_8 : Int) (j_9 : Int) (j_10 : Int) (j_11 : Int) (j_12 : List (Int × (Int × Unit))) (j_13 : Int) (j_14 : Int) (l_0 : Int) (l_1 : Int) (l_2 : Int) (l_3 : Int) (l_4 : List Int) (l_5 : Int) (l_6 : Bool) (l_7 : Int) (l_8 : Bool) (l_9 : Bool) (ok : Bool) (ready : Bool) (now : Int) (jit : Int) : execF Δ0 Γ_spawned l_spawned b_spawned Try.f11.results Try.f11.ntmps [[false, false, false, false, true, false, false, false, false, false], [false], [false]] [.val (true, [(none, ⟨.str, j_0⟩), (none, ⟨.str, j_1⟩), (none, ⟨.slice (.pair (.str) (.pair (.str) (.unit))), j_2⟩), (none, ⟨.slice (.str), j_3⟩), (none, ⟨.bool, j_4⟩), (none, ⟨.str, j_5⟩), (none, ⟨.int .i64, j_6⟩), (none, ⟨.int .u64, j_7⟩), (none, ⟨.int .u64, j_8⟩), (none, ⟨.int .u64, j_9⟩), (none, ⟨.int .i64, j_10⟩), (none, ⟨.int .u64, j_11⟩), (none, ⟨.slice (.pair (.int .i64) (.pair (.int .u64) (.unit))), j_12⟩), (none, ⟨.int .i64, j_13⟩), (none, ⟨.int .i64, j_14⟩)]), .val (true, [(none, ⟨.int .i64, l_0⟩), (none, ⟨.int .i64, l_1⟩), (none, ⟨.int .i64, l_2⟩), (none, ⟨.int .u64, l_3⟩), (none, ⟨.slice (.int .u64), l_4⟩), (none, ⟨.int .u64, l_5⟩), (none, ⟨.bool, l_6⟩), (none, ⟨.int .i64, l_7⟩), (none, ⟨.bool, l_8⟩), (none, ⟨.bool, l_9⟩)]), .val (false, [(none, ⟨.bool, ok⟩)]), .val (false, [(none, ⟨.bool, ready⟩)]), .val (false, [(none, ⟨.int .u64, now⟩)]), .val (false, [(none, ⟨.int .u64, jit⟩)])] = m_spawned j_0 j_1 j_2 j_3 j_4 j_5 j_6 j_7 j_8 j_9 j_10 j_11 j_12 j_13 j_14 l_0 l_1 l_2 l_3 l_4 l_5 l_6 l_7 l_8 l_9 ok ready now jit := by kernel_rfl
theorem ok_spawned : CallOk Try.prog 11 spawnedS := by
  refine callOk_of_exec (mask := [[false, false, false, false, true, false, false, false, false, false], [false], [false]]) (fn := Try.f11) (code := b_spawned) (Λ := l_spawned) mixed tys e_spawned Try.func11 (by kernel_rfl) (by kernel_rfl) fun xs c dc r hG hc => ?_
  unfold spawnedS at hG
  cases hu : unpack [.val true [none, none, none, none, none, none, none, none, none, none, none, none, none, none, none], .val true [none, none, none, none, none, none, none, none, none, none], .val false [none], .val false [none], .val false [none], .val false [none]] [.str, .str, .slice (.pair (.str) (.pair (.str) (.unit))), .slice (.str), .bool, .str, .int .i64, .int .u64, .int .u64, .int .u64, .int .i64, .int .u64, .slice (.pair (.int .i64) (.pair (.int .u64) (.unit))), .int .i64, .int .i64, .int .i64, .int .i64, .int .i64, .int .u64, .slice (.int .u64), .int .u64, .bool, .int .i64, .bool, .bool, .bool, .bool, .int .u64, .int .u64] xs with
  | none => rw [hu] at hG; cases hG
  | some d =>
    rw [hu] at hG
    cases hG
    have e := unpack_is hu
    subst e
    exact (x_spawned d.1 d.2.1 d.2.2.1 d.2.2.2.1 d.2.2.2.2.1 d.2.2.2.2.2.1 d.2.2.2.2.2.2.1 d.2.2.2.2.2.2.2.1 d.2.2.2.2.2.2.2.2.1 d.2.2.2.2.2.2.2.2.2.1 d.2.2.2.2.2.2.2.2.2.2.1 d.2.2.2.2.2.2.2.2.2.2.2.1 d.2.2.2.2.2.2.2.2.2.2.2.2.1 d.2.2.2.2.2.2.2.2.2.2.2.2.2.1 d.2.2.2.2.2.2.2.2.2.2.2.2.2.2.1 d.2.2.2.2.2.2.2.2.2.2.2.2.2.2.2.1 d.2.2.2.2.2.2.2.2.2.2.2.2.2.2.2.2.1 d.2.2.2.2.2.2.2.2.2.2.2.2.2.2.2.2.2.1 d.2.2.2.2.2.2.2.2.2.2.2.2.2.2.2.2.2.2.1 d.2.2.2.2.2.2.2.2.2.2.2.2.2.2.2.2.2.2.2.1 d.2.2.2.2.2.2.2.2.2.2.2.2.2.2.2.2.2.2.2.2.1 d.2.2.2.2.2.2.2.2.2.2.2.2.2.2.2.2.2.2.2.2.2.1 d.2.2.2.2.2.2.2.2.2.2.2.2.2.2.2.2.2.2.2.2.2.2.1 d.2.2.2.2.2.2.2.2.2.2.2.2.2.2.2.2.2.2.2.2.2.2.2.1 d.2.2.2.2.2.2.2.2.2.2.2.2.2.2.2.2.2.2.2.2.2.2.2.2.1 d.2.2.2.2.2.2.2.2.2.2.2.2.2.2.2.2.2.2.2.2.2.2.2.2.2.1 d.2.2.2.2.2.2.2.2.2.2.2.2.2.2.2.2.2.2.2.2.2.2.2.2.2.2.1 d.2.2.2.2.2.2.2.2.2.2.2.2.2.2.2.2.2.2.2.2.2.2.2.2.2.2.2.1 d.2.2.2.2.2.2.2.2.2.2.2.2.2.2.2.2.2.2.2.2.2.2.2.2.2.2.2.2.1).trans (p_spawned d.1 d.2.1 d.2.2.1 d.2.2.2.1 d.2.2.2.2.1 d.2.2.2.2.2.1 d.2.2.2.2.2.2.1 d.2.2.2.2.2.2.2.1 d.2.2.2.2.2.2.2.2.1 d.2.2.2.2.2.2.2.2.2.1 d.2.2.2.2.2.2.2.2.2.2.1 d.2.2.2.2.2.2.2.2.2.2.2.1 d.2.2.2.2.2.2.2.2.2.2.2.2.1 d.2.2.2.2.2.2.2.2.2.2.2.2.2.1 d.2.2.2.2.2.2.2.2.2.2.2.2.2.2.1 d.2.2.2.2.2.2.2.2.2.2.2.2.2.2.2.1 d.2.2.2.2.2.2.2.2.2.2.2.2.2.2.2.2.1 d.2.2.2.2.2.2.2.2.2.2.2.2.2.2.2.2.2.1 d.2.2.2.2.2.2.2.2.2.2.2.2.2.2.2.2.2.2.1 d.2.2.2.2.2.2.2.2.2.2.2.2.2.2.2.2.2.2.2.1 d.2.2.2.2.2.2.2.2.2.2.2.2.2.2.2.2.2.2.2.2.1 d.2.2.2.2.2.2.2.2.2.2.2.2.2.2.2.2.2.2.2.2.2.1 d.2.2.2.2.2.2.2.2.2.2.2.2.2.2.2.2.2.2.2.2.2.2.1 d.2.2.2.2.2.2.2.2.2.2.2.2.2.2.2.2.2.2.2.2.2.2.2.1 d.2.2.2.2.2.2.2.2.2.2.2.2.2.2.2.2.2.2.2.2.2.2.2.2.1 d.2.2.2.2.2.2.2.2.2.2.2.2.2.2.2.2.2.2.2.2.2.2.2.2.2.1 d.2.2.2.2.2.2.2.2.2.2.2.2.2.2.2.2.2.2.2.2.2.2.2.2.2.2.1 d.2.2.2.2.2.2.2.2.2.2.2.2.2.2.2.2.2.2.2.2.2.2.2.2.2.2.2.1 d.2.2.2.2.2.2.2.2.2.2.2.2.2.2.2.2.2.2.2.2.2.2.2.2.2.2.2.2.1 hc)
/- jobmux/life.Exit -/
noncomputable def l_exit : Nat → Option LoopSpec := (fun _ => none)
noncomputable def b_exit : Code := (Try.f13.body).getD .skip
noncomputable def Γ_exit : Env := fun f => if f = 23 then some copiedS else if f = 24 then some stoppedS else if f = 25 then some restS else if f = 26 then some overS else if f = 30 then some Go.Bur.subS else none
theorem e_exit : EnvOk Try.prog Γ_exit := by
  intro f G h
  unfold Γ_exit at h
  split at h
  · rename_i hf; subst hf; cases h; exact ok_copied
  split at h
  · rename_i hf; subst hf; cases h; exact ok_stopped
  split at h
  · rename_i hf; subst hf; cases h; exact ok_rest
  split at h
  · rename_i hf; subst hf; cases h; exact ok_over
  split at h
  · rename_i hf; subst hf; cases h; exact Go.Bur.ok_sub
  cases h
theorem x_exit (j_0 : ByteArray) (j_1 : ByteArray) (j_2 : List (ByteArray × (ByteArray × Unit))) (j_3 : List ByteArray) (j_4 : Bool) (j_5 : ByteArray) (j_6 : Int) (j_7 : Int) (j_8 : Int) (j_9 : Int) (j_10 : Int) (j_11 : Int) (j_12 : List (Int × (Int × Unit))) (j_13 : Int) (j_14 : Int) (l_0 : Int) (l_1 : Int) (l_2 : Int) (l_3 : Int) (l_4 : List Int) (l_5 : Int) (l_6 : Bool) (l_7 : Int) (l_8 : Bool) (l_9 : Bool) (code : Int) (now : Int) (jit : Int) : execF Δ0 Γ_exit l_exit b_exit Try.f13.results Try.f13.ntmps [[false, false, false, false, true, false, false, false, false, false], [false]] [.val (true, [(none, ⟨.str, j_0⟩), (none, ⟨.str, j_1⟩), (none, ⟨.slice (.pair (.str) (.pair (.str) (.unit))), j_2⟩), (none, ⟨.slice (.str), j_3⟩), (none, ⟨.bool, j_4⟩), (none, ⟨.str, j_5⟩), (none, ⟨.int .i64, j_6⟩), (none, ⟨.int .u64, j_7⟩), (none, ⟨.int .u64, j_8⟩), (none, ⟨.int .u64, j_9⟩), (none, ⟨.int .i64, j_10⟩), (none, ⟨.int .u64, j_11⟩), (none, ⟨.slice (.pair (.int .i64) (.pair (.int .u64) (.unit))), j_12⟩), (none, ⟨.int .i64, j_13⟩), (none, ⟨.int .i64, j_14⟩)]), .val (true, [(none, ⟨.int .i64, l_0⟩), (none, ⟨.int .i64, l_1⟩), (none, ⟨.int .i64, l_2⟩), (none, ⟨.int .u64, l_3⟩), (none, ⟨.slice (.int .u64), l_4⟩), (none, ⟨.int .u64, l_5⟩), (none, ⟨.bool, l_6⟩), (none, ⟨.int .i64, l_7⟩), (none, ⟨.bool, l_8⟩), (none, ⟨.bool, l_9⟩)]), .val (false, [(none, ⟨.int .i64, code⟩)]), .val (false, [(none, ⟨.int .u64, now⟩)]), .val (false, [(none, ⟨.int .u64, jit⟩)])] = m_exit j_0 j_1 j_2 j_3 j_4 j_5 j_6 j_7 j_8 j_9 j_10 j_11 j_12 j_13 j_14 l_0 l_1 l_2 l_3 l_4 l_5 l_6 l_7 l_8 l_9 code now jit := by kernel_rfl
theorem ok_exit : CallOk Try.prog 13 exitS := by
  refine callOk_of_exec (mask := [[false, false, false, false, true, false, false, false, false, false], [false]]) (fn := Try.f13) (code := b_exit) (Λ := l_exit) mixed tys e_exit Try.func13 (by kernel_rfl) (by kernel_rfl) fun xs c dc r hG hc => ?_
  unfold exitS at hG
  cases hu : unpack [.val true [none, none, none, none, none, none, none, none, none, none, none, none, none, none, none], .val true [none, none, none, none, none, none, none, none, none, none], .val false [none], .val false [none], .val false [none]] [.str, .str, .slice (.pair (.str) (.pair (.str) (.unit))), .slice (.str), .bool, .str, .int .i64, .int .u64, .int .u64, .int .u64, .int .i64, .int .u64, .slice (.pair (.int .i64) (.pair (.int .u64) (.unit))), .int .i64, .int .i64, .int .i64, .int .i64, .int .i64, .int .u64, .slice (.int .u64), .int .u64, .bool, .int .i64, .bool, .bool, .int .i64, .int .u64, .int .u64] xs with
  | none => rw [hu] at hG; cases hG
  | some d =>
    rw [hu] at hG
    cases hG
    have e := unpack_is hu
    subst e
    exact (x_exit d.1 d.2.1 d.2.2.1 d.2.2.2.1 d.2.2.2.2.1 d.2.2.2.2.2.1 d.2.2.2.2.2.2.1 d.2.2.2.2.2.2.2.1 d.2.2.2.2.2.2.2.2.1 d.2.2.2.2.2.2.2.2.2.1 d.2.2.2.2.2.2.2.2.2.2.1 d.2.2.2.2.2.2.2.2.2.2.2.1 d.2.2.2.2.2.2.2.2.2.2.2.2.1 d.2.2.2.2.2.2.2.2.2.2.2.2.2.1 d.2.2.2.2.2.2.2.2.2.2.2.2.2.2.1 d.2.2.2.2.2.2.2.2.2.2.2.2.2.2.2.1 d.2.2.2.2.2.2.2.2.2.2.2.2.2.2.2.2.1 d.2.2.2.2.2.2.2.2.2.2.2.2.2.2.2.2.2.1 d.2.2.2.2.2.2.2.2.2.2.2.2.2.2.2.2.2.2.1 d.2.2.2.2.2.2.2.2.2.2.2.2.2.2.2.2.2.2.2.1 d.2.2.2.2.2.2.2.2.2.2.2.2.2.2.2.2.2.2.2.2.1 d.2.2.2.2.2.2.2.2.2.2.2.2.2.2.2.2.2.2.2.2.2.1 d.2.2.2.2.2.2.2.2.2.2.2.2.2.2.2.2.2.2.2.2.2.2.1 d.2.2.2.2.2.2.2.2.2.2.2.2.2.2.2.2.2.2.2.2.2.2.2.1 d.2.2.2.2.2.2.2.2.2.2.2.2.2.2.2.2.2.2.2.2.2.2.2.2.1 d.2.2.2.2.2.2.2.2.2.2.2.2.2.2.2.2.2.2.2.2.2.2.2.2.2.1 d.2.2.2.2.2.2.2.2.2.2.2.2.2.2.2.2.2.2.2.2.2.2.2.2.2.2.1 d.2.2.2.2.2.2.2.2.2.2.2.2.2.2.2.2.2.2.2.2.2.2.2.2.2.2.2.1).trans (p_exit d.1 d.2.1 d.2.2.1 d.2.2.2.1 d.2.2.2.2.1 d.2.2.2.2.2.1 d.2.2.2.2.2.2.1 d.2.2.2.2.2.2.2.1 d.2.2.2.2.2.2.2.2.1 d.2.2.2.2.2.2.2.2.2.1 d.2.2.2.2.2.2.2.2.2.2.1 d.2.2.2.2.2.2.2.2.2.2.2.1 d.2.2.2.2.2.2.2.2.2.2.2.2.1 d.2.2.2.2.2.2.2.2.2.2.2.2.2.1 d.2.2.2.2.2.2.2.2.2.2.2.2.2.2.1 d.2.2.2.2.2.2.2.2.2.2.2.2.2.2.2.1 d.2.2.2.2.2.2.2.2.2.2.2.2.2.2.2.2.1 d.2.2.2.2.2.2.2.2.2.2.2.2.2.2.2.2.2.1 d.2.2.2.2.2.2.2.2.2.2.2.2.2.2.2.2.2.2.1 d.2.2.2.2.2.2.2.2.2.2.2.2.2.2.2.2.2.2.2.1 d.2.2.2.2.2.2.2.2.2.2.2.2.2.2.2.2.2.2.2.2.1 d.2.2.2.2.2.2.2.2.2.2.2.2.2.2.2.2.2.2.2.2.2.1 d.2.2.2.2.2.2.2.2.2.2.2.2.2.2.2.2.2.2.2.2.2.2.1 d.2.2.2.2.2.2.2.2.2.2.2.2.2.2.2.2.2.2.2.2.2.2.2.1 d.2.2.2.2.2.2.2.2.2.2.2.2.2.2.2.2.2.2.2.2.2.2.2.2.1 d.2.2.2.2.2.2.2.2.2.2.2.2.2.2.2.2.2.2.2.2.2.2.2.2.2.1 d.2.2.2.2.2.2.2.2.2.2.2.2.2.2.2.2.2.2.2.2.2.2.2.2.2.2.1 d.2.2.2.2.2.2.2.2.2.2.2.2.2.2.2.2.2.2.2.2.2.2.2.2.2.2.2.1 hc)
/- jobmux/life.Fire -/
noncomputable def l_fire : Nat → Option LoopSpec := (fun _ => none)
noncomputable def b_fire : Code := (Try.f16.body).getD .skip
noncomputable def Γ_fire : Env := fun f => if f = 23 then some copiedS else if f = 25 then some restS else if f = 33 then some climbS else none
theorem e_fire : EnvOk Try.prog Γ_fire := by
  intro f G h
  unfold Γ_fire at h
  split at h
  · rename_i hf; subst hf; cases h; exact ok_copied
  split at h
  · rename_i hf; subst hf; cases h; exact ok_rest
  split at h
  · rename_i hf; subst hf; cases h; exact ok_climb
  cases h
theorem x_fire (j_0 : ByteArray) (j_1 : ByteArray) (j_2 : List (ByteArray × (ByteArray × Unit))) (j_3 : List ByteArray) (j_4 : Bool) (j_5 : ByteArray) (j_6 : Int) (j_7 : Int) (j_8 : Int) (j_9 : Int) (j_10 : Int) (j_11 : Int) (j_12 : List (Int × (Int × Unit))) (j_13 : Int) (j_14 : Int) (l_0 : Int) (l_1 : Int) (l_2 : Int) (l_3 : Int) (l_4 : List Int) (l_5 : Int) (l_6 : Bool) (l_7 : Int) (l_8 : Bool) (l_9 : Bool) : execF Δ0 Γ_fire l_fire b_fire Try.f16.results Try.f16.ntmps [[false, false, false, false, true, false, false, false, false, false], [false]] [.val (true, [(none, ⟨.str, j_0⟩), (none, ⟨.str, j_1⟩), (none, ⟨.slice (.pair (.str) (.pair (.str) (.unit))), j_2⟩), (none, ⟨.slice (.str), j_3⟩), (none, ⟨.bool, j_4⟩), (none, ⟨.str, j_5⟩), (none, ⟨.int .i64, j_6⟩), (none, ⟨.int .u64, j_7⟩), (none, ⟨.int .u64, j_8⟩), (none, ⟨.int .u64, j_9⟩), (none, ⟨.int .i64, j_10⟩), (none, ⟨.int .u64, j_11⟩), (none, ⟨.slice (.pair (.int .i64) (.pair (.int .u64) (.unit))), j_12⟩), (none, ⟨.int .i64, j_13⟩), (none, ⟨.int .i64, j_14⟩)]), .val (true, [(none, ⟨.int .i64, l_0⟩), (none, ⟨.int .i64, l_1⟩), (none, ⟨.int .i64, l_2⟩), (none, ⟨.int .u64, l_3⟩), (none, ⟨.slice (.int .u64), l_4⟩), (none, ⟨.int .u64, l_5⟩), (none, ⟨.bool, l_6⟩), (none, ⟨.int .i64, l_7⟩), (none, ⟨.bool, l_8⟩), (none, ⟨.bool, l_9⟩)])] = m_fire j_0 j_1 j_2 j_3 j_4 j_5 j_6 j_7 j_8 j_9 j_10 j_11 j_12 j_13 j_14 l_0 l_1 l_2 l_3 l_4 l_5 l_6 l_7 l_8 l_9 := by kernel_rfl
theorem ok_fire : CallOk Try.prog 16 fireS := by
  refine callOk_of_exec (mask := [[false, false, false, false, true, false, false, false, false, false], [false]]) (fn := Try.f16) (code := b_fire) (Λ := l_fire) mixed tys e_fire Try.func16 (by kernel_rfl) (by kernel_rfl) fun xs c dc r hG hc => ?_
  unfold fireS at hG
  cases hu : unpack [.val true [none, none, none, none, none, none, none, none, none, none, none, none, none, none, none], .val true [none, none, none, none, none, none, none, none, none, none]] [.str, .str, .slice (.pair (.str) (.pair (.str) (.unit))), .slice (.str), .bool, .str, .int .i64, .int .u64, .int .u64, .int .u64, .int .i64, .int .u64, .slice (.pair (.int .i64) (.pair (.int .u64) (.unit))), .int .i64, .int .i64, .int .i64, .int .i64, .int .i64, .int .u64, .slice (.int .u64), .int .u64, .bool, .int .i64, .bool, .bool] xs with
  | none => rw [hu] at hG; cases hG
  | some d =>
    rw [hu] at hG
    cases hG
    have e := unpack_is hu
    subst e
    exact (x_fire d.1 d.2.1 d.2.2.1 d.2.2.2.1 d.2.2.2.2.1 d.2.2.2.2.2.1 d.2.2.2.2.2.2.1 d.2.2.2.2.2.2.2.1 d.2.2.2.2.2.2.2.2.1 d.2.2.2.2.2.2.2.2.2.1 d.2.2.2.2.2.2.2.2.2.2.1 d.2.2.2.2.2.2.2.2.2.2.2.1 d.2.2.2.2.2.2.2.2.2.2.2.2.1 d.2.2.2.2.2.2.2.2.2.2.2.2.2.1 d.2.2.2.2.2.2.2.2.2.2.2.2.2.2.1 d.2.2.2.2.2.2.2.2.2.2.2.2.2.2.2.1 d.2.2.2.2.2.2.2.2.2.2.2.2.2.2.2.2.1 d.2.2.2.2.2.2.2.2.2.2.2.2.2.2.2.2.2.1 d.2.2.2.2.2.2.2.2.2.2.2.2.2.2.2.2.2.2.1 d.2.2.2.2.2.2.2.2.2.2.2.2.2.2.2.2.2.2.2.1 d.2.2.2.2.2.2.2.2.2.2.2.2.2.2.2.2.2.2.2.2.1 d.2.2.2.2.2.2.2.2.2.2.2.2.2.2.2.2.2.2.2.2.2.1 d.2.2.2.2.2.2.2.2.2.2.2.2.2.2.2.2.2.2.2.2.2.2.1 d.2.2.2.2.2.2.2.2.2.2.2.2.2.2.2.2.2.2.2.2.2.2.2.1 d.2.2.2.2.2.2.2.2.2.2.2.2.2.2.2.2.2.2.2.2.2.2.2.2.1).trans (p_fire d.1 d.2.1 d.2.2.1 d.2.2.2.1 d.2.2.2.2.1 d.2.2.2.2.2.1 d.2.2.2.2.2.2.1 d.2.2.2.2.2.2.2.1 d.2.2.2.2.2.2.2.2.1 d.2.2.2.2.2.2.2.2.2.1 d.2.2.2.2.2.2.2.2.2.2.1 d.2.2.2.2.2.2.2.2.2.2.2.1 d.2.2.2.2.2.2.2.2.2.2.2.2.1 d.2.2.2.2.2.2.2.2.2.2.2.2.2.1 d.2.2.2.2.2.2.2.2.2.2.2.2.2.2.1 d.2.2.2.2.2.2.2.2.2.2.2.2.2.2.2.1 d.2.2.2.2.2.2.2.2.2.2.2.2.2.2.2.2.1 d.2.2.2.2.2.2.2.2.2.2.2.2.2.2.2.2.2.1 d.2.2.2.2.2.2.2.2.2.2.2.2.2.2.2.2.2.2.1 d.2.2.2.2.2.2.2.2.2.2.2.2.2.2.2.2.2.2.2.1 d.2.2.2.2.2.2.2.2.2.2.2.2.2.2.2.2.2.2.2.2.1 d.2.2.2.2.2.2.2.2.2.2.2.2.2.2.2.2.2.2.2.2.2.1 d.2.2.2.2.2.2.2.2.2.2.2.2.2.2.2.2.2.2.2.2.2.2.1 d.2.2.2.2.2.2.2.2.2.2.2.2.2.2.2.2.2.2.2.2.2.2.2.1 d.2.2.2.2.2.2.2.2.2.2.2.2.2.2.2.2.2.2.2.2.2.2.2.2.1 hc)
/- jobmux/life.Start -/
noncomputable def l_start : Nat → Option LoopSpec := (fun _ => none)
noncomputable def b_start : Code := (Try.f36.body).getD .skip
noncomputable def Γ_start : Env := fun f => if f = 23 then some copiedS else if f = 25 then some restS else none
theorem e_start : EnvOk Try.prog Γ_start := by
  intro f G h
  unfold Γ_start at h
  split at h
  · rename_i hf; subst hf; cases h; exact ok_copied
  split at h
  · rename_i hf; subst hf; cases h; exact ok_rest
  cases h
theorem x_start (l_0 : Int) (l_1 : Int) (l_2 : Int) (l_3 : Int) (l_4 : List Int) (l_5 : Int) (l_6 : Bool) (l_7 : Int) (l_8 : Bool) (l_9 : Bool) : execF Δ0 Γ_start l_start b_start Try.f36.results Try.f36.ntmps [[false, false, false, false, true, false, false, false, false, false]] [.val (true, [(none, ⟨.int .i64, l_0⟩), (none, ⟨.int .i64, l_1⟩), (none, ⟨.int .i64, l_2⟩), (none, ⟨.int .u64, l_3⟩), (none, ⟨.slice (.int .u64), l_4⟩), (none, ⟨.int .u64, l_5⟩), (none, ⟨.bool, l_6⟩), (none, ⟨.int .i64, l_7⟩), (none, ⟨.bool, l_8⟩), (none, ⟨.bool, l_9⟩)])] = m_start l_0 l_1 l_2 l_3 l_4 l_5 l_6 l_7 l_8 l_9 := by kernel_rfl
theorem ok_start : CallOk Try.prog 36 startS := by
  refine callOk_of_exec (mask := [[false, false, false, false, true, false, false, false, false, false]]) (fn := Try.f36) (code := b_start) (Λ := l_start) mixed tys e_start Try.func36 (by kernel_rfl) (by kernel_rfl) fun xs c dc r hG hc => ?_
  unfold startS at hG
  split at hG
  · cases hG
    exact (x_start _ _ _ _ _ _ _ _ _ _).trans (p_start _ _ _ _ _ _ _ _ _ _ hc)
  · cases hG
/- jobmux/life.halt -/
noncomputable def l_halt : Nat → Option LoopSpec := (fun _ => none)
noncomputable def b_halt : Code := (Try.f34.body).getD .skip
noncomputable def Γ_halt : Env := fun f => if f = 27 then some stoppingS else none
theorem e_halt : EnvOk Try.prog Γ_halt := by
  intro f G h
  unfold Γ_halt at h
  split at h
  · rename_i hf; subst hf; cases h; exact ok_stopping
  cases h
theorem x_halt (j_0 : ByteArray) (j_1 : ByteArray) (j_2 : List (ByteArray × (ByteArray × Unit))) (j_3 : List ByteArray) (j_4 : Bool) (j_5 : ByteArray) (j_6 : Int) (j_7 : Int) (j_8 : Int) (j_9 : Int) (j_10 : Int) (j_11 : Int) (j_12 : List (Int × (Int × Unit))) (j_13 : Int) (j_14 : Int) (l_0 : Int) (l_1 : Int) (l_2 : Int) (l_3 : Int) (l_4 : List Int) (l_5 : Int) (l_6 : Bool) (l_7 : Int) (l_8 : Bool) (l_9 : Bool) (now : Int) (ag : Bool) : execF Δ0 Γ_halt l_halt b_halt Try.f34.results Try.f34.ntmps [[false, false, false, false, true, false, false, false, false, false], [false]] [.val (true, [(none, ⟨.str, j_0⟩), (none, ⟨.str, j_1⟩), (none, ⟨.slice (.pair (.str) (.pair (.str) (.unit))), j_2⟩), (none, ⟨.slice (.str), j_3⟩), (none, ⟨.bool, j_4⟩), (none, ⟨.str, j_5⟩), (none, ⟨.int .i64, j_6⟩), (none, ⟨.int .u64, j_7⟩), (none, ⟨.int .u64, j_8⟩), (none, ⟨.int .u64, j_9⟩), (none, ⟨.int .i64, j_10⟩), (none, ⟨.int .u64, j_11⟩), (none, ⟨.slice (.pair (.int .i64) (.pair (.int .u64) (.unit))), j_12⟩), (none, ⟨.int .i64, j_13⟩), (none, ⟨.int .i64, j_14⟩)]), .val (true, [(none, ⟨.int .i64, l_0⟩), (none, ⟨.int .i64, l_1⟩), (none, ⟨.int .i64, l_2⟩), (none, ⟨.int .u64, l_3⟩), (none, ⟨.slice (.int .u64), l_4⟩), (none, ⟨.int .u64, l_5⟩), (none, ⟨.bool, l_6⟩), (none, ⟨.int .i64, l_7⟩), (none, ⟨.bool, l_8⟩), (none, ⟨.bool, l_9⟩)]), .val (false, [(none, ⟨.int .u64, now⟩)]), .val (false, [(none, ⟨.bool, ag⟩)])] = m_halt j_0 j_1 j_2 j_3 j_4 j_5 j_6 j_7 j_8 j_9 j_10 j_11 j_12 j_13 j_14 l_0 l_1 l_2 l_3 l_4 l_5 l_6 l_7 l_8 l_9 now ag := by kernel_rfl
theorem ok_halt : CallOk Try.prog 34 haltS := by
  refine callOk_of_exec (mask := [[false, false, false, false, true, false, false, false, false, false], [false]]) (fn := Try.f34) (code := b_halt) (Λ := l_halt) mixed tys e_halt Try.func34 (by kernel_rfl) (by kernel_rfl) fun xs c dc r hG hc => ?_
  unfold haltS at hG
  cases hu : unpack [.val true [none, none, none, none, none, none, none, none, none, none, none, none, none, none, none], .val true [none, none, none, none, none, none, none, none, none, none], .val false [none], .val false [none]] [.str, .str, .slice (.pair (.str) (.pair (.str) (.unit))), .slice (.str), .bool, .str, .int .i64, .int .u64, .int .u64, .int .u64, .int .i64, .int .u64, .slice (.pair (.int .i64) (.pair (.int .u64) (.unit))), .int .i64, .int .i64, .int .i64, .int .i64, .int .i64, .int .u64, .slice (.int .u64), .int .u64, .bool, .int .i64, .bool, .bool, .int .u64, .bool] xs with
  | none => rw [hu] at hG; cases hG
  | some d =>
    rw [hu] at hG
    cases hG
    have e := unpack_is hu
    subst e
    exact (x_halt d.1 d.2.1 d.2.2.1 d.2.2.2.1 d.2.2.2.2.1 d.2.2.2.2.2.1 d.2.2.2.2.2.2.1 d.2.2.2.2.2.2.2.1 d.2.2.2.2.2.2.2.2.1 d.2.2.2.2.2.2.2.2.2.1 d.2.2.2.2.2.2.2.2.2.2.1 d.2.2.2.2.2.2.2.2.2.2.2.1 d.2.2.2.2.2.2.2.2.2.2.2.2.1 d.2.2.2.2.2.2.2.2.2.2.2.2.2.1 d.2.2.2.2.2.2.2.2.2.2.2.2.2.2.1 d.2.2.2.2.2.2.2.2.2.2.2.2.2.2.2.1 d.2.2.2.2.2.2.2.2.2.2.2.2.2.2.2.2.1 d.2.2.2.2.2.2.2.2.2.2.2.2.2.2.2.2.2.1 d.2.2.2.2.2.2.2.2.2.2.2.2.2.2.2.2.2.2.1 d.2.2.2.2.2.2.2.2.2.2.2.2.2.2.2.2.2.2.2.1 d.2.2.2.2.2.2.2.2.2.2.2.2.2.2.2.2.2.2.2.2.1 d.2.2.2.2.2.2.2.2.2.2.2.2.2.2.2.2.2.2.2.2.2.1 d.2.2.2.2.2.2.2.2.2.2.2.2.2.2.2.2.2.2.2.2.2.2.1 d.2.2.2.2.2.2.2.2.2.2.2.2.2.2.2.2.2.2.2.2.2.2.2.1 d.2.2.2.2.2.2.2.2.2.2.2.2.2.2.2.2.2.2.2.2.2.2.2.2.1 d.2.2.2.2.2.2.2.2.2.2.2.2.2.2.2.2.2.2.2.2.2.2.2.2.2.1 d.2.2.2.2.2.2.2.2.2.2.2.2.2.2.2.2.2.2.2.2.2.2.2.2.2.2.1).trans (p_halt d.1 d.2.1 d.2.2.1 d.2.2.2.1 d.2.2.2.2.1 d.2.2.2.2.2.1 d.2.2.2.2.2.2.1 d.2.2.2.2.2.2.2.1 d.2.2.2.2.2.2.2.2.1 d.2.2.2.2.2.2.2.2.2.1 d.2.2.2.2.2.2.2.2.2.2.1 d.2.2.2.2.2.2.2.2.2.2.2.1 d.2.2.2.2.2.2.2.2.2.2.2.2.1 d.2.2.2.2.2.2.2.2.2.2.2.2.2.1 d.2.2.2.2.2.2.2.2.2.2.2.2.2.2.1 d.2.2.2.2.2.2.2.2.2.2.2.2.2.2.2.1 d.2.2.2.2.2.2.2.2.2.2.2.2.2.2.2.2.1 d.2.2.2.2.2.2.2.2.2.2.2.2.2.2.2.2.2.1 d.2.2.2.2.2.2.2.2.2.2.2.2.2.2.2.2.2.2.1 d.2.2.2.2.2.2.2.2.2.2.2.2.2.2.2.2.2.2.2.1 d.2.2.2.2.2.2.2.2.2.2.2.2.2.2.2.2.2.2.2.2.1 d.2.2.2.2.2.2.2.2.2.2.2.2.2.2.2.2.2.2.2.2.2.1 d.2.2.2.2.2.2.2.2.2.2.2.2.2.2.2.2.2.2.2.2.2.2.1 d.2.2.2.2.2.2.2.2.2.2.2.2.2.2.2.2.2.2.2.2.2.2.2.1 d.2.2.2.2.2.2.2.2.2.2.2.2.2.2.2.2.2.2.2.2.2.2.2.2.1 d.2.2.2.2.2.2.2.2.2.2.2.2.2.2.2.2.2.2.2.2.2.2.2.2.2.1 d.2.2.2.2.2.2.2.2.2.2.2.2.2.2.2.2.2.2.2.2.2.2.2.2.2.2.1 hc)
/- jobmux/life.Stop -/
noncomputable def l_stop : Nat → Option LoopSpec := (fun _ => none)
noncomputable def b_stop : Code := (Try.f17.body).getD .skip
noncomputable def Γ_stop : Env := fun f => if f = 23 then some copiedS else if f = 25 then some restS else if f = 34 then some haltS else none
theorem e_stop : EnvOk Try.prog Γ_stop := by
  intro f G h
  unfold Γ_stop at h
  split at h
  · rename_i hf; subst hf; cases h; exact ok_copied
  split at h
  · rename_i hf; subst hf; cases h; exact ok_rest
  split at h
  · rename_i hf; subst hf; cases h; exact ok_halt
  cases h
theorem x_stop (j_0 : ByteArray) (j_1 : ByteArray) (j_2 : List (ByteArray × (ByteArray × Unit))) (j_3 : List ByteArray) (j_4 : Bool) (j_5 : ByteArray) (j_6 : Int) (j_7 : Int) (j_8 : Int) (j_9 : Int) (j_10 : Int) (j_11 : Int) (j_12 : List (Int × (Int × Unit))) (j_13 : Int) (j_14 : Int) (l_0 : Int) (l_1 : Int) (l_2 : Int) (l_3 : Int) (l_4 : List Int) (l_5 : Int) (l_6 : Bool) (l_7 : Int) (l_8 : Bool) (l_9 : Bool) (now : Int) : execF Δ0 Γ_stop l_stop b_stop Try.f17.results Try.f17.ntmps [[false, false, false, false, true, false, false, false, false, false], [false]] [.val (true, [(none, ⟨.str, j_0⟩), (none, ⟨.str, j_1⟩), (none, ⟨.slice (.pair (.str) (.pair (.str) (.unit))), j_2⟩), (none, ⟨.slice (.str), j_3⟩), (none, ⟨.bool, j_4⟩), (none, ⟨.str, j_5⟩), (none, ⟨.int .i64, j_6⟩), (none, ⟨.int .u64, j_7⟩), (none, ⟨.int .u64, j_8⟩), (none, ⟨.int .u64, j_9⟩), (none, ⟨.int .i64, j_10⟩), (none, ⟨.int .u64, j_11⟩), (none, ⟨.slice (.pair (.int .i64) (.pair (.int .u64) (.unit))), j_12⟩), (none, ⟨.int .i64, j_13⟩), (none, ⟨.int .i64, j_14⟩)]), .val (true, [(none, ⟨.int .i64, l_0⟩), (none, ⟨.int .i64, l_1⟩), (none, ⟨.int .i64, l_2⟩), (none, ⟨.int .u64, l_3⟩), (none, ⟨.slice (.int .u64), l_4⟩), (none, ⟨.int .u64, l_5⟩), (none, ⟨.bool, l_6⟩), (none, ⟨.int .i64, l_7⟩), (none, ⟨.bool, l_8⟩), (none, ⟨.bool, l_9⟩)]), .val (false, [(none, ⟨.int .u64, now⟩)])] = m_stop j_0 j_1 j_2 j_3 j_4 j_5 j_6 j_7 j_8 j_9 j_10 j_11 j_12 j_13 j_14 l_0 l_1 l_2 l_3 l_4 l_5 l_6 l_7 l_8 l_9 now := by kernel_rfl
theorem ok_stop : CallOk Try.prog 17 stopS := by
  refine callOk_of_exec (mask := [[false, false, false, false, true, false, false, false, false, false], [false]]) (fn := Try.f17) (code := b_stop) (Λ := l_stop) mixed tys e_stop Try.func17 (by kernel_rfl) (by kernel_rfl) fun xs c dc r hG hc => ?_
  unfold stopS at hG
  cases hu : unpack [.val true [none, none, none, none, none, none, none, none, none, none, none, none, none, none, none], .val true [none, none, none, none, none, none, none, none, none, none], .val false [none]] [.str, .str, .slice (.pair (.str) (.pair (.str) (.unit))), .slice (.str), .bool, .str, .int .i64, .int .u64, .int .u64, .int .u64, .int .i64, .int .u64, .slice (.pair (.int .i64) (.pair (.int .u64) (.unit))), .int .i64, .int .i64, .int .i64, .int .i64, .int .i64, .int .u64, .slice (.int .u64), .int .u64, .bool, .int .i64, .bool, .bool, .int .u64] xs with
  | none => rw [hu] at hG; cases hG
  | some d =>
    rw [hu] at hG
    cases hG
    have e := unpack_is hu
    subst e
    exact (x_stop d.1 d.2.1 d.2.2.1 d.2.2.2.1 d.2.2.2.2.1 d.2.2.2.2.2.1 d.2.2.2.2.2.2.1 d.2.2.2.2.2.2.2.1 d.2.2.2.2.2.2.2.2.1 d.2.2.2.2.2.2.2.2.2.1 d.2.2.2.2.2.2.2.2.2.2.1 d.2.2.2.2.2.2.2.2.2.2.2.1 d.2.2.2.2.2.2.2.2.2.2.2.2.1 d.2.2.2.2.2.2.2.2.2.2.2.2.2.1 d.2.2.2.2.2.2.2.2.2.2.2.2.2.2.1 d.2.2.2.2.2.2.2.2.2.2.2.2.2.2.2.1 d.2.2.2.2.2.2.2.2.2.2.2.2.2.2.2.2.1 d.2.2.2.2.2.2.2.2.2.2.2.2.2.2.2.2.2.1 d.2.2.2.2.2.2.2.2.2.2.2.2.2.2.2.2.2.2.1 d.2.2.2.2.2.2.2.2.2.2.2.2.2.2.2.2.2.2.2.1 d.2.2.2.2.2.2.2.2.2.2.2.2.2.2.2.2.2.2.2.2.1 d.2.2.2.2.2.2.2.2.2.2.2.2.2.2.2.2.2.2.2.2.2.1 d.2.2.2.2.2.2.2.2.2.2.2.2.2.2.2.2.2.2.2.2.2.2.1 d.2.2.2.2.2.2.2.2.2.2.2.2.2.2.2.2.2.2.2.2.2.2.2.1 d.2.2.2.2.2.2.2.2.2.2.2.2.2.2.2.2.2.2.2.2.2.2.2.2.1 d.2.2.2.2.2.2.2.2.2.2.2.2.2.2.2.2.2.2.2.2.2.2.2.2.2.1).trans (p_stop d.1 d.2.1 d.2.2.1 d.2.2.2.1 d.2.2.2.2.1 d.2.2.2.2.2.1 d.2.2.2.2.2.2.1 d.2.2.2.2.2.2.2.1 d.2.2.2.2.2.2.2.2.1 d.2.2.2.2.2.2.2.2.2.1 d.2.2.2.2.2.2.2.2.2.2.1 d.2.2.2.2.2.2.2.2.2.2.2.1 d.2.2.2.2.2.2.2.2.2.2.2.2.1 d.2.2.2.2.2.2.2.2.2.2.2.2.2.1 d.2.2.2.2.2.2.2.2.2.2.2.2.2.2.1 d.2.2.2.2.2.2.2.2.2.2.2.2.2.2.2.1 d.2.2.2.2.2.2.2.2.2.2.2.2.2.2.2.2.1 d.2.2.2.2.2.2.2.2.2.2.2.2.2.2.2.2.2.1 d.2.2.2.2.2.2.2.2.2.2.2.2.2.2.2.2.2.2.1 d.2.2.2.2.2.2.2.2.2.2.2.2.2.2.2.2.2.2.2.1 d.2.2.2.2.2.2.2.2.2.2.2.2.2.2.2.2.2.2.2.2.1 d.2.2.2.2.2.2.2.2.2.2.2.2.2.2.2.2.2.2.2.2.2.1 d.2.2.2.2.2.2.2.2.2.2.2.2.2.2.2.2.2.2.2.2.2.2.1 d.2.2.2.2.2.2.2.2.2.2.2.2.2.2.2.2.2.2.2.2.2.2.2.1 d.2.2.2.2.2.2.2.2.2.2.2.2.2.2.2.2.2.2.2.2.2.2.2.2.1 d.2.2.2.2.2.2.2.2.2.2.2.2.2.2.2.2.2.2.2.2.2.2.2.2.2.1 hc)
/- jobmux/life.Restart -/
noncomputable def l_restart : Nat → Option LoopSpec := (fun _ => none)
noncomputable def b_restart : Code := (Try.f20.body).getD .skip
noncomputable def Γ_restart : Env := fun f => if f = 23 then some copiedS else if f = 25 then some restS else if f = 34 then some haltS else if f = 36 then some startS else none
theorem e_restart : EnvOk Try.prog Γ_restart := by
  intro f G h
  unfold Γ_restart at h
  split at h
  · rename_i hf; subst hf; cases h; exact ok_copied
  split at h
  · rename_i hf; subst hf; cases h; exact ok_rest
  split at h
  · rename_i hf; subst hf; cases h; exact ok_halt
  split at h
  · rename_i hf; subst hf; cases h; exact ok_start
  cases h
theorem x_restart (j_0 : ByteArray) (j_1 : ByteArray) (j_2 : List (ByteArray × (ByteArray × Unit))) (j_3 : List ByteArray) (j_4 : Bool) (j_5 : ByteArray) (j_6 : Int) (j_7 : Int) (j_8 : Int) (j_9 : Int) (j_10 : Int) (j_11 : Int) (j_12 : List (Int × (Int × Unit))) (j_13 : Int) (j_14 : Int) (l_0 : Int) (l_1 : Int) (l_2 : Int) (l_3 : Int) (l_4 : List Int) (l_5 : Int) (l_6 : Bool) (l_7 : Int) (l_8 : Bool) (l_9 : Bool) (now : Int) : execF Δ0 Γ_restart l_restart b_restart Try.f20.results Try.f20.ntmps [[false, false, false, false, true, false, false, false, false, false], [false]] [.val (true, [(none, ⟨.str, j_0⟩), (none, ⟨.str, j_1⟩), (none, ⟨.slice (.pair (.str) (.pair (.str) (.unit))), j_2⟩), (none, ⟨.slice (.str), j_3⟩), (none, ⟨.bool, j_4⟩), (none, ⟨.str, j_5⟩), (none, ⟨.int .i64, j_6⟩), (none, ⟨.int .u64, j_7⟩), (none, ⟨.int .u64, j_8⟩), (none, ⟨.int .u64, j_9⟩), (none, ⟨.int .i64, j_10⟩), (none, ⟨.int .u64, j_11⟩), (none, ⟨.slice (.pair (.int .i64) (.pair (.int .u64) (.unit))), j_12⟩), (none, ⟨.int .i64, j_13⟩), (none, ⟨.int .i64, j_14⟩)]), .val (true, [(none, ⟨.int .i64, l_0⟩), (none, ⟨.int .i64, l_1⟩), (none, ⟨.int .i64, l_2⟩), (none, ⟨.int .u64, l_3⟩), (none, ⟨.slice (.int .u64), l_4⟩), (none, ⟨.int .u64, l_5⟩), (none, ⟨.bool, l_6⟩), (none, ⟨.int .i64, l_7⟩), (none, ⟨.bool, l_8⟩), (none, ⟨.bool, l_9⟩)]), .val (false, [(none, ⟨.int .u64, now⟩)])] = m_restart j_0 j_1 j_2 j_3 j_4 j_5 j_6 j_7 j_8 j_9 j_10 j_11 j_12 j_13 j_14 l_0 l_1 l_2 l_3 l_4 l_5 l_6 l_7 l_8 l_9 now := by kernel_rfl
theorem ok_restart : CallOk Try.prog 20 restartS := by
  refine callOk_of_exec (mask := [[false, false, false, false, true, false, false, false, false, false], [false]]) (fn := Try.f20) (code := b_restart) (Λ := l_restart) mixed tys e_restart Try.func20 (by kernel_rfl) (by kernel_rfl) fun xs c dc r hG hc => ?_
  unfold restartS at hG
  cases hu : unpack [.val true [none, none, none, none, none, none, none, none, none, none, none, none, none, none, none], .val true [none, none, none, none, none, none, none, none, none, none], .val false [none]] [.str, .str, .slice (.pair (.str) (.pair (.str) (.unit))), .slice (.str), .bool, .str, .int .i64, .int .u64, .int .u64, .int .u64, .int .i64, .int .u64, .slice (.pair (.int .i64) (.pair (.int .u64) (.unit))), .int .i64, .int .i64, .int .i64, .int .i64, .int .i64, .int .u64, .slice (.int .u64), .int .u64, .bool, .int .i64, .bool, .bool, .int .u64] xs with
  | none => rw [hu] at hG; cases hG
  | some d =>
    rw [hu] at hG
    cases hG
    have e := unpack_is hu
    subst e
    exact (x_restart d.1 d.2.1 d.2.2.1 d.2.2.2.1 d.2.2.2.2.1 d.2.2.2.2.2.1 d.2.2.2.2.2.2.1 d.2.2.2.2.2.2.2.1 d.2.2.2.2.2.2.2.2.1 d.2.2.2.2.2.2.2.2.2.1 d.2.2.2.2.2.2.2.2.2.2.1 d.2.2.2.2.2.2.2.2.2.2.2.1 d.2.2.2.2.2.2.2.2.2.2.2.2.1 d.2.2.2.2.2.2.2.2.2.2.2.2.2.1 d.2.2.2.2.2.2.2.2.2.2.2.2.2.2.1 d.2.2.2.2.2.2.2.2.2.2.2.2.2.2.2.1 d.2.2.2.2.2.2.2.2.2.2.2.2.2.2.2.2.1 d.2.2.2.2.2.2.2.2.2.2.2.2.2.2.2.2.2.1 d.2.2.2.2.2.2.2.2.2.2.2.2.2.2.2.2.2.2.1 d.2.2.2.2.2.2.2.2.2.2.2.2.2.2.2.2.2.2.2.1 d.2.2.2.2.2.2.2.2.2.2.2.2.2.2.2.2.2.2.2.2.1 d.2.2.2.2.2.2.2.2.2.2.2.2.2.2.2.2.2.2.2.2.2.1 d.2.2.2.2.2.2.2.2.2.2.2.2.2.2.2.2.2.2.2.2.2.2.1 d.2.2.2.2.2.2.2.2.2.2.2.2.2.2.2.2.2.2.2.2.2.2.2.1 d.2.2.2.2.2.2.2.2.2.2.2.2.2.2.2.2.2.2.2.2.2.2.2.2.1 d.2.2.2.2.2.2.2.2.2.2.2.2.2.2.2.2.2.2.2.2.2.2.2.2.2.1).trans (p_restart d.1 d.2.1 d.2.2.1 d.2.2.2.1 d.2.2.2.2.1 d.2.2.2.2.2.1 d.2.2.2.2.2.2.1 d.2.2.2.2.2.2.2.1 d.2.2.2.2.2.2.2.2.1 d.2.2.2.2.2.2.2.2.2.1 d.2.2.2.2.2.2.2.2.2.2.1 d.2.2.2.2.2.2.2.2.2.2.2.1 d.2.2.2.2.2.2.2.2.2.2.2.2.1 d.2.2.2.2.2.2.2.2.2.2.2.2.2.1 d.2.2.2.2.2.2.2.2.2.2.2.2.2.2.1 d.2.2.2.2.2.2.2.2.2.2.2.2.2.2.2.1 d.2.2.2.2.2.2.2.2.2.2.2.2.2.2.2.2.1 d.2.2.2.2.2.2.2.2.2.2.2.2.2.2.2.2.2.1 d.2.2.2.2.2.2.2.2.2.2.2.2.2.2.2.2.2.2.1 d.2.2.2.2.2.2.2.2.2.2.2.2.2.2.2.2.2.2.2.1 d.2.2.2.2.2.2.2.2.2.2.2.2.2.2.2.2.2.2.2.2.1 d.2.2.2.2.2.2.2.2.2.2.2.2.2.2.2.2.2.2.2.2.2.1 d.2.2.2.2.2.2.2.2.2.2.2.2.2.2.2.2.2.2.2.2.2.2.1 d.2.2.2.2.2.2.2.2.2.2.2.2.2.2.2.2.2.2.2.2.2.2.2.1 d.2.2.2.2.2.2.2.2.2.2.2.2.2.2.2.2.2.2.2.2.2.2.2.2.1 d.2.2.2.2.2.2.2.2.2.2.2.2.2.2.2.2.2.2.2.2.2.2.2.2.2.1 hc)
/- jobmux/jobmuxlaw22.sane -/
noncomputable def l_sane : Nat → Option LoopSpec := (fun _ => none)
noncomputable def b_sane : Code := (Try.f6.body).getD .skip
noncomputable def Γ_sane : Env := fun f => if f = 9 then some lnewS else if f = 10 then some spawnS else if f = 11 then some spawnedS else if f = 13 then some exitS else none
theorem e_sane : EnvOk Try.prog Γ_sane := by
  intro f G h
  unfold Γ_sane at h
  split at h
  · rename_i hf; subst hf; cases h; exact ok_lnew
  split at h
  · rename_i hf; subst hf; cases h; exact ok_spawn
  split at h
  · rename_i hf; subst hf; cases h; exact ok_spawned
  split at h
  · rename_i hf; subst hf; cases h; exact ok_exit
  cases h
theorem x_sane  : execF Δ0 Γ_sane l_sane b_sane Try.f6.results Try.f6.ntmps [] [] = m_sane  := by kernel_rfl
theorem ok_sane : CallOk Try.prog 6 saneS := by
  refine callOk_of_exec (mask := []) (fn := Try.f6) (code := b_sane) (Λ := l_sane) mixed tys e_sane Try.func6 (by kernel_rfl) (by kernel_rfl) fun xs c dc r hG hc => ?_
  unfold saneS at hG
  split at hG
  · cases hG
    exact (x_sane ).trans (p_sane  hc)
  · cases hG
/- jobmux/jobmuxlaw22.LifeWaits -/
noncomputable def l_lifeWaits (k0 : Nat) (k1 : Nat) : Nat → Option LoopSpec := (fun n => match n with | 0 => some ⟨sh_lifeWaits_0, fun _ => k0⟩ | 1 => some ⟨sh_lifeWaits_1, fun _ => k1⟩ | _ => none)
noncomputable def b_lifeWaits : Code := (Try.f3.body).getD .skip
noncomputable def Γ_lifeWaits : Env := fun f => if f = 6 then some saneS else if f = 7 then some newS else if f = 8 then some jobS else if f = 9 then some lnewS else if f = 10 then some spawnS else if f = 11 then some spawnedS else if f = 12 then some dnxtS else if f = 13 then some exitS else if f = 14 then some Go.Lad.rAddS else if f = 15 then some rdelayS else if f = 16 then some fireS else none
theorem e_lifeWaits : EnvOk Try.prog Γ_lifeWaits := by
  intro f G h
  unfold Γ_lifeWaits at h
  split at h
  · rename_i hf; subst hf; cases h; exact ok_sane
  split at h
  · rename_i hf; subst hf; cases h; exact ok_new
  split at h
  · rename_i hf; subst hf; cases h; exact ok_job
  split at h
  · rename_i hf; subst hf; cases h; exact ok_lnew
  split at h
  · rename_i hf; subst hf; cases h; exact ok_spawn
  split at h
  · rename_i hf; subst hf; cases h; exact ok_spawned
  split at h
  · rename_i hf; subst hf; cases h; exact ok_dnxt
  split at h
  · rename_i hf; subst hf; cases h; exact ok_exit
  split at h
  · rename_i hf; subst hf; cases h; exact Go.Lad.ok_rAdd
  split at h
  · rename_i hf; subst hf; cases h; exact ok_rdelay
  split at h
  · rename_i hf; subst hf; cases h; exact ok_fire
  cases h
theorem x_lifeWaits (k0 : Nat) (k1 : Nat) (m : List Int) (jitter : Int) : execF Δ0 Γ_lifeWaits (l_lifeWaits k0 k1 ) b_lifeWaits Try.f3.results Try.f3.ntmps [] [.val (false, [(none, ⟨.slice (.int .i64), m⟩)]), .val (false, [(none, ⟨.int .u64, jitter⟩)])] = m_lifeWaits k0 k1 m jitter := by kernel_rfl
theorem lifeWaits_true (d : Tup [.slice (.int .i64), .int .u64]) (h : WfT [.slice (.int .i64), .int .u64] d) : execF Δ0 Γ_lifeWaits (l_lifeWaits 10 10 ) b_lifeWaits Try.f3.results Try.f3.ntmps [] (argsT [.slice (.int .i64), .int .u64] [false, false] d) = resB true :=
  (x_lifeWaits 10 10 d.1 d.2.1).trans (p_lifeWaits d.1 d.2.1 h)
/- jobmux/jobmuxlaw22.LifeClimbs -/
noncomputable def l_lifeClimbs (k0 : Nat) : Nat → Option LoopSpec := (fun n => match n with | 0 => some ⟨sh_lifeClimbs_0, fun _ => k0⟩ | _ => none)
noncomputable def b_lifeClimbs : Code := (Try.f4.body).getD .skip
noncomputable def Γ_lifeClimbs : Env := fun f => if f = 6 then some saneS else if f = 7 then some newS else if f = 8 then some jobS else if f = 9 then some lnewS else if f = 10 then some spawnS else if f = 11 then some spawnedS else if f = 13 then some exitS else if f = 16 then some fireS else if f = 17 then some stopS else if f = 18 then some Go.Lad.rstepsS else if f = 19 then some liveS else none
theorem e_lifeClimbs : EnvOk Try.prog Γ_lifeClimbs := by
  intro f G h
  unfold Γ_lifeClimbs at h
  split at h
  · rename_i hf; subst hf; cases h; exact ok_sane
  split at h
  · rename_i hf; subst hf; cases h; exact ok_new
  split at h
  · rename_i hf; subst hf; cases h; exact ok_job
  split at h
  · rename_i hf; subst hf; cases h; exact ok_lnew
  split at h
  · rename_i hf; subst hf; cases h; exact ok_spawn
  split at h
  · rename_i hf; subst hf; cases h; exact ok_spawned
  split at h
  · rename_i hf; subst hf; cases h; exact ok_exit
  split at h
  · rename_i hf; subst hf; cases h; exact ok_fire
  split at h
  · rename_i hf; subst hf; cases h; exact ok_stop
  split at h
  · rename_i hf; subst hf; cases h; exact Go.Lad.ok_rsteps
  split at h
  · rename_i hf; subst hf; cases h; exact ok_live
  cases h
theorem x_lifeClimbs (k0 : Nat) (m : List Int) (now : Int) : execF Δ0 Γ_lifeClimbs (l_lifeClimbs k0 ) b_lifeClimbs Try.f4.results Try.f4.ntmps [] [.val (false, [(none, ⟨.slice (.int .i64), m⟩)]), .val (false, [(none, ⟨.int .u64, now⟩)])] = m_lifeClimbs k0 m now := by kernel_rfl
theorem lifeClimbs_true (d : Tup [.slice (.int .i64), .int .u64]) (h : WfT [.slice (.int .i64), .int .u64] d) : execF Δ0 Γ_lifeClimbs (l_lifeClimbs 10 ) b_lifeClimbs Try.f4.results Try.f4.ntmps [] (argsT [.slice (.int .i64), .int .u64] [false, false] d) = resB true :=
  (x_lifeClimbs 10 d.1 d.2.1).trans (p_lifeClimbs d.1 d.2.1 h)
/- jobmux/jobmuxlaw22.LifeHalts -/
noncomputable def l_lifeHalts : Nat → Option LoopSpec := (fun _ => none)
noncomputable def b_lifeHalts : Code := (Try.f5.body).getD .skip
noncomputable def Γ_lifeHalts : Env := fun f => if f = 6 then some saneS else if f = 7 then some newS else if f = 8 then some jobS else if f = 9 then some lnewS else if f = 10 then some spawnS else if f = 11 then some spawnedS else if f = 13 then some exitS else if f = 17 then some stopS else if f = 20 then some restartS else none
theorem e_lifeHalts : EnvOk Try.prog Γ_lifeHalts := by
  intro f G h
  unfold Γ_lifeHalts at h
  split at h
  · rename_i hf; subst hf; cases h; exact ok_sane
  split at h
  · rename_i hf; subst hf; cases h; exact ok_new
  split at h
  · rename_i hf; subst hf; cases h; exact ok_job
  split at h
  · rename_i hf; subst hf; cases h; exact ok_lnew
  split at h
  · rename_i hf; subst hf; cases h; exact ok_spawn
  split at h
  · rename_i hf; subst hf; cases h; exact ok_spawned
  split at h
  · rename_i hf; subst hf; cases h; exact ok_exit
  split at h
  · rename_i hf; subst hf; cases h; exact ok_stop
  split at h
  · rename_i hf; subst hf; cases h; exact ok_restart
  cases h
theorem x_lifeHalts (m : List Int) (again : Bool) (ok : Bool) (now : Int) : execF Δ0 Γ_lifeHalts l_lifeHalts b_lifeHalts Try.f5.results Try.f5.ntmps [] [.val (false, [(none, ⟨.slice (.int .i64), m⟩)]), .val (false, [(none, ⟨.bool, again⟩)]), .val (false, [(none, ⟨.bool, ok⟩)]), .val (false, [(none, ⟨.int .u64, now⟩)])] = m_lifeHalts m again ok now := by kernel_rfl
theorem lifeHalts_true (d : Tup [.slice (.int .i64), .bool, .bool, .int .u64]) (h : WfT [.slice (.int .i64), .bool, .bool, .int .u64] d) : execF Δ0 Γ_lifeHalts l_lifeHalts b_lifeHalts Try.f5.results Try.f5.ntmps [] (argsT [.slice (.int .i64), .bool, .bool, .int .u64] [false, false, false, false] d) = resB true :=
  (x_lifeHalts d.1 d.2.1 d.2.2.1 d.2.2.2.1).trans (p_lifeHalts d.1 d.2.1 d.2.2.1 d.2.2.2.1 h)
end Go.Lif
