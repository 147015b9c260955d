/- Calls of the named Go functions come to what their models tell, and the rows of laws: Rlq. -/

import Derived.Test.YtlcibodnpogfhaaTy
import Derived.Test.YtlcibodnpogfhaaAbExt
import Derived.Test.YtlcibodnpogfhaaAbArg
import Derived.Test.YtlcibodnpogfhaaRlqP
import Derived.Test.YtlcibodnpogfhaaMilW
import Derived.Test.YtlcibodnpogfhaaRelW
namespace Go.Rlq
open Go.Ab Go.RowKit Go.Proofs Go.YtlcibodnpogfhaaTy Go.Mil Go.Rel
set_option linter.unusedVariables false
set_option linter.unusedSimpArgs false
set_option maxRecDepth 1000000
set_option maxHeartbeats 8000000
/- jobmux/jobmuxmill.Jobs -/
noncomputable def l_jobsO (k0 : Nat) : Nat → Option LoopSpec := (fun n => match n with | 0 => some ⟨sh_jobsO_0, fun _ => k0⟩ | _ => none)
noncomputable def b_jobsO : Code := (Try.f17.body).getD .skip
noncomputable def Γ_jobsO : Env := fun f => if f = 21 then some Go.Mil.dnxtS else if f = 37 then some Go.Mil.drngS else if f = 38 then some Go.Mil.jobS else none
theorem e_jobsO : EnvOk Try.prog Γ_jobsO := by
  intro f G h
  unfold Γ_jobsO at h
  split at h
  · rename_i hf; subst hf; cases h; exact Go.Mil.ok_dnxt
  split at h
  · rename_i hf; subst hf; cases h; exact Go.Mil.ok_drng
  split at h
  · rename_i hf; subst hf; cases h; exact Go.Mil.ok_job
  cases h
theorem x_jobsO (k0 : Nat) (d_0 : List Int) (d_1 : Int) : execF Δ0 Γ_jobsO (l_jobsO k0 ) b_jobsO Try.f17.results Try.f17.ntmps [] [.box [(none, ⟨.slice (.int .i64), d_0⟩), (none, ⟨.int .i64, d_1⟩)]] = m_jobsO k0 d_0 d_1 := by kernel_rfl
theorem ok_jobsO : CallOk Try.prog 17 jobsOS := by
  refine callOk_of_exec (mask := []) (fn := Try.f17) (code := b_jobsO) (Λ := (l_jobsO 10 )) mixed tys e_jobsO Try.func17 (by kernel_rfl) (by kernel_rfl) fun xs c dc r hG hc => ?_
  unfold jobsOS at hG
  split at hG
  · cases hG
    exact (x_jobsO 10 _ _).trans (p_jobsO _ _ hc)
  · cases hG
/- jobmux/jobmuxmill.Name -/
noncomputable def l_name : Nat → Option LoopSpec := (fun _ => none)
noncomputable def b_name : Code := (Try.f32.body).getD .skip
noncomputable def Γ_name : Env := fun f => if f = 21 then some Go.Mil.dnxtS else none
theorem e_name : EnvOk Try.prog Γ_name := by
  intro f G h
  unfold Γ_name at h
  split at h
  · rename_i hf; subst hf; cases h; exact Go.Mil.ok_dnxt
  cases h
theorem x_name (d_0 : List Int) (d_1 : Int) : execF Δ0 Γ_name l_name b_name Try.f32.results Try.f32.ntmps [] [.box [(none, ⟨.slice (.int .i64), d_0⟩), (none, ⟨.int .i64, d_1⟩)]] = m_name d_0 d_1 := by kernel_rfl
theorem ok_name : CallOk Try.prog 32 nameS := by
  refine callOk_of_exec (mask := []) (fn := Try.f32) (code := b_name) (Λ := l_name) mixed tys e_name Try.func32 (by kernel_rfl) (by kernel_rfl) fun xs c dc r hG hc => ?_
  unfold nameS at hG
  split at hG
  · cases hG
    exact (x_name _ _).trans (p_name _ _ hc)
  · cases hG
/- jobmux/jobmuxmill.Loose -/
noncomputable def l_loose (k0 : Nat) : Nat → Option LoopSpec := (fun n => match n with | 0 => some ⟨sh_loose_0, fun _ => k0⟩ | _ => none)
noncomputable def b_loose : Code := (Try.f9.body).getD .skip
noncomputable def Γ_loose : Env := fun f => if f = 17 then some jobsOS else if f = 21 then some Go.Mil.dnxtS else if f = 32 then some nameS else none
theorem e_loose : EnvOk Try.prog Γ_loose := by
  intro f G h
  unfold Γ_loose at h
  split at h
  · rename_i hf; subst hf; cases h; exact ok_jobsO
  split at h
  · rename_i hf; subst hf; cases h; exact Go.Mil.ok_dnxt
  split at h
  · rename_i hf; subst hf; cases h; exact ok_name
  cases h
theorem x_loose (k0 : Nat) (d_0 : List Int) (d_1 : Int) : execF Δ0 Γ_loose (l_loose k0 ) b_loose Try.f9.results Try.f9.ntmps [[true]] [.box [(none, ⟨.slice (.int .i64), d_0⟩), (none, ⟨.int .i64, d_1⟩)]] = m_loose k0 d_0 d_1 := by kernel_rfl
theorem ok_loose : CallOk Try.prog 9 looseS := by
  refine callOk_of_exec (mask := [[true]]) (fn := Try.f9) (code := b_loose) (Λ := (l_loose 10 )) mixed tys e_loose Try.func9 (by kernel_rfl) (by kernel_rfl) fun xs c dc r hG hc => ?_
  unfold looseS at hG
  split at hG
  · cases hG
    exact (x_loose 10 _ _).trans (p_loose _ _ hc)
  · cases hG
/- jobmux/jobmuxref06.SameJob -/
noncomputable def l_sj6 (k0 : Nat) (k1 : Nat) (k2 : Nat) : Nat → Option LoopSpec := (fun n => match n with | 0 => some ⟨sh_sj6_0, fun _ => k0⟩ | 1 => some ⟨sh_sj6_1, fun _ => k1⟩ | 2 => some ⟨sh_sj6_2, fun _ => k2⟩ | _ => none)
noncomputable def b_sj6 : Code := (Try.f49.body).getD .skip
noncomputable def Γ_sj6 : Env := fun f => none
theorem e_sj6 : EnvOk Try.prog Γ_sj6 := by
  intro f G h
  unfold Γ_sj6 at h
  cases h
theorem x_sj6 (k0 : Nat) (k1 : Nat) (k2 : Nat) (a_0 : ByteArray) (a_1 : ByteArray) (a_2 : List (ByteArray × (ByteArray × Unit))) (a_3 : List ByteArray) (a_4 : Bool) (a_5 : ByteArray) (a_6 : Int) (a_7 : Int) (a_8 : Int) (a_9 : Int) (a_10 : Int) (a_11 : Int) (a_12 : List (Int × (Int × Unit))) (a_13 : Int) (a_14 : Int) (b_0 : ByteArray) (b_1 : ByteArray) (b_2 : List (ByteArray × (ByteArray × Unit))) (b_3 : List ByteArray) (b_4 : Bool) (b_5 : ByteArray) (b_6 : Int) (b_7 : Int) (b_8 : Int) (b_9 : Int) (b_10 : Int) (b_11 : Int) (b_12 : List (Int × (Int × Unit))) (b_13 : Int) (b_14 : Int) : execF Δ0 Γ_sj6 (l_sj6 k0 k1 k2 ) b_sj6 Try.f49.results Try.f49.ntmps [] [.val (true, [(none, ⟨.str, a_0⟩), (none, ⟨.str, a_1⟩), (none, ⟨.slice (.pair (.str) (.pair (.str) (.unit))), a_2⟩), (none, ⟨.slice (.str), a_3⟩), (none, ⟨.bool, a_4⟩), (none, ⟨.str, a_5⟩), (none, ⟨.int .i64, a_6⟩), (none, ⟨.int .u64, a_7⟩), (none, ⟨.int .u64, a_8⟩), (none, ⟨.int .u64, a_9⟩), (none, ⟨.int .i64, a_10⟩), (none, ⟨.int .u64, a_11⟩), (none, ⟨.slice (.pair (.int .i64) (.pair (.int .u64) (.unit))), a_12⟩), (none, ⟨.int .i64, a_13⟩), (none, ⟨.int .i64, a_14⟩)]), .val (true, [(none, ⟨.str, b_0⟩), (none, ⟨.str, b_1⟩), (none, ⟨.slice (.pair (.str) (.pair (.str) (.unit))), b_2⟩), (none, ⟨.slice (.str), b_3⟩), (none, ⟨.bool, b_4⟩), (none, ⟨.str, b_5⟩), (none, ⟨.int .i64, b_6⟩), (none, ⟨.int .u64, b_7⟩), (none, ⟨.int .u64, b_8⟩), (none, ⟨.int .u64, b_9⟩), (none, ⟨.int .i64, b_10⟩), (none, ⟨.int .u64, b_11⟩), (none, ⟨.slice (.pair (.int .i64) (.pair (.int .u64) (.unit))), b_12⟩), (none, ⟨.int .i64, b_13⟩), (none, ⟨.int .i64, b_14⟩)])] = m_sj6 k0 k1 k2 a_0 a_1 a_2 a_3 a_4 a_5 a_6 a_7 a_8 a_9 a_10 a_11 a_12 a_13 a_14 b_0 b_1 b_2 b_3 b_4 b_5 b_6 b_7 b_8 b_9 b_10 b_11 b_12 b_13 b_14 := by kernel_rfl
theorem ok_sj6 : CallOk Try.prog 49 sj6S := by
  refine callOk_of_exec (mask := []) (fn := Try.f49) (code := b_sj6) (Λ := (l_sj6 300000000000000 300000000000000 300000000000000 )) mixed tys e_sj6 Try.func49 (by kernel_rfl) (by kernel_rfl) fun xs c dc r hG hc => ?_
  unfold sj6S at hG
  cases hu : unpack [.val true [none, none, none, none, none, none, none, none, none, none, none, none, none, none, none], .val true [none, none, none, none, none, none, none, none, none, none, none, none, none, none, none]] [.str, .str, .slice (.pair (.str) (.pair (.str) (.unit))), .slice (.str), .bool, .str, .int .i64, .int .u64, .int .u64, .int .u64, .int .i64, .int .u64, .slice (.pair (.int .i64) (.pair (.int .u64) (.unit))), .int .i64, .int .i64, .str, .str, .slice (.pair (.str) (.pair (.str) (.unit))), .slice (.str), .bool, .str, .int .i64, .int .u64, .int .u64, .int .u64, .int .i64, .int .u64, .slice (.pair (.int .i64) (.pair (.int .u64) (.unit))), .int .i64, .int .i64] xs with
  | none => rw [hu] at hG; cases hG
  | some d =>
    rw [hu] at hG
    cases hG
    have e := unpack_is hu
    subst e
    exact (x_sj6 300000000000000 300000000000000 300000000000000 d.1 d.2.1 d.2.2.1 d.2.2.2.1 d.2.2.2.2.1 d.2.2.2.2.2.1 d.2.2.2.2.2.2.1 d.2.2.2.2.2.2.2.1 d.2.2.2.2.2.2.2.2.1 d.2.2.2.2.2.2.2.2.2.1 d.2.2.2.2.2.2.2.2.2.2.1 d.2.2.2.2.2.2.2.2.2.2.2.1 d.2.2.2.2.2.2.2.2.2.2.2.2.1 d.2.2.2.2.2.2.2.2.2.2.2.2.2.1 d.2.2.2.2.2.2.2.2.2.2.2.2.2.2.1 d.2.2.2.2.2.2.2.2.2.2.2.2.2.2.2.1 d.2.2.2.2.2.2.2.2.2.2.2.2.2.2.2.2.1 d.2.2.2.2.2.2.2.2.2.2.2.2.2.2.2.2.2.1 d.2.2.2.2.2.2.2.2.2.2.2.2.2.2.2.2.2.2.1 d.2.2.2.2.2.2.2.2.2.2.2.2.2.2.2.2.2.2.2.1 d.2.2.2.2.2.2.2.2.2.2.2.2.2.2.2.2.2.2.2.2.1 d.2.2.2.2.2.2.2.2.2.2.2.2.2.2.2.2.2.2.2.2.2.1 d.2.2.2.2.2.2.2.2.2.2.2.2.2.2.2.2.2.2.2.2.2.2.1 d.2.2.2.2.2.2.2.2.2.2.2.2.2.2.2.2.2.2.2.2.2.2.2.1 d.2.2.2.2.2.2.2.2.2.2.2.2.2.2.2.2.2.2.2.2.2.2.2.2.1 d.2.2.2.2.2.2.2.2.2.2.2.2.2.2.2.2.2.2.2.2.2.2.2.2.2.1 d.2.2.2.2.2.2.2.2.2.2.2.2.2.2.2.2.2.2.2.2.2.2.2.2.2.2.1 d.2.2.2.2.2.2.2.2.2.2.2.2.2.2.2.2.2.2.2.2.2.2.2.2.2.2.2.1 d.2.2.2.2.2.2.2.2.2.2.2.2.2.2.2.2.2.2.2.2.2.2.2.2.2.2.2.2.1 d.2.2.2.2.2.2.2.2.2.2.2.2.2.2.2.2.2.2.2.2.2.2.2.2.2.2.2.2.2.1).trans (p_sj6 d.1 d.2.1 d.2.2.1 d.2.2.2.1 d.2.2.2.2.1 d.2.2.2.2.2.1 d.2.2.2.2.2.2.1 d.2.2.2.2.2.2.2.1 d.2.2.2.2.2.2.2.2.1 d.2.2.2.2.2.2.2.2.2.1 d.2.2.2.2.2.2.2.2.2.2.1 d.2.2.2.2.2.2.2.2.2.2.2.1 d.2.2.2.2.2.2.2.2.2.2.2.2.1 d.2.2.2.2.2.2.2.2.2.2.2.2.2.1 d.2.2.2.2.2.2.2.2.2.2.2.2.2.2.1 d.2.2.2.2.2.2.2.2.2.2.2.2.2.2.2.1 d.2.2.2.2.2.2.2.2.2.2.2.2.2.2.2.2.1 d.2.2.2.2.2.2.2.2.2.2.2.2.2.2.2.2.2.1 d.2.2.2.2.2.2.2.2.2.2.2.2.2.2.2.2.2.2.1 d.2.2.2.2.2.2.2.2.2.2.2.2.2.2.2.2.2.2.2.1 d.2.2.2.2.2.2.2.2.2.2.2.2.2.2.2.2.2.2.2.2.1 d.2.2.2.2.2.2.2.2.2.2.2.2.2.2.2.2.2.2.2.2.2.1 d.2.2.2.2.2.2.2.2.2.2.2.2.2.2.2.2.2.2.2.2.2.2.1 d.2.2.2.2.2.2.2.2.2.2.2.2.2.2.2.2.2.2.2.2.2.2.2.1 d.2.2.2.2.2.2.2.2.2.2.2.2.2.2.2.2.2.2.2.2.2.2.2.2.1 d.2.2.2.2.2.2.2.2.2.2.2.2.2.2.2.2.2.2.2.2.2.2.2.2.2.1 d.2.2.2.2.2.2.2.2.2.2.2.2.2.2.2.2.2.2.2.2.2.2.2.2.2.2.1 d.2.2.2.2.2.2.2.2.2.2.2.2.2.2.2.2.2.2.2.2.2.2.2.2.2.2.2.1 d.2.2.2.2.2.2.2.2.2.2.2.2.2.2.2.2.2.2.2.2.2.2.2.2.2.2.2.2.1 d.2.2.2.2.2.2.2.2.2.2.2.2.2.2.2.2.2.2.2.2.2.2.2.2.2.2.2.2.2.1 hc)
/- jobmux/jobmuxref13.SameJob -/
noncomputable def l_sj13 : Nat → Option LoopSpec := (fun _ => none)
noncomputable def b_sj13 : Code := (Try.f36.body).getD .skip
noncomputable def Γ_sj13 : Env := fun f => if f = 49 then some sj6S else none
theorem e_sj13 : EnvOk Try.prog Γ_sj13 := by
  intro f G h
  unfold Γ_sj13 at h
  split at h
  · rename_i hf; subst hf; cases h; exact ok_sj6
  cases h
theorem x_sj13 (a_0 : ByteArray) (a_1 : ByteArray) (a_2 : List (ByteArray × (ByteArray × Unit))) (a_3 : List ByteArray) (a_4 : Bool) (a_5 : ByteArray) (a_6 : Int) (a_7 : Int) (a_8 : Int) (a_9 : Int) (a_10 : Int) (a_11 : Int) (a_12 : List (Int × (Int × Unit))) (a_13 : Int) (a_14 : Int) (b_0 : ByteArray) (b_1 : ByteArray) (b_2 : List (ByteArray × (ByteArray × Unit))) (b_3 : List ByteArray) (b_4 : Bool) (b_5 : ByteArray) (b_6 : Int) (b_7 : Int) (b_8 : Int) (b_9 : Int) (b_10 : Int) (b_11 : Int) (b_12 : List (Int × (Int × Unit))) (b_13 : Int) (b_14 : Int) : execF Δ0 Γ_sj13 l_sj13 b_sj13 Try.f36.results Try.f36.ntmps [] [.val (true, [(none, ⟨.str, a_0⟩), (none, ⟨.str, a_1⟩), (none, ⟨.slice (.pair (.str) (.pair (.str) (.unit))), a_2⟩), (none, ⟨.slice (.str), a_3⟩), (none, ⟨.bool, a_4⟩), (none, ⟨.str, a_5⟩), (none, ⟨.int .i64, a_6⟩), (none, ⟨.int .u64, a_7⟩), (none, ⟨.int .u64, a_8⟩), (none, ⟨.int .u64, a_9⟩), (none, ⟨.int .i64, a_10⟩), (none, ⟨.int .u64, a_11⟩), (none, ⟨.slice (.pair (.int .i64) (.pair (.int .u64) (.unit))), a_12⟩), (none, ⟨.int .i64, a_13⟩), (none, ⟨.int .i64, a_14⟩)]), .val (true, [(none, ⟨.str, b_0⟩), (none, ⟨.str, b_1⟩), (none, ⟨.slice (.pair (.str) (.pair (.str) (.unit))), b_2⟩), (none, ⟨.slice (.str), b_3⟩), (none, ⟨.bool, b_4⟩), (none, ⟨.str, b_5⟩), (none, ⟨.int .i64, b_6⟩), (none, ⟨.int .u64, b_7⟩), (none, ⟨.int .u64, b_8⟩), (none, ⟨.int .u64, b_9⟩), (none, ⟨.int .i64, b_10⟩), (none, ⟨.int .u64, b_11⟩), (none, ⟨.slice (.pair (.int .i64) (.pair (.int .u64) (.unit))), b_12⟩), (none, ⟨.int .i64, b_13⟩), (none, ⟨.int .i64, b_14⟩)])] = m_sj13 a_0 a_1 a_2 a_3 a_4 a_5 a_6 a_7 a_8 a_9 a_10 a_11 a_12 a_13 a_14 b_0 b_1 b_2 b_3 b_4 b_5 b_6 b_7 b_8 b_9 b_10 b_11 b_12 b_13 b_14 := by kernel_rfl
theorem ok_sj13 : CallOk Try.prog 36 sj13S := by
  refine callOk_of_exec (mask := []) (fn := Try.f36) (code := b_sj13) (Λ := l_sj13) mixed tys e_sj13 Try.func36 (by kernel_rfl) (by kernel_rfl) fun xs c dc r hG hc => ?_
  unfold sj13S at hG
  cases hu : unpack [.val true [none, none, none, none, none, none, none, none, none, none, none, none, none, none, none], .val true [none, none, none, none, none, none, none, none, none, none, none, none, none, none, none]] [.str, .str, .slice (.pair (.str) (.pair (.str) (.unit))), .slice (.str), .bool, .str, .int .i64, .int .u64, .int .u64, .int .u64, .int .i64, .int .u64, .slice (.pair (.int .i64) (.pair (.int .u64) (.unit))), .int .i64, .int .i64, .str, .str, .slice (.pair (.str) (.pair (.str) (.unit))), .slice (.str), .bool, .str, .int .i64, .int .u64, .int .u64, .int .u64, .int .i64, .int .u64, .slice (.pair (.int .i64) (.pair (.int .u64) (.unit))), .int .i64, .int .i64] xs with
  | none => rw [hu] at hG; cases hG
  | some d =>
    rw [hu] at hG
    cases hG
    have e := unpack_is hu
    subst e
    exact (x_sj13 d.1 d.2.1 d.2.2.1 d.2.2.2.1 d.2.2.2.2.1 d.2.2.2.2.2.1 d.2.2.2.2.2.2.1 d.2.2.2.2.2.2.2.1 d.2.2.2.2.2.2.2.2.1 d.2.2.2.2.2.2.2.2.2.1 d.2.2.2.2.2.2.2.2.2.2.1 d.2.2.2.2.2.2.2.2.2.2.2.1 d.2.2.2.2.2.2.2.2.2.2.2.2.1 d.2.2.2.2.2.2.2.2.2.2.2.2.2.1 d.2.2.2.2.2.2.2.2.2.2.2.2.2.2.1 d.2.2.2.2.2.2.2.2.2.2.2.2.2.2.2.1 d.2.2.2.2.2.2.2.2.2.2.2.2.2.2.2.2.1 d.2.2.2.2.2.2.2.2.2.2.2.2.2.2.2.2.2.1 d.2.2.2.2.2.2.2.2.2.2.2.2.2.2.2.2.2.2.1 d.2.2.2.2.2.2.2.2.2.2.2.2.2.2.2.2.2.2.2.1 d.2.2.2.2.2.2.2.2.2.2.2.2.2.2.2.2.2.2.2.2.1 d.2.2.2.2.2.2.2.2.2.2.2.2.2.2.2.2.2.2.2.2.2.1 d.2.2.2.2.2.2.2.2.2.2.2.2.2.2.2.2.2.2.2.2.2.2.1 d.2.2.2.2.2.2.2.2.2.2.2.2.2.2.2.2.2.2.2.2.2.2.2.1 d.2.2.2.2.2.2.2.2.2.2.2.2.2.2.2.2.2.2.2.2.2.2.2.2.1 d.2.2.2.2.2.2.2.2.2.2.2.2.2.2.2.2.2.2.2.2.2.2.2.2.2.1 d.2.2.2.2.2.2.2.2.2.2.2.2.2.2.2.2.2.2.2.2.2.2.2.2.2.2.1 d.2.2.2.2.2.2.2.2.2.2.2.2.2.2.2.2.2.2.2.2.2.2.2.2.2.2.2.1 d.2.2.2.2.2.2.2.2.2.2.2.2.2.2.2.2.2.2.2.2.2.2.2.2.2.2.2.2.1 d.2.2.2.2.2.2.2.2.2.2.2.2.2.2.2.2.2.2.2.2.2.2.2.2.2.2.2.2.2.1).trans (p_sj13 d.1 d.2.1 d.2.2.1 d.2.2.2.1 d.2.2.2.2.1 d.2.2.2.2.2.1 d.2.2.2.2.2.2.1 d.2.2.2.2.2.2.2.1 d.2.2.2.2.2.2.2.2.1 d.2.2.2.2.2.2.2.2.2.1 d.2.2.2.2.2.2.2.2.2.2.1 d.2.2.2.2.2.2.2.2.2.2.2.1 d.2.2.2.2.2.2.2.2.2.2.2.2.1 d.2.2.2.2.2.2.2.2.2.2.2.2.2.1 d.2.2.2.2.2.2.2.2.2.2.2.2.2.2.1 d.2.2.2.2.2.2.2.2.2.2.2.2.2.2.2.1 d.2.2.2.2.2.2.2.2.2.2.2.2.2.2.2.2.1 d.2.2.2.2.2.2.2.2.2.2.2.2.2.2.2.2.2.1 d.2.2.2.2.2.2.2.2.2.2.2.2.2.2.2.2.2.2.1 d.2.2.2.2.2.2.2.2.2.2.2.2.2.2.2.2.2.2.2.1 d.2.2.2.2.2.2.2.2.2.2.2.2.2.2.2.2.2.2.2.2.1 d.2.2.2.2.2.2.2.2.2.2.2.2.2.2.2.2.2.2.2.2.2.1 d.2.2.2.2.2.2.2.2.2.2.2.2.2.2.2.2.2.2.2.2.2.2.1 d.2.2.2.2.2.2.2.2.2.2.2.2.2.2.2.2.2.2.2.2.2.2.2.1 d.2.2.2.2.2.2.2.2.2.2.2.2.2.2.2.2.2.2.2.2.2.2.2.2.1 d.2.2.2.2.2.2.2.2.2.2.2.2.2.2.2.2.2.2.2.2.2.2.2.2.2.1 d.2.2.2.2.2.2.2.2.2.2.2.2.2.2.2.2.2.2.2.2.2.2.2.2.2.2.1 d.2.2.2.2.2.2.2.2.2.2.2.2.2.2.2.2.2.2.2.2.2.2.2.2.2.2.2.1 d.2.2.2.2.2.2.2.2.2.2.2.2.2.2.2.2.2.2.2.2.2.2.2.2.2.2.2.2.1 d.2.2.2.2.2.2.2.2.2.2.2.2.2.2.2.2.2.2.2.2.2.2.2.2.2.2.2.2.2.1 hc)
/- jobmux/jobmuxref23.Same -/
noncomputable def l_rsame : Nat → Option LoopSpec := (fun _ => none)
noncomputable def b_rsame : Code := (Try.f16.body).getD .skip
noncomputable def Γ_rsame : Env := fun f => if f = 36 then some sj13S else none
theorem e_rsame : EnvOk Try.prog Γ_rsame := by
  intro f G h
  unfold Γ_rsame at h
  split at h
  · rename_i hf; subst hf; cases h; exact ok_sj13
  cases h
theorem x_rsame (a_0 : ByteArray) (a_1 : ByteArray) (a_2 : List (ByteArray × (ByteArray × Unit))) (a_3 : List ByteArray) (a_4 : Bool) (a_5 : ByteArray) (a_6 : Int) (a_7 : Int) (a_8 : Int) (a_9 : Int) (a_10 : Int) (a_11 : Int) (a_12 : List (Int × (Int × Unit))) (a_13 : Int) (a_14 : Int) (b_0 : ByteArray) (b_1 : ByteArray) (b_2 : List (ByteArray × (ByteArray × Unit))) (b_3 : List ByteArray) (b_4 : Bool) (b_5 : ByteArray) (b_6 : Int) (b_7 : Int) (b_8 : Int) (b_9 : Int) (b_10 : Int) (b_11 : Int) (b_12 : List (Int × (Int × Unit))) (b_13 : Int) (b_14 : Int) : execF Δ0 Γ_rsame l_rsame b_rsame Try.f16.results Try.f16.ntmps [] [.val (true, [(none, ⟨.str, a_0⟩), (none, ⟨.str, a_1⟩), (none, ⟨.slice (.pair (.str) (.pair (.str) (.unit))), a_2⟩), (none, ⟨.slice (.str), a_3⟩), (none, ⟨.bool, a_4⟩), (none, ⟨.str, a_5⟩), (none, ⟨.int .i64, a_6⟩), (none, ⟨.int .u64, a_7⟩), (none, ⟨.int .u64, a_8⟩), (none, ⟨.int .u64, a_9⟩), (none, ⟨.int .i64, a_10⟩), (none, ⟨.int .u64, a_11⟩), (none, ⟨.slice (.pair (.int .i64) (.pair (.int .u64) (.unit))), a_12⟩), (none, ⟨.int .i64, a_13⟩), (none, ⟨.int .i64, a_14⟩)]), .val (true, [(none, ⟨.str, b_0⟩), (none, ⟨.str, b_1⟩), (none, ⟨.slice (.pair (.str) (.pair (.str) (.unit))), b_2⟩), (none, ⟨.slice (.str), b_3⟩), (none, ⟨.bool, b_4⟩), (none, ⟨.str, b_5⟩), (none, ⟨.int .i64, b_6⟩), (none, ⟨.int .u64, b_7⟩), (none, ⟨.int .u64, b_8⟩), (none, ⟨.int .u64, b_9⟩), (none, ⟨.int .i64, b_10⟩), (none, ⟨.int .u64, b_11⟩), (none, ⟨.slice (.pair (.int .i64) (.pair (.int .u64) (.unit))), b_12⟩), (none, ⟨.int .i64, b_13⟩), (none, ⟨.int .i64, b_14⟩)])] = m_rsame a_0 a_1 a_2 a_3 a_4 a_5 a_6 a_7 a_8 a_9 a_10 a_11 a_12 a_13 a_14 b_0 b_1 b_2 b_3 b_4 b_5 b_6 b_7 b_8 b_9 b_10 b_11 b_12 b_13 b_14 := by kernel_rfl
theorem ok_rsame : CallOk Try.prog 16 rsameS := by
  refine callOk_of_exec (mask := []) (fn := Try.f16) (code := b_rsame) (Λ := l_rsame) mixed tys e_rsame Try.func16 (by kernel_rfl) (by kernel_rfl) fun xs c dc r hG hc => ?_
  unfold rsameS at hG
  cases hu : unpack [.val true [none, none, none, none, none, none, none, none, none, none, none, none, none, none, none], .val true [none, none, none, none, none, none, none, none, none, none, none, none, none, none, none]] [.str, .str, .slice (.pair (.str) (.pair (.str) (.unit))), .slice (.str), .bool, .str, .int .i64, .int .u64, .int .u64, .int .u64, .int .i64, .int .u64, .slice (.pair (.int .i64) (.pair (.int .u64) (.unit))), .int .i64, .int .i64, .str, .str, .slice (.pair (.str) (.pair (.str) (.unit))), .slice (.str), .bool, .str, .int .i64, .int .u64, .int .u64, .int .u64, .int .i64, .int .u64, .slice (.pair (.int .i64) (.pair (.int .u64) (.unit))), .int .i64, .int .i64] xs with
  | none => rw [hu] at hG; cases hG
  | some d =>
    rw [hu] at hG
    cases hG
    have e := unpack_is hu
    subst e
    exact (x_rsame d.1 d.2.1 d.2.2.1 d.2.2.2.1 d.2.2.2.2.1 d.2.2.2.2.2.1 d.2.2.2.2.2.2.1 d.2.2.2.2.2.2.2.1 d.2.2.2.2.2.2.2.2.1 d.2.2.2.2.2.2.2.2.2.1 d.2.2.2.2.2.2.2.2.2.2.1 d.2.2.2.2.2.2.2.2.2.2.2.1 d.2.2.2.2.2.2.2.2.2.2.2.2.1 d.2.2.2.2.2.2.2.2.2.2.2.2.2.1 d.2.2.2.2.2.2.2.2.2.2.2.2.2.2.1 d.2.2.2.2.2.2.2.2.2.2.2.2.2.2.2.1 d.2.2.2.2.2.2.2.2.2.2.2.2.2.2.2.2.1 d.2.2.2.2.2.2.2.2.2.2.2.2.2.2.2.2.2.1 d.2.2.2.2.2.2.2.2.2.2.2.2.2.2.2.2.2.2.1 d.2.2.2.2.2.2.2.2.2.2.2.2.2.2.2.2.2.2.2.1 d.2.2.2.2.2.2.2.2.2.2.2.2.2.2.2.2.2.2.2.2.1 d.2.2.2.2.2.2.2.2.2.2.2.2.2.2.2.2.2.2.2.2.2.1 d.2.2.2.2.2.2.2.2.2.2.2.2.2.2.2.2.2.2.2.2.2.2.1 d.2.2.2.2.2.2.2.2.2.2.2.2.2.2.2.2.2.2.2.2.2.2.2.1 d.2.2.2.2.2.2.2.2.2.2.2.2.2.2.2.2.2.2.2.2.2.2.2.2.1 d.2.2.2.2.2.2.2.2.2.2.2.2.2.2.2.2.2.2.2.2.2.2.2.2.2.1 d.2.2.2.2.2.2.2.2.2.2.2.2.2.2.2.2.2.2.2.2.2.2.2.2.2.2.1 d.2.2.2.2.2.2.2.2.2.2.2.2.2.2.2.2.2.2.2.2.2.2.2.2.2.2.2.1 d.2.2.2.2.2.2.2.2.2.2.2.2.2.2.2.2.2.2.2.2.2.2.2.2.2.2.2.2.1 d.2.2.2.2.2.2.2.2.2.2.2.2.2.2.2.2.2.2.2.2.2.2.2.2.2.2.2.2.2.1).trans (p_rsame d.1 d.2.1 d.2.2.1 d.2.2.2.1 d.2.2.2.2.1 d.2.2.2.2.2.1 d.2.2.2.2.2.2.1 d.2.2.2.2.2.2.2.1 d.2.2.2.2.2.2.2.2.1 d.2.2.2.2.2.2.2.2.2.1 d.2.2.2.2.2.2.2.2.2.2.1 d.2.2.2.2.2.2.2.2.2.2.2.1 d.2.2.2.2.2.2.2.2.2.2.2.2.1 d.2.2.2.2.2.2.2.2.2.2.2.2.2.1 d.2.2.2.2.2.2.2.2.2.2.2.2.2.2.1 d.2.2.2.2.2.2.2.2.2.2.2.2.2.2.2.1 d.2.2.2.2.2.2.2.2.2.2.2.2.2.2.2.2.1 d.2.2.2.2.2.2.2.2.2.2.2.2.2.2.2.2.2.1 d.2.2.2.2.2.2.2.2.2.2.2.2.2.2.2.2.2.2.1 d.2.2.2.2.2.2.2.2.2.2.2.2.2.2.2.2.2.2.2.1 d.2.2.2.2.2.2.2.2.2.2.2.2.2.2.2.2.2.2.2.2.1 d.2.2.2.2.2.2.2.2.2.2.2.2.2.2.2.2.2.2.2.2.2.1 d.2.2.2.2.2.2.2.2.2.2.2.2.2.2.2.2.2.2.2.2.2.2.1 d.2.2.2.2.2.2.2.2.2.2.2.2.2.2.2.2.2.2.2.2.2.2.2.1 d.2.2.2.2.2.2.2.2.2.2.2.2.2.2.2.2.2.2.2.2.2.2.2.2.1 d.2.2.2.2.2.2.2.2.2.2.2.2.2.2.2.2.2.2.2.2.2.2.2.2.2.1 d.2.2.2.2.2.2.2.2.2.2.2.2.2.2.2.2.2.2.2.2.2.2.2.2.2.2.1 d.2.2.2.2.2.2.2.2.2.2.2.2.2.2.2.2.2.2.2.2.2.2.2.2.2.2.2.1 d.2.2.2.2.2.2.2.2.2.2.2.2.2.2.2.2.2.2.2.2.2.2.2.2.2.2.2.2.1 d.2.2.2.2.2.2.2.2.2.2.2.2.2.2.2.2.2.2.2.2.2.2.2.2.2.2.2.2.2.1 hc)
/- jobmux/jobmuxref23.place -/
noncomputable def l_place (k0 : Nat) : Nat → Option LoopSpec := (fun n => match n with | 0 => some ⟨sh_place_0, fun _ => k0⟩ | _ => none)
noncomputable def b_place : Code := (Try.f34.body).getD .skip
noncomputable def Γ_place : Env := fun f => none
theorem e_place : EnvOk Try.prog Γ_place := by
  intro f G h
  unfold Γ_place at h
  cases h
theorem x_place (k0 : Nat) (l : List (ByteArray × (ByteArray × ((List (ByteArray × (ByteArray × Unit))) × ((List ByteArray) × (Bool × (ByteArray × (Int × (Int × (Int × (Int × (Int × (Int × ((List (Int × (Int × Unit))) × (Int × (Int × Unit)))))))))))))))) (name : ByteArray) : execF Δ0 Γ_place (l_place k0 ) b_place Try.f34.results Try.f34.ntmps [] [.val (false, [(none, ⟨.slice (.pair (.str) (.pair (.str) (.pair (.slice (.pair (.str) (.pair (.str) (.unit)))) (.pair (.slice (.str)) (.pair (.bool) (.pair (.str) (.pair (.int .i64) (.pair (.int .u64) (.pair (.int .u64) (.pair (.int .u64) (.pair (.int .i64) (.pair (.int .u64) (.pair (.slice (.pair (.int .i64) (.pair (.int .u64) (.unit)))) (.pair (.int .i64) (.pair (.int .i64) (.unit)))))))))))))))), l⟩)]), .val (false, [(none, ⟨.str, name⟩)])] = m_place k0 l name := by kernel_rfl
theorem ok_place : CallOk Try.prog 34 placeS := by
  refine callOk_of_exec (mask := []) (fn := Try.f34) (code := b_place) (Λ := (l_place 2000000 )) mixed tys e_place Try.func34 (by kernel_rfl) (by kernel_rfl) fun xs c dc r hG hc => ?_
  unfold placeS at hG
  split at hG
  · cases hG
    exact (x_place 2000000 _ _).trans (p_place _ _ hc)
  · cases hG
/- jobmux/jobmuxref23.Plan -/
noncomputable def l_rplan (k0 : Nat) (k1 : Nat) : Nat → Option LoopSpec := (fun n => match n with | 0 => some ⟨sh_rplan_0, fun _ => k0⟩ | 1 => some ⟨sh_rplan_1, fun _ => k1⟩ | _ => none)
noncomputable def b_rplan : Code := (Try.f14.body).getD .skip
noncomputable def Γ_rplan : Env := fun f => if f = 16 then some rsameS else if f = 34 then some placeS else none
theorem e_rplan : EnvOk Try.prog Γ_rplan := by
  intro f G h
  unfold Γ_rplan at h
  split at h
  · rename_i hf; subst hf; cases h; exact ok_rsame
  split at h
  · rename_i hf; subst hf; cases h; exact ok_place
  cases h
theorem x_rplan (k0 : Nat) (k1 : Nat) (old : List (ByteArray × (ByteArray × ((List (ByteArray × (ByteArray × Unit))) × ((List ByteArray) × (Bool × (ByteArray × (Int × (Int × (Int × (Int × (Int × (Int × ((List (Int × (Int × Unit))) × (Int × (Int × Unit)))))))))))))))) (next : List (ByteArray × (ByteArray × ((List (ByteArray × (ByteArray × Unit))) × ((List ByteArray) × (Bool × (ByteArray × (Int × (Int × (Int × (Int × (Int × (Int × ((List (Int × (Int × Unit))) × (Int × (Int × Unit)))))))))))))))) : execF Δ0 Γ_rplan (l_rplan k0 k1 ) b_rplan Try.f14.results Try.f14.ntmps [[true]] [.val (false, [(none, ⟨.slice (.pair (.str) (.pair (.str) (.pair (.slice (.pair (.str) (.pair (.str) (.unit)))) (.pair (.slice (.str)) (.pair (.bool) (.pair (.str) (.pair (.int .i64) (.pair (.int .u64) (.pair (.int .u64) (.pair (.int .u64) (.pair (.int .i64) (.pair (.int .u64) (.pair (.slice (.pair (.int .i64) (.pair (.int .u64) (.unit)))) (.pair (.int .i64) (.pair (.int .i64) (.unit)))))))))))))))), old⟩)]), .val (false, [(none, ⟨.slice (.pair (.str) (.pair (.str) (.pair (.slice (.pair (.str) (.pair (.str) (.unit)))) (.pair (.slice (.str)) (.pair (.bool) (.pair (.str) (.pair (.int .i64) (.pair (.int .u64) (.pair (.int .u64) (.pair (.int .u64) (.pair (.int .i64) (.pair (.int .u64) (.pair (.slice (.pair (.int .i64) (.pair (.int .u64) (.unit)))) (.pair (.int .i64) (.pair (.int .i64) (.unit)))))))))))))))), next⟩)])] = m_rplan k0 k1 old next := by kernel_rfl
theorem ok_rplan : CallOk Try.prog 14 rplanS := by
  refine callOk_of_exec (mask := [[true]]) (fn := Try.f14) (code := b_rplan) (Λ := (l_rplan 2000000 2000000 )) mixed tys e_rplan Try.func14 (by kernel_rfl) (by kernel_rfl) fun xs c dc r hG hc => ?_
  unfold rplanS at hG
  split at hG
  · cases hG
    exact (x_rplan 2000000 2000000 _ _).trans (p_rplan _ _ hc)
  · cases hG
/- jobmux/jobmuxlaw23.ReloadPlans -/
noncomputable def l_reloadPlans (k0 : Nat) (k1 : Nat) : Nat → Option LoopSpec := (fun n => match n with | 0 => some ⟨sh_reloadPlans_0, fun _ => k0⟩ | 1 => some ⟨sh_reloadPlans_1, fun _ => k1⟩ | _ => none)
noncomputable def b_reloadPlans : Code := (Try.f3.body).getD .skip
noncomputable def Γ_reloadPlans : Env := fun f => if f = 8 then some Go.Rel.saneS else if f = 9 then some looseS else if f = 10 then some Go.Mil.newS else if f = 11 then some Go.Mil.modS else if f = 12 then some Go.Rel.samePlanS else if f = 13 then some Go.Rel.planS else if f = 14 then some rplanS else if f = 15 then some Go.Rel.sameS else if f = 16 then some rsameS else none
theorem e_reloadPlans : EnvOk Try.prog Γ_reloadPlans := by
  intro f G h
  unfold Γ_reloadPlans at h
  split at h
  · rename_i hf; subst hf; cases h; exact Go.Rel.ok_sane
  split at h
  · rename_i hf; subst hf; cases h; exact ok_loose
  split at h
  · rename_i hf; subst hf; cases h; exact Go.Mil.ok_new
  split at h
  · rename_i hf; subst hf; cases h; exact Go.Mil.ok_mod
  split at h
  · rename_i hf; subst hf; cases h; exact Go.Rel.ok_samePlan
  split at h
  · rename_i hf; subst hf; cases h; exact Go.Rel.ok_plan
  split at h
  · rename_i hf; subst hf; cases h; exact ok_rplan
  split at h
  · rename_i hf; subst hf; cases h; exact Go.Rel.ok_same
  split at h
  · rename_i hf; subst hf; cases h; exact ok_rsame
  cases h
theorem x_reloadPlans (k0 : Nat) (k1 : Nat) (l : List Int) (m : List Int) (raw : List (ByteArray × (ByteArray × ((List (ByteArray × (ByteArray × Unit))) × ((List ByteArray) × (Bool × (ByteArray × (Int × (Int × (Int × (Int × (Int × (Int × ((List (Int × (Int × Unit))) × (Int × (Int × Unit)))))))))))))))) : execF Δ0 Γ_reloadPlans (l_reloadPlans k0 k1 ) b_reloadPlans Try.f3.results Try.f3.ntmps [] [.val (false, [(none, ⟨.slice (.int .i64), l⟩)]), .val (false, [(none, ⟨.slice (.int .i64), m⟩)]), .val (false, [(none, ⟨.slice (.pair (.str) (.pair (.str) (.pair (.slice (.pair (.str) (.pair (.str) (.unit)))) (.pair (.slice (.str)) (.pair (.bool) (.pair (.str) (.pair (.int .i64) (.pair (.int .u64) (.pair (.int .u64) (.pair (.int .u64) (.pair (.int .i64) (.pair (.int .u64) (.pair (.slice (.pair (.int .i64) (.pair (.int .u64) (.unit)))) (.pair (.int .i64) (.pair (.int .i64) (.unit)))))))))))))))), raw⟩)])] = m_reloadPlans k0 k1 l m raw := by kernel_rfl
theorem reloadPlans_true (d : Tup [.slice (.int .i64), .slice (.int .i64), .slice (.pair (.str) (.pair (.str) (.pair (.slice (.pair (.str) (.pair (.str) (.unit)))) (.pair (.slice (.str)) (.pair (.bool) (.pair (.str) (.pair (.int .i64) (.pair (.int .u64) (.pair (.int .u64) (.pair (.int .u64) (.pair (.int .i64) (.pair (.int .u64) (.pair (.slice (.pair (.int .i64) (.pair (.int .u64) (.unit)))) (.pair (.int .i64) (.pair (.int .i64) (.unit))))))))))))))))]) (h : WfT [.slice (.int .i64), .slice (.int .i64), .slice (.pair (.str) (.pair (.str) (.pair (.slice (.pair (.str) (.pair (.str) (.unit)))) (.pair (.slice (.str)) (.pair (.bool) (.pair (.str) (.pair (.int .i64) (.pair (.int .u64) (.pair (.int .u64) (.pair (.int .u64) (.pair (.int .i64) (.pair (.int .u64) (.pair (.slice (.pair (.int .i64) (.pair (.int .u64) (.unit)))) (.pair (.int .i64) (.pair (.int .i64) (.unit))))))))))))))))] d) : execF Δ0 Γ_reloadPlans (l_reloadPlans 100 100 ) b_reloadPlans Try.f3.results Try.f3.ntmps [] (argsT [.slice (.int .i64), .slice (.int .i64), .slice (.pair (.str) (.pair (.str) (.pair (.slice (.pair (.str) (.pair (.str) (.unit)))) (.pair (.slice (.str)) (.pair (.bool) (.pair (.str) (.pair (.int .i64) (.pair (.int .u64) (.pair (.int .u64) (.pair (.int .u64) (.pair (.int .i64) (.pair (.int .u64) (.pair (.slice (.pair (.int .i64) (.pair (.int .u64) (.unit)))) (.pair (.int .i64) (.pair (.int .i64) (.unit))))))))))))))))] [false, false, false] d) = resB true :=
  (x_reloadPlans 100 100 d.1 d.2.1 d.2.2.1).trans (p_reloadPlans d.1 d.2.1 d.2.2.1 h)
end Go.Rlq
