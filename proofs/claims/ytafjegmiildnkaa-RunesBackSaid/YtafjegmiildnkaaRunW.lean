/- Calls of the named Go functions come to what their models tell, and the rows of laws: Run. -/

import Derived.Test.YtafjegmiildnkaaTy
import Derived.Test.YtafjegmiildnkaaAbExt
import Derived.Test.YtafjegmiildnkaaAbArg
import Derived.Test.YtafjegmiildnkaaRunP
namespace Go.Run
open Go.Ab Go.RowKit Go.Proofs Go.YtafjegmiildnkaaTy
set_option linter.unusedVariables false
set_option linter.unusedSimpArgs false
set_option maxRecDepth 100000
/- jobmux/jobmuxmill.Mod -/
noncomputable def l_mod : Nat → Option LoopSpec := (fun _ => none)
noncomputable def b_mod : Code := (Try.f9.body).getD .skip
noncomputable def Γ_mod : Env := fun f => none
theorem e_mod : EnvOk Try.prog Γ_mod := by
  intro f G h
  unfold Γ_mod at h
  cases h
theorem x_mod (x : Int) (y : Int) : execF Δ0 Γ_mod l_mod b_mod Try.f9.results Try.f9.ntmps [.val (false, [(none, ⟨.int .i64, x⟩)]), .val (false, [(none, ⟨.int .i64, y⟩)])] = m_mod x y := by kernel_rfl
theorem ok_mod : CallOk Try.prog 9 modS := by
  refine callOk_of_exec (fn := Try.f9) (code := b_mod) (Λ := l_mod) mixed tys e_mod Try.func9 (by kernel_rfl) (by kernel_rfl) fun xs c dc r hG hc => ?_
  unfold modS at hG
  split at hG
  · cases hG
    exact (x_mod _ _).trans (p_mod _ _ hc)
  · cases hG
/- jobmux/jobmuxmill.New -/
noncomputable def l_new : Nat → Option LoopSpec := (fun _ => none)
noncomputable def b_new : Code := (Try.f21.body).getD .skip
noncomputable def Γ_new : Env := fun f => none
theorem e_new : EnvOk Try.prog Γ_new := by
  intro f G h
  unfold Γ_new at h
  cases h
theorem x_new (l : List Int) : execF Δ0 Γ_new l_new b_new Try.f21.results Try.f21.ntmps [.val (false, [(none, ⟨.slice (.int .i64), l⟩)])] = m_new l := by kernel_rfl
theorem ok_new : CallOk Try.prog 21 newS := by
  refine callOk_of_exec (fn := Try.f21) (code := b_new) (Λ := l_new) mixed tys e_new Try.func21 (by kernel_rfl) (by kernel_rfl) fun xs c dc r hG hc => ?_
  unfold newS at hG
  split at hG
  · cases hG
    exact (x_new _).trans (p_new _ hc)
  · cases hG
/- (*jobmux/jobmuxmill.Deck).Left -/
noncomputable def l_left : Nat → Option LoopSpec := (fun _ => none)
noncomputable def b_left : Code := (Try.f22.body).getD .skip
noncomputable def Γ_left : Env := fun f => none
theorem e_left : EnvOk Try.prog Γ_left := by
  intro f G h
  unfold Γ_left at h
  cases h
theorem x_left (d_0 : List Int) (d_1 : Int) : execF Δ0 Γ_left l_left b_left Try.f22.results Try.f22.ntmps [.box [(none, ⟨.slice (.int .i64), d_0⟩), (none, ⟨.int .i64, d_1⟩)]] = m_left d_0 d_1 := by kernel_rfl
theorem ok_left : CallOk Try.prog 22 leftS := by
  refine callOk_of_exec (fn := Try.f22) (code := b_left) (Λ := l_left) mixed tys e_left Try.func22 (by kernel_rfl) (by kernel_rfl) fun xs c dc r hG hc => ?_
  unfold leftS at hG
  split at hG
  · cases hG
    exact (x_left _ _).trans (p_left _ _ hc)
  · cases hG
/- (*jobmux/jobmuxmill.Deck).Next -/
noncomputable def l_dnxt : Nat → Option LoopSpec := (fun _ => none)
noncomputable def b_dnxt : Code := (Try.f23.body).getD .skip
noncomputable def Γ_dnxt : Env := fun f => if f = 9 then some modS else if f = 22 then some leftS else none
theorem e_dnxt : EnvOk Try.prog Γ_dnxt := by
  intro f G h
  unfold Γ_dnxt at h
  split at h
  · rename_i hf; subst hf; cases h; exact ok_mod
  split at h
  · rename_i hf; subst hf; cases h; exact ok_left
  cases h
theorem x_dnxt (d_0 : List Int) (d_1 : Int) (n : Int) : execF Δ0 Γ_dnxt l_dnxt b_dnxt Try.f23.results Try.f23.ntmps [.box [(none, ⟨.slice (.int .i64), d_0⟩), (none, ⟨.int .i64, d_1⟩)], .val (false, [(none, ⟨.int .i64, n⟩)])] = m_dnxt d_0 d_1 n := by kernel_rfl
theorem ok_dnxt : CallOk Try.prog 23 dnxtS := by
  refine callOk_of_exec (fn := Try.f23) (code := b_dnxt) (Λ := l_dnxt) mixed tys e_dnxt Try.func23 (by kernel_rfl) (by kernel_rfl) fun xs c dc r hG hc => ?_
  unfold dnxtS at hG
  split at hG
  · cases hG
    exact (x_dnxt _ _ _).trans (p_dnxt _ _ _ hc)
  · cases hG
noncomputable def b_clone : Code := (Try.f24.body).getD .skip
theorem e_clone : EnvOk Try.prog (fun _ => none) := by
  intro f G h
  cases h
theorem x_clone_nil : exec Δ0 (fun _ => none) (fun _ => none) [] 0 b_clone ⟨lv (.kn ⟨.slice (.int .u8), ([] : List Int)⟩ true) :: List.replicate (Try.f24.ntmps - 1) .any, []⟩ (retK Δ0 Try.f24.results.toList []) = m_clone_nil := by kernel_rfl
theorem x_clone (l : List Int) : exec Δ0 (fun _ => none) (fun _ => none) [] 0 b_clone ⟨lv (.kn ⟨.slice (.int .u8), l⟩ false) :: List.replicate (Try.f24.ntmps - 1) .any, []⟩ (retK Δ0 Try.f24.results.toList []) = m_clone l := by kernel_rfl
theorem ok_clone : CallOk Try.prog 24 cloneS := by
  refine callOk_nilness (fn := Try.f24) (code := b_clone) (Λ := fun _ => none) mixed tys e_clone Try.func24 (by kernel_rfl) (by kernel_rfl) fun xs c dc r hG hc => ?_
  unfold cloneS at hG
  split at hG
  · cases hG
    exact ⟨_, _, rfl, fun h => by subst h; exact x_clone_nil.trans p_clone_nil, (x_clone _).trans (p_clone _ hc)⟩
  · cases hG
/- jobmux/runes.size -/
noncomputable def l_size : Nat → Option LoopSpec := (fun _ => none)
noncomputable def b_size : Code := (Try.f32.body).getD .skip
noncomputable def Γ_size : Env := fun f => none
theorem e_size : EnvOk Try.prog Γ_size := by
  intro f G h
  unfold Γ_size at h
  cases h
theorem x_size (b : Int) : execF Δ0 Γ_size l_size b_size Try.f32.results Try.f32.ntmps [.val (false, [(none, ⟨.int .u8, b⟩)])] = m_size b := by kernel_rfl
theorem ok_size : CallOk Try.prog 32 sizeS := by
  refine callOk_of_exec (fn := Try.f32) (code := b_size) (Λ := l_size) mixed tys e_size Try.func32 (by kernel_rfl) (by kernel_rfl) fun xs c dc r hG hc => ?_
  unfold sizeS at hG
  split at hG
  · cases hG
    exact (x_size _).trans (p_size _ hc)
  · cases hG
/- jobmux/runes.second -/
noncomputable def l_second : Nat → Option LoopSpec := (fun _ => none)
noncomputable def b_second : Code := (Try.f33.body).getD .skip
noncomputable def Γ_second : Env := fun f => none
theorem e_second : EnvOk Try.prog Γ_second := by
  intro f G h
  unfold Γ_second at h
  cases h
theorem x_second (f : Int) (b : Int) : execF Δ0 Γ_second l_second b_second Try.f33.results Try.f33.ntmps [.val (false, [(none, ⟨.int .u8, f⟩)]), .val (false, [(none, ⟨.int .u8, b⟩)])] = m_second f b := by kernel_rfl
theorem ok_second : CallOk Try.prog 33 secondS := by
  refine callOk_of_exec (fn := Try.f33) (code := b_second) (Λ := l_second) mixed tys e_second Try.func33 (by kernel_rfl) (by kernel_rfl) fun xs c dc r hG hc => ?_
  unfold secondS at hG
  split at hG
  · cases hG
    exact (x_second _ _).trans (p_second _ _ hc)
  · cases hG
/- jobmux/runes.part -/
noncomputable def l_part (k0 : Nat) : Nat → Option LoopSpec := (fun n => match n with | 0 => some ⟨sh_part_0, fun _ => k0⟩ | _ => none)
noncomputable def b_part : Code := (Try.f25.body).getD .skip
noncomputable def Γ_part : Env := fun f => if f = 32 then some sizeS else if f = 33 then some secondS else none
theorem e_part : EnvOk Try.prog Γ_part := by
  intro f G h
  unfold Γ_part at h
  split at h
  · rename_i hf; subst hf; cases h; exact ok_size
  split at h
  · rename_i hf; subst hf; cases h; exact ok_second
  cases h
theorem x_part (k0 : Nat) (l : List Int) : execF Δ0 Γ_part (l_part k0 ) b_part Try.f25.results Try.f25.ntmps [.val (false, [(none, ⟨.slice (.int .u8), l⟩)])] = m_part k0 l := by kernel_rfl
theorem ok_part : CallOk Try.prog 25 partS := by
  refine callOk_of_exec (fn := Try.f25) (code := b_part) (Λ := (l_part 100 )) mixed tys e_part Try.func25 (by kernel_rfl) (by kernel_rfl) fun xs c dc r hG hc => ?_
  unfold partS at hG
  split at hG
  · cases hG
    exact (x_part 100 _).trans (p_part _ hc)
  · cases hG
/- jobmux/runes.Valid -/
noncomputable def l_valid : Nat → Option LoopSpec := (fun _ => none)
noncomputable def b_valid : Code := (Try.f14.body).getD .skip
noncomputable def Γ_valid : Env := fun f => if f = 25 then some partS else none
theorem e_valid : EnvOk Try.prog Γ_valid := by
  intro f G h
  unfold Γ_valid at h
  split at h
  · rename_i hf; subst hf; cases h; exact ok_part
  cases h
theorem x_valid (d_0 : List Int) : execF Δ0 Γ_valid l_valid b_valid Try.f14.results Try.f14.ntmps [.val (true, [(none, ⟨.slice (.int .u8), d_0⟩)])] = m_valid d_0 := by kernel_rfl
theorem ok_valid : CallOk Try.prog 14 validS := by
  refine callOk_of_exec (fn := Try.f14) (code := b_valid) (Λ := l_valid) mixed tys e_valid Try.func14 (by kernel_rfl) (by kernel_rfl) fun xs c dc r hG hc => ?_
  unfold validS at hG
  split at hG
  · cases hG
    exact (x_valid _).trans (p_valid _ hc)
  · cases hG
/- jobmux/runes.character -/
noncomputable def l_char (k0 : Nat) : Nat → Option LoopSpec := (fun n => match n with | 0 => some ⟨sh_char_0, fun _ => k0⟩ | _ => none)
noncomputable def b_char : Code := (Try.f26.body).getD .skip
noncomputable def Γ_char : Env := fun f => none
theorem e_char : EnvOk Try.prog Γ_char := by
  intro f G h
  unfold Γ_char at h
  cases h
theorem x_char (k0 : Nat) (l : List Int) : execF Δ0 Γ_char (l_char k0 ) b_char Try.f26.results Try.f26.ntmps [.val (false, [(none, ⟨.slice (.int .u8), l⟩)])] = m_char k0 l := by kernel_rfl
theorem ok_char : CallOk Try.prog 26 charS := by
  refine callOk_of_exec (fn := Try.f26) (code := b_char) (Λ := (l_char 100 )) mixed tys e_char Try.func26 (by kernel_rfl) (by kernel_rfl) fun xs c dc r hG hc => ?_
  unfold charS at hG
  split at hG
  · cases hG
    exact (x_char 100 _).trans (p_char _ hc)
  · cases hG
/- jobmux/runes.Decode -/
noncomputable def l_dec (k0 : Nat) : Nat → Option LoopSpec := (fun n => match n with | 0 => some ⟨sh_dec_0, fun _ => k0⟩ | _ => none)
def Δ_dec : Tys := Δ0.map fun p => if p.1 = 23 then (p.1, { p.2 with ty := none }) else p
theorem tys_dec : TysOk Try.prog Δ_dec := tysOk_of (by kernel_rfl)
noncomputable def b_dec : Code := (Try.f10.body).getD .skip
noncomputable def Γ_dec : Env := fun f => if f = 14 then some validS else if f = 24 then some cloneS else if f = 25 then some partS else if f = 26 then some charS else none
theorem e_dec : EnvOk Try.prog Γ_dec := by
  intro f G h
  unfold Γ_dec at h
  split at h
  · rename_i hf; subst hf; cases h; exact ok_valid
  split at h
  · rename_i hf; subst hf; cases h; exact ok_clone
  split at h
  · rename_i hf; subst hf; cases h; exact ok_part
  split at h
  · rename_i hf; subst hf; cases h; exact ok_char
  cases h
theorem x_dec (k0 : Nat) (d_0 : List Int) (b : List Int) : execF Δ_dec Γ_dec (l_dec k0 ) b_dec Try.f10.results Try.f10.ntmps [.val (true, [(none, ⟨.slice (.int .u8), d_0⟩)]), .val (false, [(none, ⟨.slice (.int .u8), b⟩)])] = m_dec k0 d_0 b := by kernel_rfl
theorem ok_dec : CallOk Try.prog 10 decS := by
  refine callOk_of_exec (fn := Try.f10) (code := b_dec) (Λ := (l_dec 9000000000000 )) mixed tys_dec e_dec Try.func10 (by kernel_rfl) (by kernel_rfl) fun xs c dc r hG hc => ?_
  unfold decS at hG
  split at hG
  · cases hG
    exact (x_dec 9000000000000 _ _).trans (p_dec _ _ hc)
  · cases hG
/- jobmux/jobmuxlaw04.odd -/
noncomputable def l_odd (k0 : Nat) : Nat → Option LoopSpec := (fun n => match n with | 0 => some ⟨sh_odd_0, fun _ => k0⟩ | _ => none)
noncomputable def b_odd : Code := (Try.f8.body).getD .skip
noncomputable def Γ_odd : Env := fun f => if f = 21 then some newS else if f = 22 then some leftS else if f = 23 then some dnxtS else none
theorem e_odd : EnvOk Try.prog Γ_odd := by
  intro f G h
  unfold Γ_odd at h
  split at h
  · rename_i hf; subst hf; cases h; exact ok_new
  split at h
  · rename_i hf; subst hf; cases h; exact ok_left
  split at h
  · rename_i hf; subst hf; cases h; exact ok_dnxt
  cases h
theorem x_odd (k0 : Nat) (l : List Int) : execF Δ0 Γ_odd (l_odd k0 ) b_odd Try.f8.results Try.f8.ntmps [.val (false, [(none, ⟨.slice (.int .i64), l⟩)])] = m_odd k0 l := by kernel_rfl
theorem ok_odd : CallOk Try.prog 8 oddS := by
  refine callOk_of_exec (fn := Try.f8) (code := b_odd) (Λ := (l_odd 100 )) mixed tys e_odd Try.func8 (by kernel_rfl) (by kernel_rfl) fun xs c dc r hG hc => ?_
  unfold oddS at hG
  split at hG
  · cases hG
    exact (x_odd 100 _).trans (p_odd _ hc)
  · cases hG
/- jobmux/jobmuxlaw04.same -/
noncomputable def l_same (k0 : Nat) : Nat → Option LoopSpec := (fun n => match n with | 0 => some ⟨sh_same_0, fun _ => k0⟩ | _ => none)
noncomputable def b_same : Code := (Try.f12.body).getD .skip
noncomputable def Γ_same : Env := fun f => none
theorem e_same : EnvOk Try.prog Γ_same := by
  intro f G h
  unfold Γ_same at h
  cases h
theorem x_same (k0 : Nat) (a : List Int) (b : List Int) : execF Δ0 Γ_same (l_same k0 ) b_same Try.f12.results Try.f12.ntmps [.val (false, [(none, ⟨.slice (.int .i64), a⟩)]), .val (false, [(none, ⟨.slice (.int .i64), b⟩)])] = m_same k0 a b := by kernel_rfl
theorem ok_same : CallOk Try.prog 12 sameS := by
  refine callOk_of_exec (fn := Try.f12) (code := b_same) (Λ := (l_same 2000000000000 )) mixed tys e_same Try.func12 (by kernel_rfl) (by kernel_rfl) fun xs c dc r hG hc => ?_
  unfold sameS at hG
  split at hG
  · cases hG
    exact (x_same 2000000000000 _ _).trans (p_same _ _ hc)
  · cases hG
/- jobmux/jobmuxref04.Same -/
noncomputable def l_rsame : Nat → Option LoopSpec := (fun _ => none)
noncomputable def b_rsame : Code := (Try.f11.body).getD .skip
noncomputable def Γ_rsame : Env := fun f => none
theorem e_rsame : EnvOk Try.prog Γ_rsame := by
  intro f G h
  unfold Γ_rsame at h
  cases h
theorem x_rsame (a_0 : List Int) (b_0 : List Int) : execF Δ0 Γ_rsame l_rsame b_rsame Try.f11.results Try.f11.ntmps [.val (true, [(none, ⟨.slice (.int .u8), a_0⟩)]), .val (true, [(none, ⟨.slice (.int .u8), b_0⟩)])] = m_rsame a_0 b_0 := by kernel_rfl
theorem ok_rsame : CallOk Try.prog 11 rsameS := by
  refine callOk_of_exec (fn := Try.f11) (code := b_rsame) (Λ := l_rsame) mixed tys e_rsame Try.func11 (by kernel_rfl) (by kernel_rfl) fun xs c dc r hG hc => ?_
  unfold rsameS at hG
  split at hG
  · cases hG
    exact (x_rsame _ _).trans (p_rsame _ _ hc)
  · cases hG
/- jobmux/jobmuxlaw04.sane -/
noncomputable def l_sane : Nat → Option LoopSpec := (fun _ => none)
noncomputable def b_sane : Code := (Try.f7.body).getD .skip
noncomputable def Γ_sane : Env := fun f => if f = 10 then some decS else none
theorem e_sane : EnvOk Try.prog Γ_sane := by
  intro f G h
  unfold Γ_sane at h
  split at h
  · rename_i hf; subst hf; cases h; exact ok_dec
  cases h
theorem x_sane  : execF Δ0 Γ_sane l_sane b_sane Try.f7.results Try.f7.ntmps [] = m_sane  := by kernel_rfl
theorem ok_sane : CallOk Try.prog 7 saneS := by
  refine callOk_of_exec (fn := Try.f7) (code := b_sane) (Λ := l_sane) mixed tys e_sane Try.func7 (by kernel_rfl) (by kernel_rfl) fun xs c dc r hG hc => ?_
  unfold saneS at hG
  split at hG
  · cases hG
    exact (x_sane ).trans (p_sane  hc)
  · cases hG
/- jobmux/jobmuxlaw04.RunesDivides -/
noncomputable def l_runesDivides (k0 : Nat) : Nat → Option LoopSpec := (fun n => match n with | 0 => some ⟨sh_runesDivides_0, fun _ => k0⟩ | _ => none)
noncomputable def b_runesDivides : Code := (Try.f3.body).getD .skip
noncomputable def Γ_runesDivides : Env := fun f => if f = 7 then some saneS else if f = 8 then some oddS else if f = 9 then some modS else if f = 10 then some decS else if f = 11 then some rsameS else if f = 12 then some sameS else none
theorem e_runesDivides : EnvOk Try.prog Γ_runesDivides := by
  intro f G h
  unfold Γ_runesDivides at h
  split at h
  · rename_i hf; subst hf; cases h; exact ok_sane
  split at h
  · rename_i hf; subst hf; cases h; exact ok_odd
  split at h
  · rename_i hf; subst hf; cases h; exact ok_mod
  split at h
  · rename_i hf; subst hf; cases h; exact ok_dec
  split at h
  · rename_i hf; subst hf; cases h; exact ok_rsame
  split at h
  · rename_i hf; subst hf; cases h; exact ok_same
  cases h
theorem x_runesDivides (k0 : Nat) (l : List Int) (raw : List Int) (cut : Int) : execF Δ0 Γ_runesDivides (l_runesDivides k0 ) b_runesDivides Try.f3.results Try.f3.ntmps [.val (false, [(none, ⟨.slice (.int .i64), l⟩)]), .val (false, [(none, ⟨.slice (.int .u8), raw⟩)]), .val (false, [(none, ⟨.int .i64, cut⟩)])] = m_runesDivides k0 l raw cut := by kernel_rfl
theorem runesDivides_true (d : Tup [.slice (.int .i64), .slice (.int .u8), .int .i64]) (h : WfT [.slice (.int .i64), .slice (.int .u8), .int .i64] d) : execF Δ0 Γ_runesDivides (l_runesDivides 10 ) b_runesDivides Try.f3.results Try.f3.ntmps (argsT [.slice (.int .i64), .slice (.int .u8), .int .i64] [false, false, false] d) = resB true :=
  (x_runesDivides 10 d.1 d.2.1 d.2.2.1).trans (p_runesDivides d.1 d.2.1 d.2.2.1 h)
end Go.Run
