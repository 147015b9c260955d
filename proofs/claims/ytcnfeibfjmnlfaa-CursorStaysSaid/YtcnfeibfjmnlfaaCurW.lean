/- Calls of the named Go functions come to what their models tell, and the rows of laws: Cur. -/

import Derived.Test.YtcnfeibfjmnlfaaTy
import Derived.Test.YtcnfeibfjmnlfaaAbExt
import Derived.Test.YtcnfeibfjmnlfaaAbArg
import Derived.Test.YtcnfeibfjmnlfaaCurP
namespace Go.Cur
open Go.Ab Go.RowKit Go.Proofs Go.YtcnfeibfjmnlfaaTy
set_option linter.unusedVariables false
set_option linter.unusedSimpArgs false
set_option maxRecDepth 100000
/- jobmux/jobmuxmill.Mod -/
noncomputable def l_mod : Nat → Option LoopSpec := (fun _ => none)
noncomputable def b_mod : Code := (Try.f16.body).getD .skip
noncomputable def Γ_mod : Env := fun f => none
theorem e_mod : EnvOk Try.prog Γ_mod := by
  intro f G h
  unfold Γ_mod at h
  cases h
theorem x_mod (x : Int) (y : Int) : execF Δ0 Γ_mod l_mod b_mod Try.f16.results Try.f16.ntmps [.val (false, [(none, ⟨.int .i64, x⟩)]), .val (false, [(none, ⟨.int .i64, y⟩)])] = m_mod x y := by kernel_rfl
theorem ok_mod : CallOk Try.prog 16 modS := by
  refine callOk_of_exec (fn := Try.f16) (code := b_mod) (Λ := l_mod) mixed tys e_mod Try.func16 (by kernel_rfl) (by kernel_rfl) fun xs c dc r hG hc => ?_
  unfold modS at hG
  split at hG
  · cases hG
    exact (x_mod _ _).trans (p_mod _ _ hc)
  · cases hG
/- jobmux/jobmuxmill.New -/
noncomputable def l_new : Nat → Option LoopSpec := (fun _ => none)
noncomputable def b_new : Code := (Try.f23.body).getD .skip
noncomputable def Γ_new : Env := fun f => none
theorem e_new : EnvOk Try.prog Γ_new := by
  intro f G h
  unfold Γ_new at h
  cases h
theorem x_new (l : List Int) : execF Δ0 Γ_new l_new b_new Try.f23.results Try.f23.ntmps [.val (false, [(none, ⟨.slice (.int .i64), l⟩)])] = m_new l := by kernel_rfl
theorem ok_new : CallOk Try.prog 23 newS := by
  refine callOk_of_exec (fn := Try.f23) (code := b_new) (Λ := l_new) mixed tys e_new Try.func23 (by kernel_rfl) (by kernel_rfl) fun xs c dc r hG hc => ?_
  unfold newS at hG
  split at hG
  · cases hG
    exact (x_new _).trans (p_new _ hc)
  · cases hG
/- (*jobmux/jobmuxmill.Deck).Left -/
noncomputable def l_left : Nat → Option LoopSpec := (fun _ => none)
noncomputable def b_left : Code := (Try.f24.body).getD .skip
noncomputable def Γ_left : Env := fun f => none
theorem e_left : EnvOk Try.prog Γ_left := by
  intro f G h
  unfold Γ_left at h
  cases h
theorem x_left (d_0 : List Int) (d_1 : Int) : execF Δ0 Γ_left l_left b_left Try.f24.results Try.f24.ntmps [.box [(none, ⟨.slice (.int .i64), d_0⟩), (none, ⟨.int .i64, d_1⟩)]] = m_left d_0 d_1 := by kernel_rfl
theorem ok_left : CallOk Try.prog 24 leftS := by
  refine callOk_of_exec (fn := Try.f24) (code := b_left) (Λ := l_left) mixed tys e_left Try.func24 (by kernel_rfl) (by kernel_rfl) fun xs c dc r hG hc => ?_
  unfold leftS at hG
  split at hG
  · cases hG
    exact (x_left _ _).trans (p_left _ _ hc)
  · cases hG
/- (*jobmux/jobmuxmill.Deck).Next -/
noncomputable def l_dnxt : Nat → Option LoopSpec := (fun _ => none)
noncomputable def b_dnxt : Code := (Try.f25.body).getD .skip
noncomputable def Γ_dnxt : Env := fun f => if f = 16 then some modS else if f = 24 then some leftS else none
theorem e_dnxt : EnvOk Try.prog Γ_dnxt := by
  intro f G h
  unfold Γ_dnxt at h
  split at h
  · rename_i hf; subst hf; cases h; exact ok_mod
  split at h
  · rename_i hf; subst hf; cases h; exact ok_left
  cases h
theorem x_dnxt (d_0 : List Int) (d_1 : Int) (n : Int) : execF Δ0 Γ_dnxt l_dnxt b_dnxt Try.f25.results Try.f25.ntmps [.box [(none, ⟨.slice (.int .i64), d_0⟩), (none, ⟨.int .i64, d_1⟩)], .val (false, [(none, ⟨.int .i64, n⟩)])] = m_dnxt d_0 d_1 n := by kernel_rfl
theorem ok_dnxt : CallOk Try.prog 25 dnxtS := by
  refine callOk_of_exec (fn := Try.f25) (code := b_dnxt) (Λ := l_dnxt) mixed tys e_dnxt Try.func25 (by kernel_rfl) (by kernel_rfl) fun xs c dc r hG hc => ?_
  unfold dnxtS at hG
  split at hG
  · cases hG
    exact (x_dnxt _ _ _).trans (p_dnxt _ _ _ hc)
  · cases hG
/- (*jobmux/jobmuxmill.Deck).Range -/
noncomputable def l_rng : Nat → Option LoopSpec := (fun _ => none)
noncomputable def b_rng : Code := (Try.f44.body).getD .skip
noncomputable def Γ_rng : Env := fun f => if f = 25 then some dnxtS else none
theorem e_rng : EnvOk Try.prog Γ_rng := by
  intro f G h
  unfold Γ_rng at h
  split at h
  · rename_i hf; subst hf; cases h; exact ok_dnxt
  cases h
theorem x_rng (d_0 : List Int) (d_1 : Int) (lo : Int) (hi : Int) : execF Δ0 Γ_rng l_rng b_rng Try.f44.results Try.f44.ntmps [.box [(none, ⟨.slice (.int .i64), d_0⟩), (none, ⟨.int .i64, d_1⟩)], .val (false, [(none, ⟨.int .i64, lo⟩)]), .val (false, [(none, ⟨.int .i64, hi⟩)])] = m_rng d_0 d_1 lo hi := by kernel_rfl
theorem ok_rng : CallOk Try.prog 44 rngS := by
  refine callOk_of_exec (fn := Try.f44) (code := b_rng) (Λ := l_rng) mixed tys e_rng Try.func44 (by kernel_rfl) (by kernel_rfl) fun xs c dc r hG hc => ?_
  unfold rngS at hG
  split at hG
  · cases hG
    exact (x_rng _ _ _ _).trans (p_rng _ _ _ _ hc)
  · cases hG
/- jobmux/cursor.Valid -/
noncomputable def l_valid : Nat → Option LoopSpec := (fun _ => none)
noncomputable def b_valid : Code := (Try.f19.body).getD .skip
noncomputable def Γ_valid : Env := fun f => none
theorem e_valid : EnvOk Try.prog Γ_valid := by
  intro f G h
  unfold Γ_valid at h
  cases h
theorem x_valid (c_0 : Int) (c_1 : Int) (c_2 : Bool) (rows : Int) (cols : Int) : execF Δ0 Γ_valid l_valid b_valid Try.f19.results Try.f19.ntmps [.val (true, [(none, ⟨.int .i64, c_0⟩), (none, ⟨.int .i64, c_1⟩), (none, ⟨.bool, c_2⟩)]), .val (false, [(none, ⟨.int .i64, rows⟩)]), .val (false, [(none, ⟨.int .i64, cols⟩)])] = m_valid c_0 c_1 c_2 rows cols := by kernel_rfl
theorem ok_valid : CallOk Try.prog 19 validS := by
  refine callOk_of_exec (fn := Try.f19) (code := b_valid) (Λ := l_valid) mixed tys e_valid Try.func19 (by kernel_rfl) (by kernel_rfl) fun xs c dc r hG hc => ?_
  unfold validS at hG
  split at hG
  · cases hG
    exact (x_valid _ _ _ _ _).trans (p_valid _ _ _ _ _ hc)
  · cases hG
/- jobmux/cursor.Right -/
noncomputable def l_right : Nat → Option LoopSpec := (fun _ => none)
noncomputable def b_right : Code := (Try.f45.body).getD .skip
noncomputable def Γ_right : Env := fun f => none
theorem e_right : EnvOk Try.prog Γ_right := by
  intro f G h
  unfold Γ_right at h
  cases h
theorem x_right (m_0 : Int) (m_1 : Int) (rows : Int) : execF Δ0 Γ_right l_right b_right Try.f45.results Try.f45.ntmps [.val (true, [(none, ⟨.int .i64, m_0⟩), (none, ⟨.int .i64, m_1⟩)]), .val (false, [(none, ⟨.int .i64, rows⟩)])] = m_right m_0 m_1 rows := by kernel_rfl
theorem ok_right : CallOk Try.prog 45 rightS := by
  refine callOk_of_exec (fn := Try.f45) (code := b_right) (Λ := l_right) mixed tys e_right Try.func45 (by kernel_rfl) (by kernel_rfl) fun xs c dc r hG hc => ?_
  unfold rightS at hG
  split at hG
  · cases hG
    exact (x_right _ _ _).trans (p_right _ _ _ hc)
  · cases hG
/- jobmux/cursor.Move -/
noncomputable def l_move : Nat → Option LoopSpec := (fun _ => none)
noncomputable def b_move : Code := (Try.f17.body).getD .skip
noncomputable def Γ_move : Env := fun f => if f = 19 then some validS else if f = 45 then some rightS else none
theorem e_move : EnvOk Try.prog Γ_move := by
  intro f G h
  unfold Γ_move at h
  split at h
  · rename_i hf; subst hf; cases h; exact ok_valid
  split at h
  · rename_i hf; subst hf; cases h; exact ok_right
  cases h
theorem x_move (c_0 : Int) (c_1 : Int) (c_2 : Bool) (kind : Int) (n : Int) (m_0 : Int) (m_1 : Int) (rows : Int) (cols : Int) : execF Δ0 Γ_move l_move b_move Try.f17.results Try.f17.ntmps [.val (true, [(none, ⟨.int .i64, c_0⟩), (none, ⟨.int .i64, c_1⟩), (none, ⟨.bool, c_2⟩)]), .val (false, [(none, ⟨.int .i64, kind⟩)]), .val (false, [(none, ⟨.int .i64, n⟩)]), .val (true, [(none, ⟨.int .i64, m_0⟩), (none, ⟨.int .i64, m_1⟩)]), .val (false, [(none, ⟨.int .i64, rows⟩)]), .val (false, [(none, ⟨.int .i64, cols⟩)])] = m_move c_0 c_1 c_2 kind n m_0 m_1 rows cols := by kernel_rfl
theorem ok_move : CallOk Try.prog 17 moveS := by
  refine callOk_of_exec (fn := Try.f17) (code := b_move) (Λ := l_move) mixed tys e_move Try.func17 (by kernel_rfl) (by kernel_rfl) fun xs c dc r hG hc => ?_
  unfold moveS at hG
  split at hG
  · cases hG
    exact (x_move _ _ _ _ _ _ _ _ _).trans (p_move _ _ _ _ _ _ _ _ _ hc)
  · cases hG
/- jobmux/jobmuxref17.Valid -/
noncomputable def l_rvalid : Nat → Option LoopSpec := (fun _ => none)
noncomputable def b_rvalid : Code := (Try.f20.body).getD .skip
noncomputable def Γ_rvalid : Env := fun f => none
theorem e_rvalid : EnvOk Try.prog Γ_rvalid := by
  intro f G h
  unfold Γ_rvalid at h
  cases h
theorem x_rvalid (c_0 : Int) (c_1 : Int) (c_2 : Bool) (rows : Int) (cols : Int) : execF Δ0 Γ_rvalid l_rvalid b_rvalid Try.f20.results Try.f20.ntmps [.val (true, [(none, ⟨.int .i64, c_0⟩), (none, ⟨.int .i64, c_1⟩), (none, ⟨.bool, c_2⟩)]), .val (false, [(none, ⟨.int .i64, rows⟩)]), .val (false, [(none, ⟨.int .i64, cols⟩)])] = m_rvalid c_0 c_1 c_2 rows cols := by kernel_rfl
theorem ok_rvalid : CallOk Try.prog 20 rvalidS := by
  refine callOk_of_exec (fn := Try.f20) (code := b_rvalid) (Λ := l_rvalid) mixed tys e_rvalid Try.func20 (by kernel_rfl) (by kernel_rfl) fun xs c dc r hG hc => ?_
  unfold rvalidS at hG
  split at hG
  · cases hG
    exact (x_rvalid _ _ _ _ _).trans (p_rvalid _ _ _ _ _ hc)
  · cases hG
/- jobmux/jobmuxref17.Right -/
noncomputable def l_rright : Nat → Option LoopSpec := (fun _ => none)
noncomputable def b_rright : Code := (Try.f46.body).getD .skip
noncomputable def Γ_rright : Env := fun f => none
theorem e_rright : EnvOk Try.prog Γ_rright := by
  intro f G h
  unfold Γ_rright at h
  cases h
theorem x_rright (m_0 : Int) (m_1 : Int) (rows : Int) : execF Δ0 Γ_rright l_rright b_rright Try.f46.results Try.f46.ntmps [.val (true, [(none, ⟨.int .i64, m_0⟩), (none, ⟨.int .i64, m_1⟩)]), .val (false, [(none, ⟨.int .i64, rows⟩)])] = m_rright m_0 m_1 rows := by kernel_rfl
theorem ok_rright : CallOk Try.prog 46 rrightS := by
  refine callOk_of_exec (fn := Try.f46) (code := b_rright) (Λ := l_rright) mixed tys e_rright Try.func46 (by kernel_rfl) (by kernel_rfl) fun xs c dc r hG hc => ?_
  unfold rrightS at hG
  split at hG
  · cases hG
    exact (x_rright _ _ _).trans (p_rright _ _ _ hc)
  · cases hG
/- jobmux/jobmuxref17.Move -/
noncomputable def l_rmove : Nat → Option LoopSpec := (fun _ => none)
noncomputable def b_rmove : Code := (Try.f18.body).getD .skip
noncomputable def Γ_rmove : Env := fun f => if f = 20 then some rvalidS else if f = 46 then some rrightS else none
theorem e_rmove : EnvOk Try.prog Γ_rmove := by
  intro f G h
  unfold Γ_rmove at h
  split at h
  · rename_i hf; subst hf; cases h; exact ok_rvalid
  split at h
  · rename_i hf; subst hf; cases h; exact ok_rright
  cases h
theorem x_rmove (c_0 : Int) (c_1 : Int) (c_2 : Bool) (kind : Int) (n : Int) (m_0 : Int) (m_1 : Int) (rows : Int) (cols : Int) : execF Δ0 Γ_rmove l_rmove b_rmove Try.f18.results Try.f18.ntmps [.val (true, [(none, ⟨.int .i64, c_0⟩), (none, ⟨.int .i64, c_1⟩), (none, ⟨.bool, c_2⟩)]), .val (false, [(none, ⟨.int .i64, kind⟩)]), .val (false, [(none, ⟨.int .i64, n⟩)]), .val (true, [(none, ⟨.int .i64, m_0⟩), (none, ⟨.int .i64, m_1⟩)]), .val (false, [(none, ⟨.int .i64, rows⟩)]), .val (false, [(none, ⟨.int .i64, cols⟩)])] = m_rmove c_0 c_1 c_2 kind n m_0 m_1 rows cols := by kernel_rfl
theorem ok_rmove : CallOk Try.prog 18 rmoveS := by
  refine callOk_of_exec (fn := Try.f18) (code := b_rmove) (Λ := l_rmove) mixed tys e_rmove Try.func18 (by kernel_rfl) (by kernel_rfl) fun xs c dc r hG hc => ?_
  unfold rmoveS at hG
  split at hG
  · cases hG
    exact (x_rmove _ _ _ _ _ _ _ _ _).trans (p_rmove _ _ _ _ _ _ _ _ _ hc)
  · cases hG
/- jobmux/jobmuxlaw17.made -/
noncomputable def l_made : Nat → Option LoopSpec := (fun _ => none)
noncomputable def b_made : Code := (Try.f15.body).getD .skip
noncomputable def Γ_made : Env := fun f => if f = 23 then some newS else if f = 25 then some dnxtS else if f = 44 then some rngS else none
theorem e_made : EnvOk Try.prog Γ_made := by
  intro f G h
  unfold Γ_made at h
  split at h
  · rename_i hf; subst hf; cases h; exact ok_new
  split at h
  · rename_i hf; subst hf; cases h; exact ok_dnxt
  split at h
  · rename_i hf; subst hf; cases h; exact ok_rng
  cases h
theorem x_made (l : List Int) : execF Δ0 Γ_made l_made b_made Try.f15.results Try.f15.ntmps [.val (false, [(none, ⟨.slice (.int .i64), l⟩)])] = m_made l := by kernel_rfl
theorem ok_made : CallOk Try.prog 15 madeS := by
  refine callOk_of_exec (fn := Try.f15) (code := b_made) (Λ := l_made) mixed tys e_made Try.func15 (by kernel_rfl) (by kernel_rfl) fun xs c dc r hG hc => ?_
  unfold madeS at hG
  split at hG
  · cases hG
    exact (x_made _).trans (p_made _ hc)
  · cases hG
/- jobmux/jobmuxlaw17.sane -/
noncomputable def l_sane : Nat → Option LoopSpec := (fun _ => none)
noncomputable def b_sane : Code := (Try.f14.body).getD .skip
noncomputable def Γ_sane : Env := fun f => if f = 17 then some moveS else if f = 19 then some validS else none
theorem e_sane : EnvOk Try.prog Γ_sane := by
  intro f G h
  unfold Γ_sane at h
  split at h
  · rename_i hf; subst hf; cases h; exact ok_move
  split at h
  · rename_i hf; subst hf; cases h; exact ok_valid
  cases h
theorem x_sane  : execF Δ0 Γ_sane l_sane b_sane Try.f14.results Try.f14.ntmps [] = m_sane  := by kernel_rfl
theorem ok_sane : CallOk Try.prog 14 saneS := by
  refine callOk_of_exec (fn := Try.f14) (code := b_sane) (Λ := l_sane) mixed tys e_sane Try.func14 (by kernel_rfl) (by kernel_rfl) fun xs c dc r hG hc => ?_
  unfold saneS at hG
  split at hG
  · cases hG
    exact (x_sane ).trans (p_sane  hc)
  · cases hG
/- jobmux/jobmuxlaw17.CursorMoves -/
noncomputable def l_cursorMoves (k0 : Nat) (k1 : Nat) : Nat → Option LoopSpec := (fun n => match n with | 0 => some ⟨sh_cursorMoves_0, fun _ => k0⟩ | 1 => some ⟨sh_cursorMoves_1, fun _ => k1⟩ | _ => none)
noncomputable def b_cursorMoves : Code := (Try.f3.body).getD .skip
noncomputable def Γ_cursorMoves : Env := fun f => if f = 14 then some saneS else if f = 15 then some madeS else if f = 16 then some modS else if f = 17 then some moveS else if f = 18 then some rmoveS else if f = 19 then some validS else if f = 20 then some rvalidS else none
theorem e_cursorMoves : EnvOk Try.prog Γ_cursorMoves := by
  intro f G h
  unfold Γ_cursorMoves at h
  split at h
  · rename_i hf; subst hf; cases h; exact ok_sane
  split at h
  · rename_i hf; subst hf; cases h; exact ok_made
  split at h
  · rename_i hf; subst hf; cases h; exact ok_mod
  split at h
  · rename_i hf; subst hf; cases h; exact ok_move
  split at h
  · rename_i hf; subst hf; cases h; exact ok_rmove
  split at h
  · rename_i hf; subst hf; cases h; exact ok_valid
  split at h
  · rename_i hf; subst hf; cases h; exact ok_rvalid
  cases h
theorem x_cursorMoves (k0 : Nat) (k1 : Nat) (l : List Int) (raw_0 : Int) (raw_1 : Int) (raw_2 : Bool) (m_0 : Int) (m_1 : Int) (kind : Int) (n : Int) (rows : Int) (cols : Int) : execF Δ0 Γ_cursorMoves (l_cursorMoves k0 k1 ) b_cursorMoves Try.f3.results Try.f3.ntmps [.val (false, [(none, ⟨.slice (.int .i64), l⟩)]), .val (true, [(none, ⟨.int .i64, raw_0⟩), (none, ⟨.int .i64, raw_1⟩), (none, ⟨.bool, raw_2⟩)]), .val (true, [(none, ⟨.int .i64, m_0⟩), (none, ⟨.int .i64, m_1⟩)]), .val (false, [(none, ⟨.int .i64, kind⟩)]), .val (false, [(none, ⟨.int .i64, n⟩)]), .val (false, [(none, ⟨.int .i64, rows⟩)]), .val (false, [(none, ⟨.int .i64, cols⟩)])] = m_cursorMoves k0 k1 l raw_0 raw_1 raw_2 m_0 m_1 kind n rows cols := by kernel_rfl
theorem cursorMoves_true (d : Tup [.slice (.int .i64), .pair (.int .i64) (.pair (.int .i64) (.pair (.bool) (.unit))), .pair (.int .i64) (.pair (.int .i64) (.unit)), .int .i64, .int .i64, .int .i64, .int .i64]) (h : WfT [.slice (.int .i64), .pair (.int .i64) (.pair (.int .i64) (.pair (.bool) (.unit))), .pair (.int .i64) (.pair (.int .i64) (.unit)), .int .i64, .int .i64, .int .i64, .int .i64] d) : execF Δ0 Γ_cursorMoves (l_cursorMoves 4 4 ) b_cursorMoves Try.f3.results Try.f3.ntmps (argsT [.slice (.int .i64), .pair (.int .i64) (.pair (.int .i64) (.pair (.bool) (.unit))), .pair (.int .i64) (.pair (.int .i64) (.unit)), .int .i64, .int .i64, .int .i64, .int .i64] [false, true, true, false, false, false, false] d) = resB true :=
  (x_cursorMoves 4 4 d.1 d.2.1.1 d.2.1.2.1 d.2.1.2.2.1 d.2.2.1.1 d.2.2.1.2.1 d.2.2.2.1 d.2.2.2.2.1 d.2.2.2.2.2.1 d.2.2.2.2.2.2.1).trans (p_cursorMoves d.1 d.2.1.1 d.2.1.2.1 d.2.1.2.2.1 d.2.2.1.1 d.2.2.1.2.1 d.2.2.2.1 d.2.2.2.2.1 d.2.2.2.2.2.1 d.2.2.2.2.2.2.1 h)
/- jobmux/jobmuxlaw17.CursorSteps -/
noncomputable def l_cursorSteps (k0 : Nat) : Nat → Option LoopSpec := (fun n => match n with | 0 => some ⟨sh_cursorSteps_0, fun _ => k0⟩ | _ => none)
noncomputable def b_cursorSteps : Code := (Try.f4.body).getD .skip
noncomputable def Γ_cursorSteps : Env := fun f => if f = 14 then some saneS else if f = 15 then some madeS else if f = 16 then some modS else if f = 17 then some moveS else if f = 19 then some validS else none
theorem e_cursorSteps : EnvOk Try.prog Γ_cursorSteps := by
  intro f G h
  unfold Γ_cursorSteps at h
  split at h
  · rename_i hf; subst hf; cases h; exact ok_sane
  split at h
  · rename_i hf; subst hf; cases h; exact ok_made
  split at h
  · rename_i hf; subst hf; cases h; exact ok_mod
  split at h
  · rename_i hf; subst hf; cases h; exact ok_move
  split at h
  · rename_i hf; subst hf; cases h; exact ok_valid
  cases h
theorem x_cursorSteps (k0 : Nat) (l : List Int) (kind : Int) (n : Int) : execF Δ0 Γ_cursorSteps (l_cursorSteps k0 ) b_cursorSteps Try.f4.results Try.f4.ntmps [.val (false, [(none, ⟨.slice (.int .i64), l⟩)]), .val (false, [(none, ⟨.int .i64, kind⟩)]), .val (false, [(none, ⟨.int .i64, n⟩)])] = m_cursorSteps k0 l kind n := by kernel_rfl
theorem cursorSteps_true (d : Tup [.slice (.int .i64), .int .i64, .int .i64]) (h : WfT [.slice (.int .i64), .int .i64, .int .i64] d) : execF Δ0 Γ_cursorSteps (l_cursorSteps 20 ) b_cursorSteps Try.f4.results Try.f4.ntmps (argsT [.slice (.int .i64), .int .i64, .int .i64] [false, false, false] d) = resB true :=
  (x_cursorSteps 20 d.1 d.2.1 d.2.2.1).trans (p_cursorSteps d.1 d.2.1 d.2.2.1 h)
/- jobmux/jobmuxlaw17.CursorStays -/
noncomputable def l_cursorStays : Nat → Option LoopSpec := (fun _ => none)
noncomputable def b_cursorStays : Code := (Try.f5.body).getD .skip
noncomputable def Γ_cursorStays : Env := fun f => if f = 14 then some saneS else if f = 15 then some madeS else if f = 16 then some modS else if f = 17 then some moveS else none
theorem e_cursorStays : EnvOk Try.prog Γ_cursorStays := by
  intro f G h
  unfold Γ_cursorStays at h
  split at h
  · rename_i hf; subst hf; cases h; exact ok_sane
  split at h
  · rename_i hf; subst hf; cases h; exact ok_made
  split at h
  · rename_i hf; subst hf; cases h; exact ok_mod
  split at h
  · rename_i hf; subst hf; cases h; exact ok_move
  cases h
theorem x_cursorStays (l : List Int) (n : Int) : execF Δ0 Γ_cursorStays l_cursorStays b_cursorStays Try.f5.results Try.f5.ntmps [.val (false, [(none, ⟨.slice (.int .i64), l⟩)]), .val (false, [(none, ⟨.int .i64, n⟩)])] = m_cursorStays l n := by kernel_rfl
theorem cursorStays_true (d : Tup [.slice (.int .i64), .int .i64]) (h : WfT [.slice (.int .i64), .int .i64] d) : execF Δ0 Γ_cursorStays l_cursorStays b_cursorStays Try.f5.results Try.f5.ntmps (argsT [.slice (.int .i64), .int .i64] [false, false] d) = resB true :=
  (x_cursorStays d.1 d.2.1).trans (p_cursorStays d.1 d.2.1 h)
end Go.Cur
