/- What calls of the named Go functions come to, and the row of the law, written by this session's own program out of the translation. Conditions: those that each theorem names, and for the row none beyond the given statement's own. -/
import Derived.Test.YtcnfeibfjmnlfaaPTicksDelaysx0
import Derived.Test.YtcnfeibfjmnlfaaPTicksDelaysx1
namespace Go.Proofs.Ytcnfeibfjmnlfaa.PTicksDelays
open Go.RowKit Go.Proofs.YtcnfeibfjmnlfaaW.PrintWords Go.Proofs.YtcnfeibfjmnlfaaW.PrintLast Go.Proofs.YtcnfeibfjmnlfaaW.PrintMore
attribute [local go_sem] max2_int min2_int max_two min_two max_three min_three max_four min_four   -- for this text's walks alone
set_option linter.unusedVariables false
set_option linter.unusedSimpArgs false

/-! ### jobmuxlaw01_TicksDelays: function 8 -/
def jobmuxlaw01_TicksDelays.f (k : Nat) (a0 : Int) (a1 : Int) (a2 : Int) (a3 : Int) : Option (Bool) := (jobmuxlaw01_sane.f k).bind fun t112 => (if t112 = true then ((ticks_Delay.f k a0 a1 a2 a3).bind fun t113 => ((jobmuxref01_Delay.f k a0 a1 a2 a3).bind fun t114 => (if t113 = t114 then ((ticks_Delay.f k (Int.tmod a0 1000) a1 (Int.tmod a2 80) (Int.tmod a3 1000)).bind fun t115 => ((jobmuxref01_Delay.f k (Int.tmod a0 1000) a1 (Int.tmod a2 80) (Int.tmod a3 1000)).bind fun t116 => (some (t115 == t116)))) else (some false)))) else (some false))
theorem jobmuxlaw01_TicksDelays.mono : ∀ a0 a1 a2 a3 k, LeO (jobmuxlaw01_TicksDelays.f k a0 a1 a2 a3) (jobmuxlaw01_TicksDelays.f (k + 1) a0 a1 a2 a3) := by
  intro a0 a1 a2 a3 k
  unfold jobmuxlaw01_TicksDelays.f
  repeat' first
      | (with_reducible exact jobmuxlaw01_sane.mono _)
      | (with_reducible exact jobmuxref01_Delay.mono _ _ _ _ _)
      | (with_reducible exact ticks_Delay.mono _ _ _ _ _)
      | (with_reducible exact LeO.refl _)
      | (with_reducible exact LeO.none _)
      | (with_reducible refine LeO.ite ?_ ?_)
      | (with_reducible refine LeO.bind ?_ (fun _ => ?_))
      | exact jobmuxlaw01_sane.mono _
      | exact jobmuxref01_Delay.mono _ _ _ _ _
      | exact ticks_Delay.mono _ _ _ _ _
      | exact LeO.none _
      | refine LeO.ite ?_ ?_
      | refine LeO.bind ?_ (fun _ => ?_)
set_option maxHeartbeats 8000000 in
set_option maxRecDepth 100000 in
theorem jobmuxlaw01_TicksDelays.calls (k : Nat) (a0 : Int) (a1 : Int) (a2 : Int) (a3 : Int) (r : Bool) (w : World) (h : jobmuxlaw01_TicksDelays.f k a0 a1 a2 a3 = some r) :
    Calls Try.prog 8 #[.int .u64 a0, .int .u64 a1, .int .i64 a2, .int .u64 a3] w fun e w' => e = .returned (.bool r) ∧ Below w.heap.size w w' := by
  have HB := Aside0.mk (Below.refl w.heap.size w)
  have H : ((jobmuxlaw01_sane.f k).bind fun t112 => (if t112 = true then ((ticks_Delay.f k a0 a1 a2 a3).bind fun t113 => ((jobmuxref01_Delay.f k a0 a1 a2 a3).bind fun t114 => (if t113 = t114 then ((ticks_Delay.f k (Int.tmod a0 1000) a1 (Int.tmod a2 80) (Int.tmod a3 1000)).bind fun t115 => ((jobmuxref01_Delay.f k (Int.tmod a0 1000) a1 (Int.tmod a2 80) (Int.tmod a3 1000)).bind fun t116 => (some (t115 == t116)))) else (some false)))) else (some false))) = some r := h
  clear h
  replace H := Option.bind_eq_some_iff.mp H
  obtain ⟨t112, A50, H⟩ := H
  replace H : (if t112 = true then ((ticks_Delay.f k a0 a1 a2 a3).bind fun t113 => ((jobmuxref01_Delay.f k a0 a1 a2 a3).bind fun t114 => (if t113 = t114 then ((ticks_Delay.f k (Int.tmod a0 1000) a1 (Int.tmod a2 80) (Int.tmod a3 1000)).bind fun t115 => ((jobmuxref01_Delay.f k (Int.tmod a0 1000) a1 (Int.tmod a2 80) (Int.tmod a3 1000)).bind fun t116 => (some (t115 == t116)))) else (some false)))) else (some false)) = some r := H
  have A5 := Aside0.mk A50
  clear A50
  by_cases c6 : t112 = true
  · subst c6
    have H1 : ((ticks_Delay.f k a0 a1 a2 a3).bind fun t113 => ((jobmuxref01_Delay.f k a0 a1 a2 a3).bind fun t114 => (if t113 = t114 then ((ticks_Delay.f k (Int.tmod a0 1000) a1 (Int.tmod a2 80) (Int.tmod a3 1000)).bind fun t115 => ((jobmuxref01_Delay.f k (Int.tmod a0 1000) a1 (Int.tmod a2 80) (Int.tmod a3 1000)).bind fun t116 => (some (t115 == t116)))) else (some false)))) = some r := by rw [if_pos rfl] at H; exact H
    clear H
    have H := H1
    clear H1
    replace H := Option.bind_eq_some_iff.mp H
    obtain ⟨t113, A70, H⟩ := H
    replace H : ((jobmuxref01_Delay.f k a0 a1 a2 a3).bind fun t114 => (if t113 = t114 then ((ticks_Delay.f k (Int.tmod a0 1000) a1 (Int.tmod a2 80) (Int.tmod a3 1000)).bind fun t115 => ((jobmuxref01_Delay.f k (Int.tmod a0 1000) a1 (Int.tmod a2 80) (Int.tmod a3 1000)).bind fun t116 => (some (t115 == t116)))) else (some false))) = some r := H
    have A7 := Aside0.mk A70
    clear A70
    replace H := Option.bind_eq_some_iff.mp H
    obtain ⟨t114, A80, H⟩ := H
    replace H : (if t113 = t114 then ((ticks_Delay.f k (Int.tmod a0 1000) a1 (Int.tmod a2 80) (Int.tmod a3 1000)).bind fun t115 => ((jobmuxref01_Delay.f k (Int.tmod a0 1000) a1 (Int.tmod a2 80) (Int.tmod a3 1000)).bind fun t116 => (some (t115 == t116)))) else (some false)) = some r := H
    have A8 := Aside0.mk A80
    clear A80
    by_cases c9 : t113 = t114
    · rw [if_pos c9] at H
      have c9b0 : (t113 == t114) = true := beq_iff_eq.mpr c9
      have c9b1 : (t113 != t114) = false := bne_eq_false_iff_eq.mpr c9
      clear c9
      replace H := Option.bind_eq_some_iff.mp H
      obtain ⟨t115, A100, H⟩ := H
      replace H : ((jobmuxref01_Delay.f k (Int.tmod a0 1000) a1 (Int.tmod a2 80) (Int.tmod a3 1000)).bind fun t116 => (some (t115 == t116))) = some r := H
      have A10 := Aside0.mk A100
      clear A100
      replace H := Option.bind_eq_some_iff.mp H
      obtain ⟨t116, A110, H⟩ := H
      replace H : (some (t115 == t116)) = some r := H
      have A11 := Aside0.mk A110
      clear A110
      obtain rfl := Option.some.inj H
      go_enter Try.func8, Try.ntmps8
      go_wp2_with (first | ((with_reducible refine gate_callee (f := 29) rfl ?_); refine goesL_ (some 9) rfl rfl Try.func29 (by kernel_rfl) rfl #[] rfl (by (try simp only [List.map_toArray, List.map_cons, List.map_nil]); first | done | rfl | (simp only [List.length_drop, List.length_take]; rfl)) ?_; (with_reducible refine (jobmuxlaw01_sane.calls k  true _ A5.out).mono ?_); rintro e w12 ⟨rfl, hb⟩; refine ⟨_, rfl, ?_⟩; have n0_ := Aside0.mk (below_step (by repeat (first | (with_reducible first | exact HB.out | apply below_alloc | apply pw_below_drewN | apply below_drew1) | exact HB.out)) hb); clear HB; have HB := n0_; clear n0_; (try clear hb); (try clear hb2); (try clear hk); (try clear hi)) | ((with_reducible refine gate_callee (f := 36) rfl ?_); refine goesL_ (some 15) rfl rfl Try.func36 (by kernel_rfl) rfl #[.int .u64 a0, .int .u64 a1, .int .i64 a2, .int .u64 a3] rfl (by (try simp only [List.map_toArray, List.map_cons, List.map_nil]); first | done | rfl | (simp only [List.length_drop, List.length_take]; rfl)) ?_; (with_reducible refine (ticks_Delay.calls k a0 a1 a2 a3 t113 _ A7.out).mono ?_); rintro e w13 ⟨rfl, hb⟩; refine ⟨_, rfl, ?_⟩; have n0_ := Aside0.mk (below_step (by repeat (first | (with_reducible first | exact HB.out | apply below_alloc | apply pw_below_drewN | apply below_drew1) | exact HB.out)) hb); clear HB; have HB := n0_; clear n0_; (try clear hb); (try clear hb2); (try clear hk); (try clear hi)) | ((with_reducible refine gate_callee (f := 37) rfl ?_); refine goesL_ (some 20) rfl rfl Try.func37 (by kernel_rfl) rfl #[.int .u64 a0, .int .u64 a1, .int .i64 a2, .int .u64 a3] rfl (by (try simp only [List.map_toArray, List.map_cons, List.map_nil]); first | done | rfl | (simp only [List.length_drop, List.length_take]; rfl)) ?_; (with_reducible refine (jobmuxref01_Delay.calls k a0 a1 a2 a3 t114 _ A8.out).mono ?_); rintro e w14 ⟨rfl, hb⟩; refine ⟨_, rfl, ?_⟩; have n0_ := Aside0.mk (below_step (by repeat (first | (with_reducible first | exact HB.out | apply below_alloc | apply pw_below_drewN | apply below_drew1) | exact HB.out)) hb); clear HB; have HB := n0_; clear n0_; (try clear hb); (try clear hb2); (try clear hk); (try clear hi)) | (go_at_call 36; (with_reducible refine (ticks_Delay.calls k (Int.tmod a0 1000) a1 (Int.tmod a2 80) (Int.tmod a3 1000) t115 _ A10.out).mono ?_); rintro e w15 ⟨rfl, hb⟩; have n0_ := Aside0.mk (below_step (by repeat (first | (with_reducible first | exact HB.out | apply below_alloc | apply pw_below_drewN | apply below_drew1) | exact HB.out)) hb); clear HB; have HB := n0_; clear n0_; (try clear hb); (try clear hb2); (try clear hk); (try clear hi)) | (go_at_call 37; (with_reducible refine (jobmuxref01_Delay.calls k (Int.tmod a0 1000) a1 (Int.tmod a2 80) (Int.tmod a3 1000) t116 _ A11.out).mono ?_); rintro e w16 ⟨rfl, hb⟩; have n0_ := Aside0.mk (below_step (by repeat (first | (with_reducible first | exact HB.out | apply below_alloc | apply pw_below_drewN | apply below_drew1) | exact HB.out)) hb); clear HB; have HB := n0_; clear n0_; (try clear hb); (try clear hb2); (try clear hk); (try clear hi)))
      go_ret
      exact ⟨by first | rfl | (simp [errW_none, errW_some] <;> rfl) | (simp [*, errW_none, errW_some] <;> rfl), by repeat (first | (with_reducible first | exact HB.out | apply below_alloc | apply pw_below_drewN | apply below_drew1) | exact HB.out)⟩
    · rw [if_neg c9] at H
      have c9b0 : (t113 == t114) = false := beq_eq_false_iff_ne.mpr c9
      have c9b1 : (t113 != t114) = true := bne_iff_ne.mpr c9
      obtain rfl := Option.some.inj H
      go_enter Try.func8, Try.ntmps8
      go_wp2_with (first | ((with_reducible refine gate_callee (f := 29) rfl ?_); refine goesL_ (some 9) rfl rfl Try.func29 (by kernel_rfl) rfl #[] rfl (by (try simp only [List.map_toArray, List.map_cons, List.map_nil]); first | done | rfl | (simp only [List.length_drop, List.length_take]; rfl)) ?_; (with_reducible refine (jobmuxlaw01_sane.calls k  true _ A5.out).mono ?_); rintro e w17 ⟨rfl, hb⟩; refine ⟨_, rfl, ?_⟩; have n0_ := Aside0.mk (below_step (by repeat (first | (with_reducible first | exact HB.out | apply below_alloc | apply pw_below_drewN | apply below_drew1) | exact HB.out)) hb); clear HB; have HB := n0_; clear n0_; (try clear hb); (try clear hb2); (try clear hk); (try clear hi)) | ((with_reducible refine gate_callee (f := 36) rfl ?_); refine goesL_ (some 15) rfl rfl Try.func36 (by kernel_rfl) rfl #[.int .u64 a0, .int .u64 a1, .int .i64 a2, .int .u64 a3] rfl (by (try simp only [List.map_toArray, List.map_cons, List.map_nil]); first | done | rfl | (simp only [List.length_drop, List.length_take]; rfl)) ?_; (with_reducible refine (ticks_Delay.calls k a0 a1 a2 a3 t113 _ A7.out).mono ?_); rintro e w18 ⟨rfl, hb⟩; refine ⟨_, rfl, ?_⟩; have n0_ := Aside0.mk (below_step (by repeat (first | (with_reducible first | exact HB.out | apply below_alloc | apply pw_below_drewN | apply below_drew1) | exact HB.out)) hb); clear HB; have HB := n0_; clear n0_; (try clear hb); (try clear hb2); (try clear hk); (try clear hi)) | ((with_reducible refine gate_callee (f := 37) rfl ?_); refine goesL_ (some 20) rfl rfl Try.func37 (by kernel_rfl) rfl #[.int .u64 a0, .int .u64 a1, .int .i64 a2, .int .u64 a3] rfl (by (try simp only [List.map_toArray, List.map_cons, List.map_nil]); first | done | rfl | (simp only [List.length_drop, List.length_take]; rfl)) ?_; (with_reducible refine (jobmuxref01_Delay.calls k a0 a1 a2 a3 t114 _ A8.out).mono ?_); rintro e w19 ⟨rfl, hb⟩; refine ⟨_, rfl, ?_⟩; have n0_ := Aside0.mk (below_step (by repeat (first | (with_reducible first | exact HB.out | apply below_alloc | apply pw_below_drewN | apply below_drew1) | exact HB.out)) hb); clear HB; have HB := n0_; clear n0_; (try clear hb); (try clear hb2); (try clear hk); (try clear hi)))
      go_ret
      exact ⟨by first | rfl | (simp [errW_none, errW_some] <;> rfl) | (simp [*, errW_none, errW_some] <;> rfl), by repeat (first | (with_reducible first | exact HB.out | apply below_alloc | apply pw_below_drewN | apply below_drew1) | exact HB.out)⟩
  · replace c6 := Bool.eq_false_iff.mpr c6
    subst c6
    have H1 : (some false) = some r := by rw [if_neg (show ¬ (false = true) by decide)] at H; exact H
    clear H
    have H := H1
    clear H1
    obtain rfl := Option.some.inj H
    go_enter Try.func8, Try.ntmps8
    go_wp2_with (first | ((with_reducible refine gate_callee (f := 29) rfl ?_); refine goesL_ (some 9) rfl rfl Try.func29 (by kernel_rfl) rfl #[] rfl (by (try simp only [List.map_toArray, List.map_cons, List.map_nil]); first | done | rfl | (simp only [List.length_drop, List.length_take]; rfl)) ?_; (with_reducible refine (jobmuxlaw01_sane.calls k  false _ A5.out).mono ?_); rintro e w20 ⟨rfl, hb⟩; refine ⟨_, rfl, ?_⟩; have n0_ := Aside0.mk (below_step (by repeat (first | (with_reducible first | exact HB.out | apply below_alloc | apply pw_below_drewN | apply below_drew1) | exact HB.out)) hb); clear HB; have HB := n0_; clear n0_; (try clear hb); (try clear hb2); (try clear hk); (try clear hi)))
    go_ret
    exact ⟨by first | rfl | (simp [errW_none, errW_some] <;> rfl) | (simp [*, errW_none, errW_some] <;> rfl), by repeat (first | (with_reducible first | exact HB.out | apply below_alloc | apply pw_below_drewN | apply below_drew1) | exact HB.out)⟩

/-- THE ONE PURE STATEMENT of jobmuxlaw01_TicksDelays: yours. -/
def jobmuxlaw01_TicksDelays.Pure : Prop := ∀ (a0 : Int) (a1 : Int) (a2 : Int) (a3 : Int), (Lit.int .u64 a0).wf = true → (Lit.int .u64 a1).wf = true → (Lit.int .i64 a2).wf = true → (Lit.int .u64 a3).wf = true → ∃ k, jobmuxlaw01_TicksDelays.f k a0 a1 a2 a3 = some true
theorem jobmuxlaw01_TicksDelays.walk (P : jobmuxlaw01_TicksDelays.Pure) (a0 : Int) (a1 : Int) (a2 : Int) (a3 : Int) (w : World) (w0 : (Lit.int .u64 a0).wf = true) (w1 : (Lit.int .u64 a1).wf = true) (w2 : (Lit.int .i64 a2).wf = true) (w3 : (Lit.int .u64 a3).wf = true) :
    Calls Try.prog 8 #[.int .u64 a0, .int .u64 a1, .int .i64 a2, .int .u64 a3] w fun e w' => e = .returned (.bool true) ∧ Below w.heap.size w w' := by
  obtain ⟨k, h⟩ := P a0 a1 a2 a3 w0 w1 w2 w3
  refine (jobmuxlaw01_TicksDelays.calls k a0 a1 a2 a3 true w h).mono ?_
  rintro e w' ⟨rfl, hd⟩
  exact ⟨rfl, hd⟩

end Go.Proofs.Ytcnfeibfjmnlfaa.PTicksDelays
