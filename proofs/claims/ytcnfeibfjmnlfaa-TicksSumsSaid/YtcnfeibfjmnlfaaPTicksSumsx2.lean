/- What calls of the named Go functions come to, and the row of the law, written by this session's own program out of the translation. Conditions: those that each theorem names, and for the row none beyond the given statement's own. -/
import Derived.Test.YtcnfeibfjmnlfaaPTicksSumsx0
import Derived.Test.YtcnfeibfjmnlfaaPTicksSumsx1
namespace Go.Proofs.Ytcnfeibfjmnlfaa.PTicksSums
open Go.RowKit Go.Proofs.YtcnfeibfjmnlfaaW.PrintWords Go.Proofs.YtcnfeibfjmnlfaaW.PrintLast Go.Proofs.YtcnfeibfjmnlfaaW.PrintMore
attribute [local go_sem] max2_int min2_int max_two min_two max_three min_three max_four min_four   -- for this text's walks alone
set_option linter.unusedVariables false
set_option linter.unusedSimpArgs false

/-! ### jobmuxlaw01_TicksSums: function 7 -/
def jobmuxlaw01_TicksSums.f (k : Nat) (a0 : Int) (a1 : Int) (a2 : Int) : Option (Bool) := (jobmuxlaw01_sane.f k).bind fun t110 => (if t110 = true then ((ticks_Add.f a0 a1).bind fun t111 => ((jobmuxref01_Add.f a0 a1).bind fun t112 => (if t111 = t112 then ((ticks_Sub.f a0 a1).bind fun t113 => ((jobmuxref01_Sub.f a0 a1).bind fun t114 => (if t113 = t114 then ((ticks_Double.f k a0 a2).bind fun t115 => ((jobmuxref01_Double.f k a0 a2).bind fun t116 => (if t115 = t116 then ((ticks_Double.f k a1 (Int.tmod a2 70)).bind fun t117 => ((jobmuxref01_Double.f k a1 (Int.tmod a2 70)).bind fun t118 => (some (t117 == t118)))) else (some false)))) else (some false)))) else (some false)))) else (some false))
theorem jobmuxlaw01_TicksSums.mono : ∀ a0 a1 a2 k, LeO (jobmuxlaw01_TicksSums.f k a0 a1 a2) (jobmuxlaw01_TicksSums.f (k + 1) a0 a1 a2) := by
  intro a0 a1 a2 k
  unfold jobmuxlaw01_TicksSums.f
  repeat' first
      | (with_reducible exact jobmuxlaw01_sane.mono _)
      | (with_reducible exact jobmuxref01_Double.mono _ _ _)
      | (with_reducible exact ticks_Double.mono _ _ _)
      | (with_reducible exact LeO.refl _)
      | (with_reducible exact LeO.none _)
      | (with_reducible refine LeO.ite ?_ ?_)
      | (with_reducible refine LeO.bind ?_ (fun _ => ?_))
      | exact jobmuxlaw01_sane.mono _
      | exact jobmuxref01_Double.mono _ _ _
      | exact ticks_Double.mono _ _ _
      | exact LeO.none _
      | refine LeO.ite ?_ ?_
      | refine LeO.bind ?_ (fun _ => ?_)
set_option maxHeartbeats 8000000 in
set_option maxRecDepth 100000 in
theorem jobmuxlaw01_TicksSums.calls (k : Nat) (a0 : Int) (a1 : Int) (a2 : Int) (r : Bool) (w : World) (h : jobmuxlaw01_TicksSums.f k a0 a1 a2 = some r) :
    Calls Try.prog 7 #[.int .u64 a0, .int .u64 a1, .int .i64 a2] w fun e w' => e = .returned (.bool r) ∧ Below w.heap.size w w' := by
  have HB := Aside0.mk (Below.refl w.heap.size w)
  have H : ((jobmuxlaw01_sane.f k).bind fun t110 => (if t110 = true then ((ticks_Add.f a0 a1).bind fun t111 => ((jobmuxref01_Add.f a0 a1).bind fun t112 => (if t111 = t112 then ((ticks_Sub.f a0 a1).bind fun t113 => ((jobmuxref01_Sub.f a0 a1).bind fun t114 => (if t113 = t114 then ((ticks_Double.f k a0 a2).bind fun t115 => ((jobmuxref01_Double.f k a0 a2).bind fun t116 => (if t115 = t116 then ((ticks_Double.f k a1 (Int.tmod a2 70)).bind fun t117 => ((jobmuxref01_Double.f k a1 (Int.tmod a2 70)).bind fun t118 => (some (t117 == t118)))) else (some false)))) else (some false)))) else (some false)))) else (some false))) = some r := h
  clear h
  replace H := Option.bind_eq_some_iff.mp H
  obtain ⟨t110, A40, H⟩ := H
  replace H : (if t110 = true then ((ticks_Add.f a0 a1).bind fun t111 => ((jobmuxref01_Add.f a0 a1).bind fun t112 => (if t111 = t112 then ((ticks_Sub.f a0 a1).bind fun t113 => ((jobmuxref01_Sub.f a0 a1).bind fun t114 => (if t113 = t114 then ((ticks_Double.f k a0 a2).bind fun t115 => ((jobmuxref01_Double.f k a0 a2).bind fun t116 => (if t115 = t116 then ((ticks_Double.f k a1 (Int.tmod a2 70)).bind fun t117 => ((jobmuxref01_Double.f k a1 (Int.tmod a2 70)).bind fun t118 => (some (t117 == t118)))) else (some false)))) else (some false)))) else (some false)))) else (some false)) = some r := H
  have A4 := Aside0.mk A40
  clear A40
  by_cases c5 : t110 = true
  · subst c5
    have H1 : ((ticks_Add.f a0 a1).bind fun t111 => ((jobmuxref01_Add.f a0 a1).bind fun t112 => (if t111 = t112 then ((ticks_Sub.f a0 a1).bind fun t113 => ((jobmuxref01_Sub.f a0 a1).bind fun t114 => (if t113 = t114 then ((ticks_Double.f k a0 a2).bind fun t115 => ((jobmuxref01_Double.f k a0 a2).bind fun t116 => (if t115 = t116 then ((ticks_Double.f k a1 (Int.tmod a2 70)).bind fun t117 => ((jobmuxref01_Double.f k a1 (Int.tmod a2 70)).bind fun t118 => (some (t117 == t118)))) else (some false)))) else (some false)))) else (some false)))) = some r := by rw [if_pos rfl] at H; exact H
    clear H
    have H := H1
    clear H1
    replace H := Option.bind_eq_some_iff.mp H
    obtain ⟨t111, A60, H⟩ := H
    replace H : ((jobmuxref01_Add.f a0 a1).bind fun t112 => (if t111 = t112 then ((ticks_Sub.f a0 a1).bind fun t113 => ((jobmuxref01_Sub.f a0 a1).bind fun t114 => (if t113 = t114 then ((ticks_Double.f k a0 a2).bind fun t115 => ((jobmuxref01_Double.f k a0 a2).bind fun t116 => (if t115 = t116 then ((ticks_Double.f k a1 (Int.tmod a2 70)).bind fun t117 => ((jobmuxref01_Double.f k a1 (Int.tmod a2 70)).bind fun t118 => (some (t117 == t118)))) else (some false)))) else (some false)))) else (some false))) = some r := H
    have A6 := Aside0.mk A60
    clear A60
    replace H := Option.bind_eq_some_iff.mp H
    obtain ⟨t112, A70, H⟩ := H
    replace H : (if t111 = t112 then ((ticks_Sub.f a0 a1).bind fun t113 => ((jobmuxref01_Sub.f a0 a1).bind fun t114 => (if t113 = t114 then ((ticks_Double.f k a0 a2).bind fun t115 => ((jobmuxref01_Double.f k a0 a2).bind fun t116 => (if t115 = t116 then ((ticks_Double.f k a1 (Int.tmod a2 70)).bind fun t117 => ((jobmuxref01_Double.f k a1 (Int.tmod a2 70)).bind fun t118 => (some (t117 == t118)))) else (some false)))) else (some false)))) else (some false)) = some r := H
    have A7 := Aside0.mk A70
    clear A70
    by_cases c8 : t111 = t112
    · rw [if_pos c8] at H
      have c8b0 : (t111 == t112) = true := beq_iff_eq.mpr c8
      have c8b1 : (t111 != t112) = false := bne_eq_false_iff_eq.mpr c8
      clear c8
      replace H := Option.bind_eq_some_iff.mp H
      obtain ⟨t113, A90, H⟩ := H
      replace H : ((jobmuxref01_Sub.f a0 a1).bind fun t114 => (if t113 = t114 then ((ticks_Double.f k a0 a2).bind fun t115 => ((jobmuxref01_Double.f k a0 a2).bind fun t116 => (if t115 = t116 then ((ticks_Double.f k a1 (Int.tmod a2 70)).bind fun t117 => ((jobmuxref01_Double.f k a1 (Int.tmod a2 70)).bind fun t118 => (some (t117 == t118)))) else (some false)))) else (some false))) = some r := H
      have A9 := Aside0.mk A90
      clear A90
      replace H := Option.bind_eq_some_iff.mp H
      obtain ⟨t114, A100, H⟩ := H
      replace H : (if t113 = t114 then ((ticks_Double.f k a0 a2).bind fun t115 => ((jobmuxref01_Double.f k a0 a2).bind fun t116 => (if t115 = t116 then ((ticks_Double.f k a1 (Int.tmod a2 70)).bind fun t117 => ((jobmuxref01_Double.f k a1 (Int.tmod a2 70)).bind fun t118 => (some (t117 == t118)))) else (some false)))) else (some false)) = some r := H
      have A10 := Aside0.mk A100
      clear A100
      by_cases c11 : t113 = t114
      · rw [if_pos c11] at H
        have c11b0 : (t113 == t114) = true := beq_iff_eq.mpr c11
        have c11b1 : (t113 != t114) = false := bne_eq_false_iff_eq.mpr c11
        clear c11
        replace H := Option.bind_eq_some_iff.mp H
        obtain ⟨t115, A120, H⟩ := H
        replace H : ((jobmuxref01_Double.f k a0 a2).bind fun t116 => (if t115 = t116 then ((ticks_Double.f k a1 (Int.tmod a2 70)).bind fun t117 => ((jobmuxref01_Double.f k a1 (Int.tmod a2 70)).bind fun t118 => (some (t117 == t118)))) else (some false))) = some r := H
        have A12 := Aside0.mk A120
        clear A120
        replace H := Option.bind_eq_some_iff.mp H
        obtain ⟨t116, A130, H⟩ := H
        replace H : (if t115 = t116 then ((ticks_Double.f k a1 (Int.tmod a2 70)).bind fun t117 => ((jobmuxref01_Double.f k a1 (Int.tmod a2 70)).bind fun t118 => (some (t117 == t118)))) else (some false)) = some r := H
        have A13 := Aside0.mk A130
        clear A130
        by_cases c14 : t115 = t116
        · rw [if_pos c14] at H
          have c14b0 : (t115 == t116) = true := beq_iff_eq.mpr c14
          have c14b1 : (t115 != t116) = false := bne_eq_false_iff_eq.mpr c14
          clear c14
          replace H := Option.bind_eq_some_iff.mp H
          obtain ⟨t117, A150, H⟩ := H
          replace H : ((jobmuxref01_Double.f k a1 (Int.tmod a2 70)).bind fun t118 => (some (t117 == t118))) = some r := H
          have A15 := Aside0.mk A150
          clear A150
          replace H := Option.bind_eq_some_iff.mp H
          obtain ⟨t118, A160, H⟩ := H
          replace H : (some (t117 == t118)) = some r := H
          have A16 := Aside0.mk A160
          clear A160
          obtain rfl := Option.some.inj H
          go_enter Try.func7, Try.ntmps7
          go_wp2_with (first | ((with_reducible refine gate_callee (f := 29) rfl ?_); refine goesL_ (some 7) rfl rfl Try.func29 (by kernel_rfl) rfl #[] rfl (by (try simp only [List.map_toArray, List.map_cons, List.map_nil]); first | done | rfl | (simp only [List.length_drop, List.length_take]; rfl)) ?_; (with_reducible refine (jobmuxlaw01_sane.calls k  true _ A4.out).mono ?_); rintro e w17 ⟨rfl, hb⟩; refine ⟨_, rfl, ?_⟩; have n0_ := Aside0.mk (below_step (by repeat (first | (with_reducible first | exact HB.out | apply below_alloc | apply pw_below_drewN | apply below_drew1) | exact HB.out)) hb); clear HB; have HB := n0_; clear n0_; (try clear hb); (try clear hb2); (try clear hk); (try clear hi)) | ((with_reducible refine gate_callee (f := 30) rfl ?_); refine goesL_ (some 11) rfl rfl Try.func30 (by kernel_rfl) rfl #[.int .u64 a0, .int .u64 a1] rfl (by (try simp only [List.map_toArray, List.map_cons, List.map_nil]); first | done | rfl | (simp only [List.length_drop, List.length_take]; rfl)) ?_; (with_reducible refine (ticks_Add.calls a0 a1 t111 _ A6.out).mono ?_); rintro e w' ⟨rfl, ⟨nd, rfl⟩⟩; refine ⟨_, rfl, ?_⟩) | ((with_reducible refine gate_callee (f := 31) rfl ?_); refine goesL_ (some 14) rfl rfl Try.func31 (by kernel_rfl) rfl #[.int .u64 a0, .int .u64 a1] rfl (by (try simp only [List.map_toArray, List.map_cons, List.map_nil]); first | done | rfl | (simp only [List.length_drop, List.length_take]; rfl)) ?_; (with_reducible refine (jobmuxref01_Add.calls a0 a1 t112 _ A7.out).mono ?_); rintro e w' ⟨rfl, ⟨nd, rfl⟩⟩; refine ⟨_, rfl, ?_⟩) | (go_at_call 32; (with_reducible refine (ticks_Sub.calls a0 a1 t113 _ A9.out).mono ?_); rintro e w' ⟨rfl, ⟨nd, rfl⟩⟩) | (go_at_call 33; (with_reducible refine (jobmuxref01_Sub.calls a0 a1 t114 _ A10.out).mono ?_); rintro e w18 ⟨rfl, hb⟩; have n0_ := Aside0.mk (below_step (by repeat (first | (with_reducible first | exact HB.out | apply below_alloc | apply pw_below_drewN | apply below_drew1) | exact HB.out)) hb); clear HB; have HB := n0_; clear n0_; (try clear hb); (try clear hb2); (try clear hk); (try clear hi)) | (go_at_call 34; (with_reducible refine (ticks_Double.calls k a0 a2 t115 _ A12.out).mono ?_); rintro e w' ⟨rfl, ⟨nd, rfl⟩⟩) | (go_at_call 35; (with_reducible refine (jobmuxref01_Double.calls k a0 a2 t116 _ A13.out).mono ?_); rintro e w' ⟨rfl, ⟨nd, rfl⟩⟩) | (go_at_call 34; (with_reducible refine (ticks_Double.calls k a1 (Int.tmod a2 70) t117 _ A15.out).mono ?_); rintro e w' ⟨rfl, ⟨nd, rfl⟩⟩) | (go_at_call 35; (with_reducible refine (jobmuxref01_Double.calls k a1 (Int.tmod a2 70) t118 _ A16.out).mono ?_); rintro e w' ⟨rfl, ⟨nd, rfl⟩⟩))
          go_ret
          exact ⟨by first | rfl | (simp [errW_none, errW_some] <;> rfl) | (simp [*, errW_none, errW_some] <;> rfl), by repeat (first | (with_reducible first | exact HB.out | apply below_alloc | apply pw_below_drewN | apply below_drew1) | exact HB.out)⟩
        · rw [if_neg c14] at H
          have c14b0 : (t115 == t116) = false := beq_eq_false_iff_ne.mpr c14
          have c14b1 : (t115 != t116) = true := bne_iff_ne.mpr c14
          obtain rfl := Option.some.inj H
          go_enter Try.func7, Try.ntmps7
          go_wp2_with (first | ((with_reducible refine gate_callee (f := 29) rfl ?_); refine goesL_ (some 7) rfl rfl Try.func29 (by kernel_rfl) rfl #[] rfl (by (try simp only [List.map_toArray, List.map_cons, List.map_nil]); first | done | rfl | (simp only [List.length_drop, List.length_take]; rfl)) ?_; (with_reducible refine (jobmuxlaw01_sane.calls k  true _ A4.out).mono ?_); rintro e w19 ⟨rfl, hb⟩; refine ⟨_, rfl, ?_⟩; have n0_ := Aside0.mk (below_step (by repeat (first | (with_reducible first | exact HB.out | apply below_alloc | apply pw_below_drewN | apply below_drew1) | exact HB.out)) hb); clear HB; have HB := n0_; clear n0_; (try clear hb); (try clear hb2); (try clear hk); (try clear hi)) | ((with_reducible refine gate_callee (f := 30) rfl ?_); refine goesL_ (some 11) rfl rfl Try.func30 (by kernel_rfl) rfl #[.int .u64 a0, .int .u64 a1] rfl (by (try simp only [List.map_toArray, List.map_cons, List.map_nil]); first | done | rfl | (simp only [List.length_drop, List.length_take]; rfl)) ?_; (with_reducible refine (ticks_Add.calls a0 a1 t111 _ A6.out).mono ?_); rintro e w' ⟨rfl, ⟨nd, rfl⟩⟩; refine ⟨_, rfl, ?_⟩) | ((with_reducible refine gate_callee (f := 31) rfl ?_); refine goesL_ (some 14) rfl rfl Try.func31 (by kernel_rfl) rfl #[.int .u64 a0, .int .u64 a1] rfl (by (try simp only [List.map_toArray, List.map_cons, List.map_nil]); first | done | rfl | (simp only [List.length_drop, List.length_take]; rfl)) ?_; (with_reducible refine (jobmuxref01_Add.calls a0 a1 t112 _ A7.out).mono ?_); rintro e w' ⟨rfl, ⟨nd, rfl⟩⟩; refine ⟨_, rfl, ?_⟩) | (go_at_call 32; (with_reducible refine (ticks_Sub.calls a0 a1 t113 _ A9.out).mono ?_); rintro e w' ⟨rfl, ⟨nd, rfl⟩⟩) | (go_at_call 33; (with_reducible refine (jobmuxref01_Sub.calls a0 a1 t114 _ A10.out).mono ?_); rintro e w20 ⟨rfl, hb⟩; have n0_ := Aside0.mk (below_step (by repeat (first | (with_reducible first | exact HB.out | apply below_alloc | apply pw_below_drewN | apply below_drew1) | exact HB.out)) hb); clear HB; have HB := n0_; clear n0_; (try clear hb); (try clear hb2); (try clear hk); (try clear hi)) | (go_at_call 34; (with_reducible refine (ticks_Double.calls k a0 a2 t115 _ A12.out).mono ?_); rintro e w' ⟨rfl, ⟨nd, rfl⟩⟩) | (go_at_call 35; (with_reducible refine (jobmuxref01_Double.calls k a0 a2 t116 _ A13.out).mono ?_); rintro e w' ⟨rfl, ⟨nd, rfl⟩⟩))
          go_ret
          exact ⟨by first | rfl | (simp [errW_none, errW_some] <;> rfl) | (simp [*, errW_none, errW_some] <;> rfl), by repeat (first | (with_reducible first | exact HB.out | apply below_alloc | apply pw_below_drewN | apply below_drew1) | exact HB.out)⟩
      · rw [if_neg c11] at H
        have c11b0 : (t113 == t114) = false := beq_eq_false_iff_ne.mpr c11
        have c11b1 : (t113 != t114) = true := bne_iff_ne.mpr c11
        obtain rfl := Option.some.inj H
        go_enter Try.func7, Try.ntmps7
        go_wp2_with (first | ((with_reducible refine gate_callee (f := 29) rfl ?_); refine goesL_ (some 7) rfl rfl Try.func29 (by kernel_rfl) rfl #[] rfl (by (try simp only [List.map_toArray, List.map_cons, List.map_nil]); first | done | rfl | (simp only [List.length_drop, List.length_take]; rfl)) ?_; (with_reducible refine (jobmuxlaw01_sane.calls k  true _ A4.out).mono ?_); rintro e w21 ⟨rfl, hb⟩; refine ⟨_, rfl, ?_⟩; have n0_ := Aside0.mk (below_step (by repeat (first | (with_reducible first | exact HB.out | apply below_alloc | apply pw_below_drewN | apply below_drew1) | exact HB.out)) hb); clear HB; have HB := n0_; clear n0_; (try clear hb); (try clear hb2); (try clear hk); (try clear hi)) | ((with_reducible refine gate_callee (f := 30) rfl ?_); refine goesL_ (some 11) rfl rfl Try.func30 (by kernel_rfl) rfl #[.int .u64 a0, .int .u64 a1] rfl (by (try simp only [List.map_toArray, List.map_cons, List.map_nil]); first | done | rfl | (simp only [List.length_drop, List.length_take]; rfl)) ?_; (with_reducible refine (ticks_Add.calls a0 a1 t111 _ A6.out).mono ?_); rintro e w' ⟨rfl, ⟨nd, rfl⟩⟩; refine ⟨_, rfl, ?_⟩) | ((with_reducible refine gate_callee (f := 31) rfl ?_); refine goesL_ (some 14) rfl rfl Try.func31 (by kernel_rfl) rfl #[.int .u64 a0, .int .u64 a1] rfl (by (try simp only [List.map_toArray, List.map_cons, List.map_nil]); first | done | rfl | (simp only [List.length_drop, List.length_take]; rfl)) ?_; (with_reducible refine (jobmuxref01_Add.calls a0 a1 t112 _ A7.out).mono ?_); rintro e w' ⟨rfl, ⟨nd, rfl⟩⟩; refine ⟨_, rfl, ?_⟩) | (go_at_call 32; (with_reducible refine (ticks_Sub.calls a0 a1 t113 _ A9.out).mono ?_); rintro e w' ⟨rfl, ⟨nd, rfl⟩⟩) | (go_at_call 33; (with_reducible refine (jobmuxref01_Sub.calls a0 a1 t114 _ A10.out).mono ?_); rintro e w22 ⟨rfl, hb⟩; have n0_ := Aside0.mk (below_step (by repeat (first | (with_reducible first | exact HB.out | apply below_alloc | apply pw_below_drewN | apply below_drew1) | exact HB.out)) hb); clear HB; have HB := n0_; clear n0_; (try clear hb); (try clear hb2); (try clear hk); (try clear hi)))
        go_ret
        exact ⟨by first | rfl | (simp [errW_none, errW_some] <;> rfl) | (simp [*, errW_none, errW_some] <;> rfl), by repeat (first | (with_reducible first | exact HB.out | apply below_alloc | apply pw_below_drewN | apply below_drew1) | exact HB.out)⟩
    · rw [if_neg c8] at H
      have c8b0 : (t111 == t112) = false := beq_eq_false_iff_ne.mpr c8
      have c8b1 : (t111 != t112) = true := bne_iff_ne.mpr c8
      obtain rfl := Option.some.inj H
      go_enter Try.func7, Try.ntmps7
      go_wp2_with (first | ((with_reducible refine gate_callee (f := 29) rfl ?_); refine goesL_ (some 7) rfl rfl Try.func29 (by kernel_rfl) rfl #[] rfl (by (try simp only [List.map_toArray, List.map_cons, List.map_nil]); first | done | rfl | (simp only [List.length_drop, List.length_take]; rfl)) ?_; (with_reducible refine (jobmuxlaw01_sane.calls k  true _ A4.out).mono ?_); rintro e w23 ⟨rfl, hb⟩; refine ⟨_, rfl, ?_⟩; have n0_ := Aside0.mk (below_step (by repeat (first | (with_reducible first | exact HB.out | apply below_alloc | apply pw_below_drewN | apply below_drew1) | exact HB.out)) hb); clear HB; have HB := n0_; clear n0_; (try clear hb); (try clear hb2); (try clear hk); (try clear hi)) | ((with_reducible refine gate_callee (f := 30) rfl ?_); refine goesL_ (some 11) rfl rfl Try.func30 (by kernel_rfl) rfl #[.int .u64 a0, .int .u64 a1] rfl (by (try simp only [List.map_toArray, List.map_cons, List.map_nil]); first | done | rfl | (simp only [List.length_drop, List.length_take]; rfl)) ?_; (with_reducible refine (ticks_Add.calls a0 a1 t111 _ A6.out).mono ?_); rintro e w' ⟨rfl, ⟨nd, rfl⟩⟩; refine ⟨_, rfl, ?_⟩) | ((with_reducible refine gate_callee (f := 31) rfl ?_); refine goesL_ (some 14) rfl rfl Try.func31 (by kernel_rfl) rfl #[.int .u64 a0, .int .u64 a1] rfl (by (try simp only [List.map_toArray, List.map_cons, List.map_nil]); first | done | rfl | (simp only [List.length_drop, List.length_take]; rfl)) ?_; (with_reducible refine (jobmuxref01_Add.calls a0 a1 t112 _ A7.out).mono ?_); rintro e w' ⟨rfl, ⟨nd, rfl⟩⟩; refine ⟨_, rfl, ?_⟩))
      go_ret
      exact ⟨by first | rfl | (simp [errW_none, errW_some] <;> rfl) | (simp [*, errW_none, errW_some] <;> rfl), by repeat (first | (with_reducible first | exact HB.out | apply below_alloc | apply pw_below_drewN | apply below_drew1) | exact HB.out)⟩
  · replace c5 := Bool.eq_false_iff.mpr c5
    subst c5
    have H1 : (some false) = some r := by rw [if_neg (show ¬ (false = true) by decide)] at H; exact H
    clear H
    have H := H1
    clear H1
    obtain rfl := Option.some.inj H
    go_enter Try.func7, Try.ntmps7
    go_wp2_with (first | ((with_reducible refine gate_callee (f := 29) rfl ?_); refine goesL_ (some 7) rfl rfl Try.func29 (by kernel_rfl) rfl #[] rfl (by (try simp only [List.map_toArray, List.map_cons, List.map_nil]); first | done | rfl | (simp only [List.length_drop, List.length_take]; rfl)) ?_; (with_reducible refine (jobmuxlaw01_sane.calls k  false _ A4.out).mono ?_); rintro e w24 ⟨rfl, hb⟩; refine ⟨_, rfl, ?_⟩; have n0_ := Aside0.mk (below_step (by repeat (first | (with_reducible first | exact HB.out | apply below_alloc | apply pw_below_drewN | apply below_drew1) | exact HB.out)) hb); clear HB; have HB := n0_; clear n0_; (try clear hb); (try clear hb2); (try clear hk); (try clear hi)))
    go_ret
    exact ⟨by first | rfl | (simp [errW_none, errW_some] <;> rfl) | (simp [*, errW_none, errW_some] <;> rfl), by repeat (first | (with_reducible first | exact HB.out | apply below_alloc | apply pw_below_drewN | apply below_drew1) | exact HB.out)⟩

/-- THE ONE PURE STATEMENT of jobmuxlaw01_TicksSums: yours. -/
def jobmuxlaw01_TicksSums.Pure : Prop := ∀ (a0 : Int) (a1 : Int) (a2 : Int), (Lit.int .u64 a0).wf = true → (Lit.int .u64 a1).wf = true → (Lit.int .i64 a2).wf = true → ∃ k, jobmuxlaw01_TicksSums.f k a0 a1 a2 = some true
theorem jobmuxlaw01_TicksSums.walk (P : jobmuxlaw01_TicksSums.Pure) (a0 : Int) (a1 : Int) (a2 : Int) (w : World) (w0 : (Lit.int .u64 a0).wf = true) (w1 : (Lit.int .u64 a1).wf = true) (w2 : (Lit.int .i64 a2).wf = true) :
    Calls Try.prog 7 #[.int .u64 a0, .int .u64 a1, .int .i64 a2] w fun e w' => e = .returned (.bool true) ∧ Below w.heap.size w w' := by
  obtain ⟨k, h⟩ := P a0 a1 a2 w0 w1 w2
  refine (jobmuxlaw01_TicksSums.calls k a0 a1 a2 true w h).mono ?_
  rintro e w' ⟨rfl, hd⟩
  exact ⟨rfl, hd⟩

end Go.Proofs.Ytcnfeibfjmnlfaa.PTicksSums
