/- What the models of decks and of streams of frames come to: by plain Lean, with no program in sight. -/
import Derived.Test.YtfpmfjibbhedoaaStrM
import Derived.Test.YtfpmfjibbhedoaaFrmP
set_option linter.unusedVariables false
set_option linter.unusedSimpArgs false
set_option linter.unnecessarySimpa false
namespace Go.Str
open Go.Ab Go.RowKit Go.Frm
theorem p_new (l : List Int) (h : c_new l) : m_new l = some (r_new l) := rfl
theorem p_left (d_0 : List Int) (d_1 : Int) (h : c_left d_0 d_1) : m_left d_0 d_1 = some (r_left d_0 d_1) := rfl
theorem p_dnxt (d_0 : List Int) (d_1 : Int) (n : Int) (h : c_dnxt d_0 d_1 n) : m_dnxt d_0 d_1 n = some (r_dnxt d_0 d_1 n) := by
  obtain ⟨⟨h1, h2, h3, h4⟩, hn⟩ := h
  simp only at h1 h2 h3 h4
  unfold m_dnxt r_dnxt
  simp only [bindv]
  by_cases c : d_1 < d_0.length
  · rw [if_neg (by simpa using c), wI64 (x := d_1 + 1) (by omega), wI64 (by omega), if_pos (by omega)]
    have e : d_1 + 1 - 1 = d_1 := by omega
    rw [e, need_eq ⟨h4 _ (getD_mem d_0 d_1.toNat 0 (by omega)), hn⟩]
    simp [dnext, dadv, c]
  · rw [if_pos (by simpa using c)]
    simp [dnext, dadv, c]
theorem dnext_bound (d : Deck) {n : Int} (h : 0 < n) : 0 ≤ dnext d n ∧ dnext d n < n := by
  unfold dnext
  split
  · exact ⟨Int.emod_nonneg _ (by omega), Int.emod_lt_of_pos _ h⟩
  · omega
theorem dadv_ok {d : Deck} (h : DeckOk d) : DeckOk (dadv d) := by
  obtain ⟨h1, h2, h3, h4⟩ := h
  refine ⟨h1, ?_, ?_, h4⟩ <;> simp only [dadv] <;> split <;> omega
theorem outs_at : ∀ (i : Nat), (outs.getD i ByteArray.empty).size ≤ 8 := by
  intro i
  by_cases c : i < 12
  · have : ∀ i : Fin 12, (outs.getD i.1 ByteArray.empty).size ≤ 8 := by decide
    exact this ⟨i, c⟩
  · have : outs.getD i ByteArray.empty = ByteArray.empty := by
      rw [List.getD, List.getElem?_eq_none (by simp [outs]; omega)]; rfl
    rw [this]; decide
theorem bos_len (s : ByteArray) : (bytesOfStr s).length = s.size := by simp only [bytesOfStr, List.length_map, Array.length_toList]; rfl
theorem bos_bytes (s : ByteArray) : ∀ x ∈ bytesOfStr s, 0 ≤ x ∧ x ≤ 255 := by
  intro x hx
  simp only [bytesOfStr, List.mem_map] at hx
  obtain ⟨b, _, rfl⟩ := hx
  have := b.toNat_lt
  omega
theorem p_outp (d_0 : List Int) (d_1 : Int) (h : c_outp d_0 d_1) : m_outp d_0 d_1 = some (r_outp d_0 d_1) := by
  have h : DeckOk (d_0, (d_1, ())) := h
  have hb := dnext_bound (d_0, (d_1, ())) (n := 12) (by omega)
  unfold m_outp r_outp outP
  rw [need_eq ⟨h, by omega, by unfold Go.Frm.I64; omega⟩]
  simp only [bindv]
  have hs := outs_at (dnext (d_0, (d_1, ())) 12).toNat
  show (if 0 ≤ dnext (d_0, (d_1, ())) 12 ∧ dnext (d_0, (d_1, ())) 12 < (outs.length : Int) then _ else _) = _
  rw [if_pos ⟨hb.1, by simp [outs]; omega⟩]
  show (if dnext (d_0, (d_1, ())) 12 < (outs.length : Int) then _ else _) = _
  rw [if_pos (by simp [outs]; omega)]
  show (if (outs.getD (dnext (d_0, (d_1, ())) 12).toNat ByteArray.empty).size ≤ 9223372036854775807 then _ else _) = _
  rw [if_pos (by omega)]
  rfl
/-! ### payloads and their frames -/
def Good (p : List Int) : Prop := p.length ≤ 8 ∧ ∀ x ∈ p, 0 ≤ x ∧ x ≤ 255
theorem outP_good (d : Deck) : Good (outP d) := ⟨by unfold outP; rw [bos_len]; exact outs_at _, bos_bytes _⟩
theorem payloads_good : ∀ (k : Nat) (d : Deck), ∀ p ∈ payloads k d, Good p
  | 0, _, p, h => by simp [payloads] at h
  | k + 1, d, p, h => by
    simp only [payloads, List.mem_cons] at h
    rcases h with rfl | h
    · exact outP_good d
    · exact payloads_good k _ p h
theorem payloads_len : ∀ (k : Nat) (d : Deck), (payloads k d).length = k
  | 0, _ => rfl
  | k + 1, d => by simp [payloads, payloads_len k]
theorem enc_good {p : List Int} (h : Good p) : (encF p).1 = [0, 0, 0, (p.length : Int)] ++ p := by
  have := h.1
  unfold encF
  rw [if_pos (by omega), show (p.length : Int) / 256 % 256 = 0 by omega, show (p.length : Int) % 256 = p.length by omega]
theorem frames_cons {p : List Int} {ps : List (List Int)} (h : Good p) : framesOf (p :: ps) = ([0, 0, 0, (p.length : Int)] ++ p) ++ framesOf ps := by
  unfold framesOf
  rw [List.map_cons, List.flatten_cons, enc_good h]
theorem frames_append (ps qs : List (List Int)) : framesOf (ps ++ qs) = framesOf ps ++ framesOf qs := by simp [framesOf]
theorem frames_len : ∀ {ps : List (List Int)}, (∀ p ∈ ps, Good p) → (framesOf ps).length ≤ 12 * ps.length
  | [], _ => by simp [framesOf]
  | p :: ps, h => by
    have h1 := h p (by simp)
    have h2 := frames_len (ps := ps) fun q hq => h q (List.mem_cons_of_mem _ hq)
    have := h1.1
    rw [frames_cons h1]
    simp only [List.length_append, List.length_cons, List.length_nil]
    omega
theorem frames_bytes : ∀ {ps : List (List Int)}, (∀ p ∈ ps, Good p) → ∀ x ∈ framesOf ps, 0 ≤ x ∧ x ≤ 255
  | [], _, x, hx => by simp [framesOf] at hx
  | p :: ps, h, x, hx => by
    have h1 := h p (by simp)
    have := h1.1
    rw [frames_cons h1] at hx
    simp only [List.mem_append, List.mem_cons, List.not_mem_nil, or_false] at hx
    rcases hx with ((rfl | rfl | rfl | rfl) | hx) | hx
    · omega
    · omega
    · omega
    · omega
    · exact h1.2 x hx
    · exact frames_bytes (fun q hq => h q (List.mem_cons_of_mem _ hq)) x hx
theorem p_stream (l : List Int) (h : c_stream l) : m_stream 10 l = some (r_stream l) := by
  have hL : ListOk l := h
  have h0 : DeckOk (l, ((0 : Int), ())) := ⟨hL.1, Int.le_refl _, by simp only; omega, hL.2⟩
  have hb := dnext_bound (l, ((0 : Int), ())) (n := 6) (by omega)
  unfold m_stream
  simp only [bindv]
  rw [need_eq ⟨h0, by omega, by unfold Go.Frm.I64; omega⟩]
  unfold r_stream wantP
  obtain ⟨k, hk⟩ : ∃ k : Nat, dnext (l, ((0 : Int), ())) 6 = k := ⟨_, (Int.toNat_of_nonneg hb.1).symm⟩
  rw [hk, Int.toNat_natCast]
  have hk5 : k ≤ 5 := by omega
  have hd := dadv_ok h0
  generalize dadv (l, ((0 : Int), ())) = d0 at hd
  have hg := payloads_good k d0
  have hpl := payloads_len k d0
  refine loop_to (fun d => ∃ (i : Nat) (e : Deck) (out : List (List Int)), d = ((i : Int), e.1, e.2.1, out, framesOf out, ()) ∧ i ≤ k ∧ DeckOk e ∧ out ++ payloads i e = payloads k d0) (fun d => d.1.toNat) ?_ ⟨k, d0, [], rfl, Nat.le_refl _, hd, rfl⟩ (by simp only; omega)
  rintro d ⟨i, e, out, rfl, hi, he, hout⟩
  simp only
  cases i with
  | zero =>
    left; intro again
    rw [if_neg (by simp)]
    simp only [payloads, List.append_nil] at hout
    rw [hout]
  | succ i =>
    right
    have hgo : Good (outP e) := outP_good e
    have hgout : ∀ p ∈ out, Good p := fun p hp => hg p (by rw [← hout]; exact List.mem_append_left _ hp)
    have hlo : out.length ≤ 5 := by
      have := congrArg List.length hout
      rw [List.length_append, hpl] at this
      omega
    have hfl := frames_len hgout
    have hg1 := hgo.1
    have hel : (encF (outP e)).1.length ≤ 12 := by rw [enc_good hgo]; simp; omega
    refine ⟨((i : Int), (dadv e).1, (dadv e).2.1, out ++ [outP e], framesOf (out ++ [outP e]), ()), fun again => ?_, ⟨i, dadv e, out ++ [outP e], rfl, by omega, dadv_ok he, ?_⟩, by simp only; omega⟩
    · have ee : (e.1, (e.2.1, ())) = e := rfl
      rw [ee, if_pos (by first | (simp; done) | (simp; omega)), need_eq he, need_eq (by omega), if_pos (by first | (simp; done) | (simp; omega)), if_pos (by omega), wI64 (by omega), frames_append, show ((i + 1 : Nat) : Int) - 1 = i by omega]
      simp [framesOf]
    · rw [← hout]; simp [payloads]
/-! ### what is read from frames -/
theorem num_head (n : Int) (l : List Int) : numP ([0, 0, 0, n] ++ l) = n := by simp [numP]
theorem split_take : ∀ (ps : List (List Int)), (∀ p ∈ ps, Good p) → ∀ (pre : List Int) (k : Nat) (out : List (List Int)) (b : List Int), b = pre ++ (framesOf ps).take k →
    ∃ j, splitF b (b.length + 1) pre.length out = (out ++ ps.take j, ((pre.length + (framesOf (ps.take j)).length : Nat) : Int), 0) ∧ (framesOf (ps.take j)).length ≤ k ∧ ((framesOf ps).length ≤ k → ps.take j = ps)
  | [], _, pre, k, out, b, hb => by
    have hb' : b = pre := by simpa [framesOf] using hb
    subst hb'
    refine ⟨0, ?_, by simp [framesOf], fun _ => by simp⟩
    rw [splitF_step (Nat.le_refl _), if_pos (by omega)]
    simp [framesOf]
  | p :: ps, hg, pre, k, out, b, hb => by
    have h1 := hg p (by simp)
    have hp8 := h1.1
    have hf := frames_cons (ps := ps) h1
    have hlenF : (framesOf (p :: ps)).length = 4 + p.length + (framesOf ps).length := by rw [hf]; simp; omega
    have hbl : b.length = pre.length + min k (framesOf (p :: ps)).length := by rw [hb, List.length_append, List.length_take]
    by_cases c1 : k < 4
    · refine ⟨0, ?_, by simp [framesOf], fun h => by omega⟩
      rw [splitF_step (by omega), if_pos (by omega)]
      simp [framesOf]
    have hdrop : b.drop pre.length = (framesOf (p :: ps)).take k := by rw [hb, List.drop_left]
    have hhead : (framesOf (p :: ps)).take k = [0, 0, 0, (p.length : Int)] ++ (p ++ framesOf ps).take (k - 4) := by
      rw [hf, List.append_assoc, List.take_append]
      simp only [List.length_cons, List.length_nil]
      rw [List.take_of_length_le (by simp; omega)]
    have hnum : numP (b.drop pre.length) = p.length := by rw [hdrop, hhead, num_head]
    by_cases c2 : k < 4 + p.length
    · refine ⟨0, ?_, by simp [framesOf], fun h => by omega⟩
      rw [splitF_step (by omega), if_neg (by omega), hnum, if_neg (by omega), Int.toNat_natCast, if_pos (by omega)]
      simp [framesOf]
    · have hrest : (p ++ framesOf ps).take (k - 4) = p ++ (framesOf ps).take (k - 4 - p.length) := by
        rw [List.take_append, List.take_of_length_le (by omega)]
      have hb2 : b = (pre ++ ([0, 0, 0, (p.length : Int)] ++ p)) ++ (framesOf ps).take (k - 4 - p.length) := by
        rw [hb, hhead, hrest]; simp
      have hpl : (pre ++ ([0, 0, 0, (p.length : Int)] ++ p)).length = pre.length + 4 + p.length := by simp; omega
      obtain ⟨j, g1, g2, g3⟩ := split_take ps (fun q hq => hg q (List.mem_cons_of_mem _ hq)) (pre ++ ([0, 0, 0, (p.length : Int)] ++ p)) (k - 4 - p.length) (out ++ [p]) b hb2
      have hpay : (b.drop (pre.length + 4)).take p.length = p := by
        rw [← List.drop_drop, hdrop, hhead, hrest, List.drop_left' (by simp), List.take_left]
      rw [hpl] at g1
      have hfj : framesOf ((p :: ps).take (j + 1)) = ([0, 0, 0, (p.length : Int)] ++ p) ++ framesOf (ps.take j) := by rw [List.take_succ_cons, frames_cons h1]
      refine ⟨j + 1, ?_, ?_, fun h => ?_⟩
      · rw [splitF_step (by omega), if_neg (by omega), hnum, if_neg (by omega), Int.toNat_natCast, if_neg (by omega), hpay, g1, hfj]
        simp only [List.length_append, List.length_cons, List.length_nil, List.take_succ_cons, List.append_assoc, List.singleton_append]
        congr 2
        omega
      · rw [hfj]; simp only [List.length_append, List.length_cons, List.length_nil]; omega
      · rw [List.take_succ_cons, g3 (by omega)]
theorem split_all {ps : List (List Int)} (h : ∀ p ∈ ps, Good p) : splitP (framesOf ps) = (ps, ((framesOf ps).length : Int), 0) := by
  obtain ⟨j, h1, _, h3⟩ := split_take ps h [] (framesOf ps).length [] (framesOf ps) (by simp)
  have h3 := h3 (Nat.le_refl _)
  unfold splitP
  rw [show (0 : Nat) = ([] : List Int).length from rfl, h1, h3]
  simp
theorem p_frameStreams (l : List Int) (cut : Int) (h : WfT [.slice (.int .i64), .int .i64] (l, cut, ())) : m_frameStreams l cut = resB true := by
  obtain ⟨hl, hc, _⟩ := h
  replace hc : Go.Frm.I64 cut := wf64 hc
  have hL : ListOk l := ⟨by have := hl.1; simp only at this; omega, fun x hx => wf64 (hl.2 x hx)⟩
  unfold m_frameStreams
  rw [need_eq hL]
  simp only [bindv]
  have hg : ∀ p ∈ wantP l, Good p := payloads_good _ _
  have hb := dnext_bound (l, ((0 : Int), ())) (n := 6) (by omega)
  have hwl : (wantP l).length ≤ 5 := by unfold wantP; rw [payloads_len]; omega
  have hfl := frames_len hg
  generalize wantP l = W at *
  have k1 := Int.emod_nonneg cut (show ((framesOf W).length : Int) + 1 ≠ 0 by omega)
  have k2 := Int.emod_lt_of_pos cut (show 0 < ((framesOf W).length : Int) + 1 by omega)
  rw [wI64 (x := ((framesOf W).length : Int) + 1) (by omega), need_eq ⟨hc, by omega, by unfold Go.Frm.I64; omega⟩]
  obtain ⟨k, hk⟩ : ∃ k : Nat, cut % (((framesOf W).length : Int) + 1) = k := ⟨_, (Int.toNat_of_nonneg k1).symm⟩
  rw [hk] at k2 ⊢
  have hB : BytesOk (framesOf W) := ⟨by omega, frames_bytes hg⟩
  have hBt : BytesOk ((framesOf W).take k) := ⟨by rw [List.length_take]; omega, fun x hx => hB.2 x (List.mem_of_mem_take hx)⟩
  simp only [Int.toNat_natCast, Int.toNat_zero, List.drop_zero, List.take_length]
  obtain ⟨j, g1, g2, _⟩ := split_take W hg [] k [] ((framesOf W).take k) (by simp)
  have g1 : splitP ((framesOf W).take k) = (W.take j, ((framesOf (W.take j)).length : Int), 0) := by
    unfold splitP
    rw [show (0 : Nat) = ([] : List Int).length from rfl, g1]
    simp
  have hdec : framesOf W = framesOf (W.take j) ++ framesOf (W.drop j) := by rw [← frames_append, List.take_append_drop]
  have hd2 : (framesOf W).drop (framesOf (W.take j)).length = framesOf (W.drop j) := by
    conv => lhs; rw [hdec]
    rw [List.drop_left]
  have hgd : ∀ p ∈ W.drop j, Good p := fun p hp => hg p (List.mem_of_mem_drop hp)
  have hlen2 : (framesOf W).length = (framesOf (W.take j)).length + (framesOf (W.drop j)).length := by
    have := congrArg List.length hdec
    rwa [List.length_append] at this
  rw [if_pos (by omega), need_eq hBt, g1]
  simp only [Int.toNat_natCast]
  rw [if_pos (by simp), if_pos (by simp), if_neg (by simp; omega), if_pos (by omega), hd2, need_eq ⟨by omega, frames_bytes hgd⟩, split_all hgd, need_eq hB, split_all hg]
  simp only [BEq.rfl, if_true]
  rw [wI64 (by omega), if_pos (by simp; omega), need_eq (by omega), if_pos (by simp [sameF]), if_pos (by simp; omega), if_pos (by simp; omega), need_eq (by simp; omega)]
  simp [sameF]
end Go.Str
