/- A region ('Ab'): in the order of the text, and in any order that its edges allow. -/
import Derived.Test.YtlcibodnpogfhaaAbComp
set_option linter.unusedVariables false
set_option linter.unusedSimpArgs false
set_option linter.unnecessarySimpa false
namespace Go.Ab
open Go.RowKit

/-! ### abstract memory as a list and as a function -/
theorem Mem.put_get (m : Mem) (id : Nat) (c : Chunk) (i : Nat) : (m.put id c).get i = if i = id then some c else m.get i := by
  unfold Mem.put Mem.get
  simp only [List.find?_cons]
  by_cases h : i = id
  · subst h; simp
  · have e : (id == i) = false := by simp; exact fun e => h e.symm
    rw [e, if_neg h]
theorem putM_get : ∀ (wr : Mem) (m : Mem), (putM m wr).get = muPut m.get wr
  | [], _ => rfl
  | p :: wr, m => by
    show (putM (m.put p.1 p.2) wr).get = muPut (fun i => if i = p.1 then some p.2 else m.get i) wr
    rw [putM_get wr]
    congr 1
    funext i
    exact Mem.put_get m p.1 p.2 i
theorem top_lt (m : Mem) (id : Nat) (h : (m.get id).isSome = true) : id < m.top := by
  unfold Mem.get at h
  cases hf : List.find? (fun p => p.1 == id) m with
  | none => rw [hf] at h; simp at h
  | some p =>
    have h1 := List.find?_some hf
    have h2 := List.mem_of_find?_eq_some hf
    simp only [beq_iff_eq] at h1
    subst h1
    have : ∀ (m : Mem) (n : Nat), (n ≤ List.foldl (fun a p => max a (p.1 + 1)) n m) ∧ ∀ p ∈ m, p.1 < List.foldl (fun a p => max a (p.1 + 1)) n m := by
      intro m
      induction m with
      | nil => intro n; exact ⟨Nat.le_refl _, fun p hp => by simp at hp⟩
      | cons q m ih =>
        intro n
        obtain ⟨h1, h2⟩ := ih (max n (q.1 + 1))
        simp only [List.foldl_cons]
        refine ⟨by omega, fun p hp => ?_⟩
        rcases List.mem_cons.1 hp with rfl | hp
        · omega
        · exact h2 p hp
    exact (this m 0).2 p h2
section
variable {P : Program} {Δ : Tys} {Γ : Env} {w0 w w' : World} {M S0 S : Nat → Prop} {tm : List AV} {μ μ' : Mu} {η η' : Nat → Value} {a : Act} {o : Oper} {ops : Array Oper}

/-! ### what an operation did -/
inductive YieldsS : Step → Eff → Prop where
  | ok {c : Prop} {dc : Decidable c} {e : Eff} (h : c) : YieldsS (.ok c dc e) e
  | bt {x y : Eff} : YieldsS (.br true x y) x
  | bf {x y : Eff} : YieldsS (.br false x y) y
/-- The operation at tm, μ: it is left out, or it comes to e. -/
inductive Does (Δ : Tys) (Γ : Env) (ops : Array Oper) (new : Nat) (o : Oper) (tm : List AV) (μ : Mu) : Eff → Prop where
  | skip {j : Nat} {want b : Bool} {t : Tmp} (hg : o.guard = some (j, want)) (ht : guardAt ops tm j = some (t, b)) (hb : b ≠ want) : Does Δ Γ ops new o tm μ ⟨.undef, []⟩
  | skipU {j : Nat} {want : Bool} (hg : o.guard = some (j, want)) (hu : guardUndef ops tm j = true) : Does Δ Γ ops new o tm μ ⟨.undef, []⟩
  | run {e : Eff} (hg : o.guard = none ∨ ∃ (j : Nat) (want : Bool) (t : Tmp), o.guard = some (j, want) ∧ guardAt ops tm j = some (t, want)) (h : YieldsS (comp Δ Γ new o (evalA tm) μ) e) : Does Δ Γ ops new o tm μ e
theorem told_goes {s : Step} {e : Eff} (h : Told w0 M S0 μ η S P o a w s) (hy : YieldsS s e) : Goes P o a w (After w0 M S0 μ η S w e) := by
  cases hy with
  | ok hc => cases h with | ok h => exact h hc
  | bt => cases h with | br h1 h2 => exact h1 rfl
  | bf => cases h with | br h1 h2 => exact h2 rfl
theorem put_tmp {t : Tmp} {v : Value} (a : Act) (t' : Nat) : (a.put (some t) v).tmps.getD t' undef = if t' = t ∧ t < a.tmps.size then v else a.tmps.getD t' undef := by
  simp only [Act.put, Array.getD_eq_getD_getElem?, Array.getElem?_setIfInBounds]
  by_cases h : t = t'
  · subst h
    by_cases h2 : t < a.tmps.size
    · simp [h2]
    · simp [h2]
  · have h' : ¬ t' = t := fun e => h e.symm
    simp [h, h']
theorem invx_put {Z : List (Nat × Value)} (hI : InvX w0 M S0 tm μ η S a w) (hZ : ∀ z ∈ Z, dom μ z.1 ∧ η z.1 = z.2) {e : Eff} {v : Value} (hA : After w0 M S0 μ η S w e v w') : Inv Z w0 M S0 (putT tm o.dst e.v) (muPut μ e.wr) (a.put o.dst v) w' := by
  obtain ⟨η', S', h1, h2, h3⟩ := hA
  refine ⟨η', S', ⟨h1, ?_, fun t x hx => ?_, ?_⟩, fun z hz => ⟨h2.d z.1 (hZ z hz).1, (h2.η z.1 (hZ z hz).1).trans (hZ z hz).2⟩⟩
  · cases hd : o.dst with
    | none => simpa [putT, Act.put] using hI.size
    | some d => simpa [putT, Act.put] using hI.size
  · cases hd : o.dst with
    | none =>
      rw [hd] at hx
      exact AVR_stay h2 (hI.tmp t x hx)
    | some d =>
      rw [hd] at hx
      simp only [putT] at hx
      rw [put_tmp]
      rw [List.getElem?_set] at hx
      split at hx
      · rename_i hdt
        subst hdt
        split at hx
        · rename_i hlt
          simp only [Option.some.injEq] at hx
          subst hx
          rw [if_pos ⟨rfl, by rw [hI.size]; exact hlt⟩]
          exact h3
        · cases hx
      · rename_i hdt
        rw [if_neg (fun h => hdt h.1.symm)]
        exact AVR_stay h2 (hI.tmp t x hx)
  · cases hd : o.dst <;> simpa [Act.put] using hI.noDefers
theorem yielded_is (hI : InvX w0 M S0 tm μ η S a w) {j : Nat} {t : Tmp} {b : Bool} (h : guardAt ops tm j = some (t, b)) : yielded ops a.tmps j = some b := by
  unfold guardAt at h
  split at h
  · rename_i t' ht
    simp only [Option.map_eq_some_iff, Prod.mk.injEq] at h
    obtain ⟨b', h1, rfl, rfl⟩ := h
    have h2 : tm[t']? = some (tm.getD t' .any) := by
      rw [List.getD_eq_getElem?_getD] at h1 ⊢
      cases hh : tm[t']? with
      | none => rw [hh] at h1; simp [isBool] at h1
      | some x => rfl
    have h3 := isBool_is h1 (hI.tmp t' _ h2)
    have hlt : t' < a.tmps.size := by rw [hI.size]; exact (List.getElem?_eq_some_iff.1 h2).1
    unfold yielded
    rw [ht]
    simp only [Option.bind_some]
    rw [Array.getD_eq_getD_getElem?, Array.getElem?_eq_getElem hlt, Option.getD_some] at h3
    rw [Array.getElem?_eq_getElem hlt, h3]
  · cases h
theorem yielded_undef (hI : InvX w0 M S0 tm μ η S a w) {j : Nat} (h : guardUndef ops tm j = true) : yielded ops a.tmps j = none := by
  unfold guardUndef at h
  split at h
  · rename_i t ht
    split at h
    · rename_i hx
      have h2 : tm[t]? = some .undef := by
        rw [List.getD_eq_getElem?_getD] at hx
        cases hh : tm[t]? with
        | none => rw [hh] at hx; cases hx
        | some x => rw [hh] at hx; simp at hx; rw [hx]
      have h3 : a.tmps.getD t undef = undef := hI.tmp t _ h2
      have hlt : t < a.tmps.size := by rw [hI.size]; exact (List.getElem?_eq_some_iff.1 h2).1
      unfold yielded
      rw [ht]
      simp only [Option.bind_some]
      rw [Array.getD_eq_getD_getElem?, Array.getElem?_eq_getElem hlt, Option.getD_some] at h3
      rw [Array.getElem?_eq_getElem hlt, h3]
      rfl
    · cases h
  · cases h
/-- The step of one operation of a region. -/
theorem does_sound {Z : List (Nat × Value)} (hΔ : TysOk P Δ) (hΓ : EnvOk P Γ) {new : Nat} (hI : Inv Z w0 M S0 tm μ a w) (hfree : ∀ i, new ≤ i → i < new + 16 → μ i = none) {e : Eff} (hD : Does Δ Γ ops new o tm μ e)
    {next : Act → World → Prop} {Q : Exit → Act → World → Prop} (hn : ∀ a' w', Inv Z w0 M S0 (putT tm o.dst e.v) (muPut μ e.wr) a' w' → next a' w') :
    if Region.wanted o (yielded ops a.tmps) then o.wp P a w next Q ∨ (o.asks P a w ∧ LetsOut Q) else next (a.put o.dst undef) w := by
  obtain ⟨η, S, hI, hZ⟩ := hI
  cases hD with
  | @skip j want b t hg ht hb =>
    have hy := yielded_is hI ht
    have : Region.wanted o (yielded ops a.tmps) = false := by simp [Region.wanted, hg, hy, hb]
    rw [this]
    simp only [Bool.false_eq_true, if_false]
    exact hn _ _ (invx_put hI hZ ⟨η, S, hI.mem, Stay.refl _ _ _ _, rfl⟩)
  | @skipU j want hg hu =>
    have hy := yielded_undef hI hu
    have : Region.wanted o (yielded ops a.tmps) = false := by simp [Region.wanted, hg, hy]
    rw [this]
    simp only [Bool.false_eq_true, if_false]
    exact hn _ _ (invx_put hI hZ ⟨η, S, hI.mem, Stay.refl _ _ _ _, rfl⟩)
  | run hg h =>
    have : Region.wanted o (yielded ops a.tmps) = true := by
      rcases hg with hg | ⟨j, want, t, hg, ht⟩
      · simp [Region.wanted, hg]
      · simp [Region.wanted, hg, yielded_is hI ht]
    rw [this]
    simp only [if_true]
    exact .inl (told_goes (comp_told hI hΔ hΓ hfree) h next Q fun v w' hA => hn _ _ (invx_put hI hZ hA))

/-! ### one operation of the interpreter's run -/
theorem isBool_bv {x : AV} {b : Bool} (h : isBool x = some b) : x = bv b := by
  unfold isBool at h
  split at h
  · simp only [Option.some.injEq] at h; subst h; rfl
  · cases h
theorem set_self {tm : List AV} {j : Nat} {t : Tmp} {b : Bool} (h : guardAt ops tm j = some (t, b)) : tm.set t (bv b) = tm := by
  unfold guardAt at h
  split at h
  · rename_i t' _
    simp only [Option.map_eq_some_iff, Prod.mk.injEq] at h
    obtain ⟨b', h1, rfl, rfl⟩ := h
    apply List.ext_getElem?
    intro i
    rw [List.getElem?_set]
    split
    · rename_i hi
      subst hi
      split
      · rename_i hlt
        rw [List.getD_eq_getElem?_getD, List.getElem?_eq_getElem hlt, Option.getD_some] at h1
        rw [List.getElem?_eq_getElem hlt, isBool_bv h1]
      · rename_i hlt
        rw [List.getElem?_eq_none (by omega)]
    · rfl
  · cases h
theorem runOps_cons {base i : Nat} {rest : List Oper} {φ : AS} {recs : List Rec} {k : AS → List Rec → Option Res} {r : Res} (h : runOps Δ Γ ops base i (o :: rest) φ recs k = some r) :
    ∃ e, Does Δ Γ ops (base + 16 * i) o φ.tm φ.mem.get e ∧ wrOk (base + 16 * (i + 1)) e.wr = true ∧
      runOps Δ Γ ops base (i + 1) rest (putA φ o.dst e) (recs ++ [⟨e, lookIds φ.mem.get o (evalA φ.tm)⟩]) k = some r := by
  have hgo : ∀ {hg : o.guard = none ∨ ∃ (j : Nat) (want : Bool) (t : Tmp), o.guard = some (j, want) ∧ guardAt ops φ.tm j = some (t, want)},
      (match comp Δ Γ (base + 16 * i) o (evalA φ.tm) φ.mem.get with
      | .no => none
      | .ok c dc e => @ite _ c dc (if wrOk (base + 16 * (i + 1)) e.wr = true then runOps Δ Γ ops base (i + 1) rest (putA φ o.dst e) (recs ++ [⟨e, lookIds φ.mem.get o (evalA φ.tm)⟩]) k else none) none
      | .br t x y => if t = true then (if wrOk (base + 16 * (i + 1)) x.wr = true then runOps Δ Γ ops base (i + 1) rest (putA φ o.dst x) (recs ++ [⟨x, lookIds φ.mem.get o (evalA φ.tm)⟩]) k else none) else
          (if wrOk (base + 16 * (i + 1)) y.wr = true then runOps Δ Γ ops base (i + 1) rest (putA φ o.dst y) (recs ++ [⟨y, lookIds φ.mem.get o (evalA φ.tm)⟩]) k else none)) = some r →
      ∃ e, Does Δ Γ ops (base + 16 * i) o φ.tm φ.mem.get e ∧ wrOk (base + 16 * (i + 1)) e.wr = true ∧
        runOps Δ Γ ops base (i + 1) rest (putA φ o.dst e) (recs ++ [⟨e, lookIds φ.mem.get o (evalA φ.tm)⟩]) k = some r := by
    intro hg h
    have fin : ∀ e, YieldsS (comp Δ Γ (base + 16 * i) o (evalA φ.tm) φ.mem.get) e → (if wrOk (base + 16 * (i + 1)) e.wr = true then runOps Δ Γ ops base (i + 1) rest (putA φ o.dst e) (recs ++ [⟨e, lookIds φ.mem.get o (evalA φ.tm)⟩]) k else none) = some r →
        ∃ e, Does Δ Γ ops (base + 16 * i) o φ.tm φ.mem.get e ∧ wrOk (base + 16 * (i + 1)) e.wr = true ∧
          runOps Δ Γ ops base (i + 1) rest (putA φ o.dst e) (recs ++ [⟨e, lookIds φ.mem.get o (evalA φ.tm)⟩]) k = some r := by
      intro e hy hh
      split at hh
      · rename_i hw
        exact ⟨e, .run hg hy, hw, hh⟩
      · cases hh
    cases hc : comp Δ Γ (base + 16 * i) o (evalA φ.tm) φ.mem.get with
    | no => rw [hc] at h; cases h
    | ok c dc e =>
      rw [hc] at h
      simp only at h
      by_cases hcc : c
      · rw [@if_pos c dc hcc] at h
        exact fin e (by rw [hc]; exact .ok hcc) h
      · rw [@if_neg c dc hcc] at h; cases h
    | br t x y =>
      rw [hc] at h
      simp only at h
      cases t with
      | true => exact fin x (by rw [hc]; exact .bt) (by simpa using h)
      | false => exact fin y (by rw [hc]; exact .bf) (by simpa using h)
  unfold runOps at h
  cases hg : o.guard with
  | none =>
    rw [hg] at h
    exact hgo (hg := .inl hg) h
  | some p =>
    obtain ⟨j, want⟩ := p
    rw [hg] at h
    simp only at h
    cases hga : guardAt ops φ.tm j with
    | none =>
      rw [hga] at h
      simp only at h
      split at h
      · rename_i hu
        simp only [wrOk, List.all_nil, if_true] at h
        exact ⟨⟨.undef, []⟩, .skipU hg hu, rfl, h⟩
      · cases h
    | some q =>
      obtain ⟨t, b⟩ := q
      rw [hga] at h
      simp only at h
      have hset := set_self hga
      by_cases hb : b = want
      · rw [if_pos hb] at h
        rw [← hb, hset] at h
        exact hgo (hg := .inr ⟨j, want, t, hg, by rw [hga, hb]⟩) h
      · rw [if_neg hb] at h
        have hb' : (!want) = b := by cases want <;> cases b <;> simp_all
        rw [hb', hset] at h
        simp only [wrOk, List.all_nil, if_true] at h
        exact ⟨⟨.undef, []⟩, .skip hg hga hb, rfl, h⟩
theorem wrOk_free {n : Nat} {wr : Mem} (h : wrOk n wr = true) (hμ : ∀ i, n ≤ i → μ i = none) : ∀ i, n ≤ i → muPut μ wr i = none := by
  induction wr generalizing μ with
  | nil => exact hμ
  | cons p l ih =>
    simp only [wrOk, List.all_cons, Bool.and_eq_true, Nat.blt_eq] at h
    refine ih (by simpa [wrOk] using h.2) fun i hi => ?_
    have : i ≠ p.1 := by omega
    simp only [if_neg this]
    exact hμ i hi
/-- In the order of the text. -/
theorem region_text {Z : List (Nat × Value)} (hΔ : TysOk P Δ) (hΓ : EnvOk P Γ) {base : Nat} {Q : Exit → Act → World → Prop} {k : AS → List Rec → Option Res} {r : Res}
    (hQ : ∀ φ recs a w, Inv Z w0 M S0 φ.tm φ.mem.get a w → k φ recs = some r → Q .normal a w) :
    ∀ (m i : Nat) (φ : AS) (recs : List Rec) (a : Act) (w : World), i + m = ops.size → (∀ x, base + 16 * i ≤ x → φ.mem.get x = none) → Inv Z w0 M S0 φ.tm φ.mem.get a w →
      runOps Δ Γ ops base i (ops.toList.drop i) φ recs k = some r → wpOps P ops Q (List.range' i m) a w
  | 0, i, φ, recs, a, w, hm, hfree, hI, h => by
    rw [List.drop_eq_nil_of_le (by simp; omega)] at h
    exact hQ φ recs a w hI h
  | m + 1, i, φ, recs, a, w, hm, hfree, hI, h => by
    have hi : i < ops.size := by omega
    have hdrop : ops.toList.drop i = ops[i] :: ops.toList.drop (i + 1) := by
      rw [List.drop_eq_getElem_cons (by simpa using hi)]; simp
    rw [hdrop] at h
    obtain ⟨e, hD, hw, hrest⟩ := runOps_cons h
    rw [List.range'_succ]
    simp only [wpOps, Array.getElem?_eq_getElem hi]
    refine does_sound hΔ hΓ hI (fun x h1 _ => hfree x h1) hD fun a' w' hI' => ?_
    have hmem : (putA φ ops[i].dst e).mem.get = muPut φ.mem.get e.wr := putM_get e.wr φ.mem
    refine region_text hΔ hΓ hQ m (i + 1) (putA φ ops[i].dst e) _ a' w' (by omega) ?_ ?_ hrest
    · rw [hmem]
      exact wrOk_free hw fun x hx => hfree x (by omega)
    · rw [hmem]; exact hI'
end
end Go.Ab
