/- A region that draws its order ('Ab'): whatever order comes, what the text's order says holds. -/
import Derived.Test.YtlcibodnpogfhaaAbRegion
set_option linter.unusedVariables false
set_option linter.unusedSimpArgs false
set_option linter.unnecessarySimpa false
namespace Go.Ab
open Go.RowKit
abbrev ST := List AV × Mu
def putS (s : ST) (d : Option Tmp) (e : Eff) : ST := (putT s.1 d e.v, muPut s.2 e.wr)
/-- The state behind those of A, of the first n. -/
def stOf (dst : Nat → Option Tmp) (e : Nat → Eff) (A : Nat → Bool) (s : ST) : Nat → ST
  | 0 => s
  | n + 1 => if A n = true then putS (stOf dst e A s n) (dst n) (e n) else stOf dst e A s n
section
variable {dst : Nat → Option Tmp} {e : Nat → Eff} {A B : Nat → Bool} {s : ST}
theorem putT_len (tm : List AV) (d : Option Tmp) (v : AV) : (putT tm d v).length = tm.length := by cases d <;> simp [putT]
theorem stOf_len : ∀ n, (stOf dst e A s n).1.length = s.1.length
  | 0 => rfl
  | n + 1 => by
    unfold stOf
    split
    · rw [putS, putT_len, stOf_len n]
    · exact stOf_len n
theorem putT_get {tm tm' : List AV} (hl : tm.length = tm'.length) (d : Option Tmp) (v : AV) {t : Nat} (h : tm[t]? = tm'[t]?) : (putT tm d v)[t]? = (putT tm' d v)[t]? := by
  cases d with
  | none => exact h
  | some d =>
    simp only [putT, List.getElem?_set, hl, h]
theorem putT_other {tm : List AV} {d : Option Tmp} {v : AV} {t : Nat} (h : d ≠ some t) : (putT tm d v)[t]? = tm[t]? := by
  cases d with
  | none => rfl
  | some d =>
    have : d ≠ t := fun e => h (by rw [e])
    simp [putT, List.getElem?_set, this]
theorem muPut_at : ∀ (l : Mem) {μ μ' : Mu} {i : Nat}, μ i = μ' i → muPut μ l i = muPut μ' l i
  | [], _, _, _, h => h
  | p :: l, μ, μ', i, h => by
    refine muPut_at l ?_
    by_cases hi : i = p.1
    · simp [hi]
    · simp [hi, h]
theorem muPut_other : ∀ (l : Mem) {μ : Mu} {i : Nat}, i ∉ l.map (·.1) → muPut μ l i = μ i
  | [], _, _, _ => rfl
  | p :: l, μ, i, h => by
    simp only [List.map_cons, List.mem_cons, not_or] at h
    have h1 := muPut_other l (μ := fun j => if j = p.1 then some p.2 else μ j) h.2
    show muPut (fun j => if j = p.1 then some p.2 else μ j) l i = μ i
    rw [h1, if_neg h.1]
theorem stOf_T {t : Nat} : ∀ n, (∀ i, i < n → A i ≠ B i → dst i ≠ some t) → (stOf dst e A s n).1[t]? = (stOf dst e B s n).1[t]?
  | 0, _ => rfl
  | n + 1, h => by
    have ih := stOf_T n fun i hi => h i (by omega)
    have hn := h n (by omega)
    unfold stOf
    cases hA : A n <;> cases hB : B n <;> simp only [hA, hB, Bool.false_eq_true, if_true, if_false]
    · exact ih
    · rw [putS, putT_other (hn (by simp [hA, hB]))]; exact ih
    · rw [putS, putT_other (hn (by simp [hA, hB]))]; exact ih
    · exact putT_get (by rw [stOf_len, stOf_len]) _ _ ih
theorem stOf_M {x : Nat} : ∀ n, (∀ i, i < n → A i ≠ B i → x ∉ (e i).wr.map (·.1)) → (stOf dst e A s n).2 x = (stOf dst e B s n).2 x
  | 0, _ => rfl
  | n + 1, h => by
    have ih := stOf_M n fun i hi => h i (by omega)
    have hn := h n (by omega)
    unfold stOf
    cases hA : A n <;> cases hB : B n <;> simp only [hA, hB, Bool.false_eq_true, if_true, if_false]
    · exact ih
    · rw [putS]; exact ih.trans (muPut_other _ (hn (by simp [hA, hB]))).symm
    · rw [putS]; exact (muPut_other _ (hn (by simp [hA, hB]))).trans ih
    · exact muPut_at _ ih
theorem stOf_ext : ∀ n, (∀ i, i < n → A i = B i) → stOf dst e A s n = stOf dst e B s n
  | 0, _ => rfl
  | n + 1, h => by
    unfold stOf
    rw [h n (by omega), stOf_ext n fun i hi => h i (by omega)]
theorem stOf_none : ∀ n, stOf dst e (fun _ => false) s n = s
  | 0 => rfl
  | n + 1 => by unfold stOf; simp [stOf_none n]
theorem stOf_lt (m : Nat) : ∀ n, m ≤ n → stOf dst e (fun j => decide (j < m)) s n = stOf dst e (fun _ => true) s m
  | 0, h => by
    have : m = 0 := by omega
    subst this; rfl
  | n + 1, h => by
    by_cases hm : m = n + 1
    · subst hm
      exact stOf_ext _ fun i hi => by simp [hi]
    · have : ¬ n < m := by omega
      have e1 : stOf dst e (fun j => decide (j < m)) s (n + 1) = stOf dst e (fun j => decide (j < m)) s n := by
        rw [stOf]; simp [this]
      rw [e1]
      exact stOf_lt m n (by omega)
theorem muPut_comm {l l' : Mem} {μ : Mu} (h : ∀ x ∈ l.map (·.1), x ∉ l'.map (·.1)) : muPut (muPut μ l) l' = muPut (muPut μ l') l := by
  funext x
  by_cases hx : x ∈ l.map (·.1)
  · rw [muPut_other l' (h x hx)]
    have : (muPut μ l') x = μ x := muPut_other l' (h x hx)
    exact (muPut_at l this).symm
  · rw [muPut_other l (μ := muPut μ l') hx]
    exact muPut_at l' (muPut_other l hx)
theorem putT_comm {tm : List AV} {d d' : Option Tmp} {v v' : AV} (h : ∀ t, d = some t → d' ≠ some t) : putT (putT tm d v) d' v' = putT (putT tm d' v') d v := by
  cases d with
  | none => rfl
  | some t =>
    cases d' with
    | none => rfl
    | some t' =>
      have : t ≠ t' := fun e => h t rfl (by rw [e])
      exact List.set_comm _ _ this
theorem stOf_ins {i : Nat} (hA : A i = false) (hB : ∀ j, B j = (A j || decide (j = i))) : ∀ n, i < n → (∀ j, i < j → j < n → A j = true → (∀ t, dst i = some t → dst j ≠ some t) ∧ ∀ x ∈ (e i).wr.map (·.1), x ∉ (e j).wr.map (·.1)) →
    stOf dst e B s n = putS (stOf dst e A s n) (dst i) (e i)
  | 0, h, _ => by omega
  | n + 1, h, hap => by
    by_cases hin : i = n
    · subst hin
      unfold stOf
      have hBi : B i = true := by rw [hB]; simp
      simp only [hA, hBi, Bool.false_eq_true, if_true, if_false]
      rw [stOf_ext (A := B) (B := A) i fun j hj => by rw [hB]; have : ¬ j = i := by omega
                                                      simp [this]]
    · have ih := stOf_ins hA hB n (by omega) fun j h1 h2 => hap j h1 (by omega)
      have hBn : B n = A n := by rw [hB]; have : ¬ n = i := fun e => hin e.symm
                                 simp [this]
      unfold stOf
      rw [hBn, ih]
      cases hAn : A n with
      | false => simp
      | true =>
        simp only [if_true]
        obtain ⟨h1, h2⟩ := hap n (by omega) (by omega) hAn
        simp only [putS]
        rw [putT_comm h1, muPut_comm h2]
theorem stOf_shift : ∀ n, stOf dst e A s (n + 1) = stOf (fun i => dst (i + 1)) (fun i => e (i + 1)) (fun i => A (i + 1)) (if A 0 = true then putS s (dst 0) (e 0) else s) n
  | 0 => rfl
  | n + 1 => by
    have ih := stOf_shift n
    rw [stOf, ih]
    rfl
end

section
variable {P : Program} {Δ : Tys} {Γ : Env} {w0 w w' : World} {M S0 S : Nat → Prop} {tm : List AV} {μ μ' : Mu} {η η' : Nat → Value} {a : Act} {o : Oper} {ops : Array Oper} {base : Nat}

/-! ### the interpreter's run, operation by operation -/
inductive Trace (Δ : Tys) (Γ : Env) (ops : Array Oper) (base : Nat) : Nat → List Oper → ST → List Rec → ST → Prop where
  | nil {i : Nat} {s : ST} : Trace Δ Γ ops base i [] s [] s
  | cons {i : Nat} {o : Oper} {rest : List Oper} {s s' : ST} {e : Eff} {ids : List Nat} {recs : List Rec} (hD : Does Δ Γ ops (base + 16 * i) o s.1 s.2 e) (hids : ids = lookIds s.2 o (evalA s.1))
      (h : Trace Δ Γ ops base (i + 1) rest (putS s o.dst e) recs s') : Trace Δ Γ ops base i (o :: rest) s (⟨e, ids⟩ :: recs) s'
theorem runOps_trace {k : AS → List Rec → Option Res} {r : Res} : ∀ (l : List Oper) (i : Nat) (φ : AS) (recs0 : List Rec), runOps Δ Γ ops base i l φ recs0 k = some r →
    ∃ recs φ', Trace Δ Γ ops base i l (φ.tm, φ.mem.get) recs (φ'.tm, φ'.mem.get) ∧ k φ' (recs0 ++ recs) = some r
  | [], i, φ, recs0, h => ⟨[], φ, .nil, by simpa [runOps] using h⟩
  | o :: l, i, φ, recs0, h => by
    obtain ⟨e, hD, _, hrest⟩ := runOps_cons h
    obtain ⟨recs, φ', ht, hk⟩ := runOps_trace l (i + 1) _ _ hrest
    have hmem : (putA φ o.dst e).mem.get = muPut φ.mem.get e.wr := putM_get e.wr φ.mem
    rw [hmem] at ht
    exact ⟨_ :: recs, φ', .cons hD rfl ht, by simpa using hk⟩
def efOf (recs : List Rec) (i : Nat) : Eff := ((recs[i]?).map (·.e)).getD ⟨.any, []⟩
def dstOf (l : List Oper) (i : Nat) : Option Tmp := (l[i]?).bind (·.dst)
theorem trace_at {i : Nat} {l : List Oper} {s s' : ST} {recs : List Rec} (h : Trace Δ Γ ops base i l s recs s') :
    recs.length = l.length ∧ s' = stOf (dstOf l) (efOf recs) (fun _ => true) s l.length ∧
    ∀ j o, l[j]? = some o → ∃ r, recs[j]? = some r ∧ Does Δ Γ ops (base + 16 * (i + j)) o (stOf (dstOf l) (efOf recs) (fun _ => true) s j).1 (stOf (dstOf l) (efOf recs) (fun _ => true) s j).2 r.e ∧
      r.ids = lookIds (stOf (dstOf l) (efOf recs) (fun _ => true) s j).2 o (evalA (stOf (dstOf l) (efOf recs) (fun _ => true) s j).1) := by
  induction h with
  | nil => exact ⟨rfl, rfl, fun j o hj => by simp at hj⟩
  | @cons i o rest s s' e ids recs hD hids h ih =>
    obtain ⟨h1, h2, h3⟩ := ih
    have hsh : ∀ n, stOf (dstOf (o :: rest)) (efOf (⟨e, ids⟩ :: recs)) (fun _ => true) s (n + 1) = stOf (dstOf rest) (efOf recs) (fun _ => true) (putS s o.dst e) n := fun n => by
      rw [stOf_shift n]; rfl
    refine ⟨by simp [h1], ?_, fun j o' hj => ?_⟩
    · rw [List.length_cons, hsh]; exact h2
    · cases j with
      | zero =>
        simp only [List.getElem?_cons_zero, Option.some.injEq] at hj
        subst hj
        exact ⟨⟨e, ids⟩, rfl, hD, hids⟩
      | succ j =>
        simp only [List.getElem?_cons_succ] at hj
        obtain ⟨r, g1, g2, g3⟩ := h3 j o' hj
        refine ⟨r, by simpa using g1, ?_, ?_⟩
        · rw [hsh, show i + (j + 1) = i + 1 + j by omega]; exact g2
        · rw [hsh]; exact g3

/-! ### what the look at the region says -/
theorem orAll_bit {f : Nat → Nat} {x : Nat} : ∀ {l : List Nat}, Nat.testBit (orAll f l) x = true → ∃ j ∈ l, x = j ∨ Nat.testBit (f j) x = true
  | [], h => by simp [orAll] at h
  | j :: l, h => by
    have h : Nat.testBit ((1 <<< j ||| f j) ||| orAll f l) x = true := h
    rw [Nat.testBit_or, Nat.testBit_or, Bool.or_eq_true, Bool.or_eq_true] at h
    rcases h with (h | h) | h
    · rw [Nat.testBit_shiftLeft] at h
      simp only [Bool.and_eq_true, decide_eq_true_eq, ge_iff_le] at h
      refine ⟨j, by simp, .inl ?_⟩
      have h2 := h.2
      by_cases hz : x - j = 0
      · omega
      · rw [Nat.testBit_lt_two_pow (Nat.one_lt_two_pow hz)] at h2
        cases h2
    · exact ⟨j, by simp, .inr h⟩
    · obtain ⟨k, h1, h2⟩ := orAll_bit h
      exact ⟨k, List.mem_cons_of_mem _ h1, h2⟩
theorem ancs_get : ∀ (l : List Oper) (acc : List Nat), (∀ m : Nat, m < acc.length → (ancs l acc)[m]? = acc[m]?) ∧
    ∀ (m : Nat) (o : Oper), l[m]? = some o → (ancs l acc)[acc.length + m]? = some (orAll (fun j => if j < acc.length + m then (ancs l acc).getD j 0 else 0) (directs o))
  | [], acc => ⟨fun m _ => rfl, fun m o h => by simp at h⟩
  | o :: l, acc => by
    obtain ⟨h1, h2⟩ := ancs_get l (acc ++ [orAll (fun j => acc.getD j 0) (directs o)])
    simp only [List.length_append, List.length_cons, List.length_nil] at h1 h2
    have e : ancs (o :: l) acc = ancs l (acc ++ [orAll (fun j => acc.getD j 0) (directs o)]) := rfl
    refine ⟨fun m hm => ?_, fun m o' hm => ?_⟩
    · rw [e, h1 m (by omega), List.getElem?_append_left hm]
    · cases m with
      | zero =>
        simp only [List.getElem?_cons_zero, Option.some.injEq] at hm
        subst hm
        rw [e, Nat.add_zero, h1 acc.length (by omega), List.getElem?_append_right (Nat.le_refl _)]
        simp only [Nat.sub_self, List.getElem?_cons_zero, Option.some.injEq]
        congr 1
        funext j
        split
        · rename_i hj
          rw [List.getD_eq_getElem?_getD, List.getD_eq_getElem?_getD, h1 j (by omega), List.getElem?_append_left hj]
        · rename_i hj
          rw [List.getD_eq_getElem?_getD, List.getElem?_eq_none (by omega)]; rfl
      | succ m =>
        simp only [List.getElem?_cons_succ] at hm
        have := h2 m o' hm
        rw [e, show acc.length + (m + 1) = acc.length + (0 + 1) + m by omega]
        exact this
theorem ancs_listed {L : Nat → Bool} (hback : ∀ (i : Nat) (o : Oper), ops[i]? = some o → ∀ j ∈ directs o, j < i) (hclosed : ∀ (i : Nat) (o : Oper), ops[i]? = some o → L i = true → ∀ j ∈ directs o, L j = true) :
    ∀ (n i : Nat), i < n → ∀ o, ops[i]? = some o → (∀ j ∈ directs o, L j = true) → ∀ x, hasA (ancs ops.toList []) i x = true → L x = true := by
  intro n
  induction n with
  | zero => intro i h; omega
  | succ n ih =>
    intro i hi o ho hd x hx
    have hg := (ancs_get ops.toList []).2 i o (by simpa using ho)
    simp only [List.length_nil, Nat.zero_add] at hg
    unfold hasA at hx
    rw [List.getD_eq_getElem?_getD, hg, Option.getD_some] at hx
    obtain ⟨j, hj, hx | hjx⟩ := orAll_bit hx
    · subst hx; exact hd x hj
    · have hji := hback i o ho j hj
      rw [if_pos hji] at hjx
      have hjs : j < ops.size := by
        have : i < ops.size := (Array.getElem?_eq_some_iff.1 ho).1
        omega
      exact ih j (by omega) ops[j] (Array.getElem?_eq_getElem hjs) (hclosed j ops[j] (Array.getElem?_eq_getElem hjs) (hd j hj)) x hjx
theorem does_congr {new : Nat} {s s' : ST} {e : Eff} (hT : ∀ t ∈ o.looksAt ops, s.1[t]? = s'.1[t]?) (hM : ∀ x ∈ lookIds s.2 o (evalA s.1), s.2 x = s'.2 x) (h : Does Δ Γ ops new o s.1 s.2 e) : Does Δ Γ ops new o s'.1 s'.2 e := by
  have hguard : ∀ j want, o.guard = some (j, want) → guardAt ops s.1 j = guardAt ops s'.1 j := by
    intro j want hg
    unfold guardAt
    split
    · rename_i t ht
      have : s.1[t]? = s'.1[t]? := hT t (by
        unfold Oper.looksAt
        refine List.mem_append_right _ ?_
        rw [hg]
        simp [ht])
      rw [List.getD_eq_getElem?_getD, List.getD_eq_getElem?_getD, this]
    · rfl
  have hρ : ∀ x ∈ o.op.operands, evalA s.1 x = evalA s'.1 x := by
    intro x hx
    cases x with
    | tmp t =>
      have : s.1[t]? = s'.1[t]? := hT t (by
        unfold Oper.looksAt
        exact List.mem_append_left _ (List.mem_filterMap.2 ⟨.tmp t, by simpa using hx, rfl⟩))
      simp only [evalA]
      rw [List.getD_eq_getElem?_getD, List.getD_eq_getElem?_getD, this]
    | const v => rfl
    | global g => rfl
    | func f => rfl
  cases h with
  | @skip j want b t hg ht hb => exact .skip hg (by rw [← hguard j want hg]; exact ht) hb
  | @skipU j want hg hu =>
    refine .skipU hg ?_
    unfold guardUndef at hu ⊢
    split at hu
    · rename_i t ht
      have e : s.1[t]? = s'.1[t]? := hT t (by
        unfold Oper.looksAt
        refine List.mem_append_right _ ?_
        rw [hg]
        simp [ht])
      rw [List.getD_eq_getElem?_getD] at hu ⊢
      rw [← e]; exact hu
    · cases hu
  | run hg hy =>
    refine .run ?_ ?_
    · rcases hg with hg | ⟨j, want, t, hg, ht⟩
      · exact .inl hg
      · exact .inr ⟨j, want, t, hg, by rw [← hguard j want hg]; exact ht⟩
    · rw [← comp_rho hρ, ← comp_mu hM]
      exact hy
theorem countP_less {p p' : Nat → Bool} {i : Nat} : ∀ {l : List Nat}, i ∈ l → (∀ j, p' j = true → p j = true) → p i = true → p' i = false → l.countP p' + 1 ≤ l.countP p
  | [], h, _, _, _ => by simp at h
  | x :: l, h, hpp, hi, hi' => by
    have hle : l.countP p' ≤ l.countP p := List.countP_mono_left fun j _ hj => hpp j hj
    simp only [List.countP_cons]
    rcases List.mem_cons.1 h with rfl | h
    · simp [hi, hi']; omega
    · have := countP_less h hpp hi hi'
      have h2 : (if p' x = true then 1 else 0) ≤ (if p x = true then 1 else 0 : Nat) := by
        by_cases hx : p' x = true
        · simp [hx, hpp x hx]
        · simp [hx]
      omega
/-- In any order. -/
theorem region_any {Z : List (Nat × Value)} (hΔ : TysOk P Δ) (hΓ : EnvOk P Γ) {Q : Exit → Act → World → Prop} {s0 s' : ST} {recs : List Rec} (htr : Trace Δ Γ ops base 0 ops.toList s0 recs s') (hok : okRegion ops base recs = true) (hfree : ∀ x, base ≤ x → s0.2 x = none)
    (hQ : ∀ a w, Inv Z w0 M S0 s'.1 s'.2 a w → Q .normal a w) :
    ∀ (fuel : Nat) (listed : Array Bool) (a : Act) (w : World), listed.size = ops.size → (∀ (i : Nat) (o : Oper), ops[i]? = some o → listed.getD i false = true → ∀ j ∈ directs o, listed.getD j false = true) →
      (List.range ops.size).countP (fun i => !listed.getD i false) ≤ fuel →
      Inv Z w0 M S0 (stOf (dstOf ops.toList) (efOf recs) (fun i => listed.getD i false) s0 ops.size).1 (stOf (dstOf ops.toList) (efOf recs) (fun i => listed.getD i false) s0 ops.size).2 a w →
      wpAny P .any ops Q fuel listed a w := by
  obtain ⟨hlen, hs', hat⟩ := trace_at htr
  have hone : ∀ i, i < ops.size → okOne ops base (ancs ops.toList []) recs i = true := fun i hi => List.all_eq_true.1 hok i (List.mem_range.2 hi)
  have hback : ∀ (i : Nat) (o : Oper), ops[i]? = some o → ∀ j ∈ directs o, j < i := by
    intro i o ho j hj
    have h := hone i (Array.getElem?_eq_some_iff.1 ho).1
    unfold okOne at h
    rw [ho] at h
    simp only [Bool.and_eq_true] at h
    have := List.all_eq_true.1 h.1.1 j hj
    simpa using this
  have hpair : ∀ i j, j < i → i < ops.size → okPair ops (ancs ops.toList []) recs i j = true := by
    intro i j hji hi
    have h := hone i hi
    unfold okOne at h
    simp only [Bool.and_eq_true] at h
    exact List.all_eq_true.1 h.2 j (List.mem_range.2 hji)
  have hfr : ∀ j, j < ops.size → okFresh base (ancs ops.toList []) recs j = true := by
    intro j hj
    have h := hone j hj
    unfold okOne at h
    simp only [Bool.and_eq_true] at h
    exact h.1.2
  have inReady : ∀ (listed : Array Bool) (i : Nat) (o : Oper), listed.size = ops.size → ops[i]? = some o → (i ∈ Region.ready .any ops listed ↔ listed.getD i false = false ∧ ∀ j ∈ directs o, listed.getD j false = true) := by
    intro listed i o hsz ho
    have hi : i < ops.size := (Array.getElem?_eq_some_iff.1 ho).1
    have hg : listed.getD i true = listed.getD i false := by
      rw [Array.getD_eq_getD_getElem?, Array.getD_eq_getD_getElem?, Array.getElem?_eq_getElem (by omega)]; rfl
    unfold Region.ready
    rw [List.mem_filter, List.mem_range, hg, ho]
    simp only [Option.map_some, Option.getD_some, Bool.and_eq_true, Bool.not_eq_true']
    constructor
    · rintro ⟨_, h1, h2⟩
      refine ⟨h1, fun j hj => ?_⟩
      obtain ⟨ed, hed, rfl⟩ := List.mem_map.1 hj
      rw [List.mem_filter] at hed
      have := Array.all_eq_true_iff_forall_mem.1 h2 ed (by simpa using hed.1)
      simpa [hed.2] using this
    · rintro ⟨h1, h2⟩
      refine ⟨hi, h1, Array.all_eq_true_iff_forall_mem.2 fun ed hed => ?_⟩
      cases hb : Region.binds .any ed with
      | false => simp
      | true =>
        simp only [Bool.not_true, Bool.false_or]
        exact h2 ed.on (List.mem_map.2 ⟨ed, List.mem_filter.2 ⟨by simpa using hed, hb⟩, rfl⟩)
  have allListed : ∀ (listed : Array Bool), listed.size = ops.size → Region.ready .any ops listed = [] → ∀ n i, i < n → i < ops.size → listed.getD i false = true := by
    intro listed hsz hr n
    induction n with
    | zero => intro i h; omega
    | succ n ih =>
      intro i hi his
      cases hL : listed.getD i false with
      | true => rfl
      | false =>
        have ho : ops[i]? = some ops[i] := Array.getElem?_eq_getElem his
        have := (inReady listed i ops[i] hsz ho).2 ⟨hL, fun j hj => by
          have hji := hback i _ ho j hj
          exact ih j (by omega) (by omega)⟩
        rw [hr] at this
        simp at this
  have done : ∀ (listed : Array Bool) (a : Act) (w : World), listed.size = ops.size → Region.ready .any ops listed = [] →
      Inv Z w0 M S0 (stOf (dstOf ops.toList) (efOf recs) (fun i => listed.getD i false) s0 ops.size).1 (stOf (dstOf ops.toList) (efOf recs) (fun i => listed.getD i false) s0 ops.size).2 a w → Q .normal a w := by
    intro listed a w hsz hr hI
    have hall := allListed listed hsz hr ops.size
    rw [stOf_ext (A := fun i => listed.getD i false) (B := fun _ => true) ops.size (fun i hi => hall i hi hi)] at hI
    refine hQ a w ?_
    rw [hs']
    simpa using hI
  intro fuel
  induction fuel with
  | zero =>
    intro listed a w hsz hcl hcount hI
    have hr : Region.ready .any ops listed = [] := by
      rw [List.eq_nil_iff_forall_not_mem]
      intro i hi
      have hin : i < ops.size := by
        unfold Region.ready at hi
        exact List.mem_range.1 (List.mem_filter.1 hi).1
      have h1 := ((inReady listed i ops[i] hsz (Array.getElem?_eq_getElem hin)).1 hi).1
      have : 0 < (List.range ops.size).countP (fun i => !listed.getD i false) := List.countP_pos_iff.2 ⟨i, List.mem_range.2 hin, by rw [h1]; rfl⟩
      omega
    exact ⟨hr, done listed a w hsz hr hI⟩
  | succ fuel ih =>
    intro listed a w hsz hcl hcount hI
    refine ⟨fun hr => done listed a w hsz hr hI, fun i hi => ?_⟩
    have hin : i < ops.size := by
      unfold Region.ready at hi
      exact List.mem_range.1 (List.mem_filter.1 hi).1
    have ho : ops[i]? = some ops[i] := Array.getElem?_eq_getElem hin
    obtain ⟨hLi, hdir⟩ := (inReady listed i ops[i] hsz ho).1 hi
    obtain ⟨r, hr, hD, hids⟩ := hat i ops[i] (by simpa using ho)
    rw [Nat.zero_add] at hD
    have her : r.e = efOf recs i := by simp [efOf, hr]
    -- those that come before i in this order, or in the text's, but not in both, are apart from it
    have hanc : ∀ x, hasA (ancs ops.toList []) i x = true → listed.getD x false = true := ancs_listed (L := fun i => listed.getD i false) hback hcl (i + 1) i (by omega) ops[i] ho hdir
    have hapart : ∀ x, x < ops.size → x ≠ i → (listed.getD x false ≠ decide (x < i)) → (∀ d, dstOf ops.toList x = some d → d ∉ touchT ops ops[i]) ∧ ∀ k ∈ (efOf recs x).wr.map (·.1), k ∉ touchM r := by
      intro x hx hne hdiff
      have hox : ops[x]? = some ops[x] := Array.getElem?_eq_getElem hx
      have hrx : ∃ rx, recs[x]? = some rx := by
        obtain ⟨rx, h1, _⟩ := hat x ops[x] (by simpa using hox)
        exact ⟨rx, h1⟩
      obtain ⟨rx, hrx⟩ := hrx
      have hex : efOf recs x = rx.e := by simp [efOf, hrx]
      have hdx : dstOf ops.toList x = ops[x].dst := by simp [dstOf, hx]
      have fin : apartT ops ops[x] ops[i] = true → apartM rx r = true → (∀ d, dstOf ops.toList x = some d → d ∉ touchT ops ops[i]) ∧ ∀ k ∈ (efOf recs x).wr.map (·.1), k ∉ touchM r := by
        intro h1 h2
        refine ⟨fun d hd hmem => ?_, fun k hk hmem => ?_⟩
        · rw [hdx] at hd
          unfold apartT at h1
          rw [hd] at h1
          simp [hmem] at h1
        · rw [hex] at hk
          obtain ⟨p, hp, rfl⟩ := List.mem_map.1 hk
          have := List.all_eq_true.1 h2 p hp
          simp [hmem] at this
      rcases Nat.lt_or_gt_of_ne hne with hlt | hgt
      · have hLx : listed.getD x false = false := by simpa [hlt] using hdiff
        have hp := hpair i x hlt hin
        unfold okPair at hp
        rw [ho, hox, hr, hrx] at hp
        simp only [Bool.or_eq_true, Bool.and_eq_true, List.contains_eq_mem, decide_eq_true_eq] at hp
        rcases hp with hp | ⟨⟨⟨h1, h2⟩, h3⟩, h4⟩
        · have := hanc x hp
          rw [hLx] at this; cases this
        · exact fin h2 h4
      · have hnl : ¬ x < i := by omega
        have hLx : listed.getD x false = true := by simpa [hnl] using hdiff
        have hp := hpair x i hgt hx
        unfold okPair at hp
        rw [ho, hox, hr, hrx] at hp
        simp only [Bool.or_eq_true, Bool.and_eq_true, List.contains_eq_mem, decide_eq_true_eq] at hp
        rcases hp with hp | ⟨⟨⟨h1, h2⟩, h3⟩, h4⟩
        · have := ancs_listed (L := fun i => listed.getD i false) hback hcl (x + 1) x (by omega) ops[x] hox (hcl x _ hox hLx) i hp
          rw [hLi] at this; cases this
        · exact fin h1 h3
    have hst : stOf (dstOf ops.toList) (efOf recs) (fun _ => true) s0 i = stOf (dstOf ops.toList) (efOf recs) (fun j => decide (j < i)) s0 ops.size := (stOf_lt i ops.size (by omega)).symm
    have hD' : Does Δ Γ ops (base + 16 * i) ops[i] (stOf (dstOf ops.toList) (efOf recs) (fun i => listed.getD i false) s0 ops.size).1 (stOf (dstOf ops.toList) (efOf recs) (fun i => listed.getD i false) s0 ops.size).2 r.e := by
      refine does_congr (fun t ht => ?_) (fun x hx => ?_) hD
      · rw [hst]
        refine stOf_T ops.size fun x hx hne hdst => ?_
        by_cases hxi : x = i
        · subst hxi
          apply hne
          show decide (x < x) = listed.getD x false
          rw [hLi]; simp
        · exact (hapart x hx hxi (fun e => hne e.symm)).1 t hdst (by unfold touchT; exact List.mem_append_right _ ht)
      · rw [hst]
        refine stOf_M ops.size fun y hy hne hmem => ?_
        by_cases hxi : y = i
        · subst hxi
          apply hne
          show decide (y < y) = listed.getD y false
          rw [hLi]; simp
        · refine (hapart y hy hxi (fun e => hne e.symm)).2 x hmem ?_
          unfold touchM
          rw [hids]
          exact List.mem_append_left _ hx
    have hfree' : ∀ x, base + 16 * i ≤ x → x < base + 16 * i + 16 → (stOf (dstOf ops.toList) (efOf recs) (fun i => listed.getD i false) s0 ops.size).2 x = none := by
      intro x h1 h2
      rw [stOf_M (B := fun _ => false) ops.size fun y hy hne hmem => ?_]
      · rw [stOf_none]; exact hfree x (by omega)
      · have hLy : listed.getD y false = true := by
          cases h : listed.getD y false with
          | true => rfl
          | false => exact absurd h hne
        have hoy : ops[y]? = some ops[y] := Array.getElem?_eq_getElem hy
        have hf := hfr y hy
        unfold okFresh at hf
        obtain ⟨ry, hry, _⟩ := hat y ops[y] (by simpa using hoy)
        have hey : efOf recs y = ry.e := by simp [efOf, hry]
        rw [hry] at hf
        rw [hey] at hmem
        obtain ⟨p, hp, rfl⟩ := List.mem_map.1 hmem
        have := List.all_eq_true.1 hf p hp
        have hdiv : (p.1 - base) / 16 = i := by omega
        simp only [Bool.or_eq_true, Nat.blt_eq, hdiv, List.contains_eq_mem, decide_eq_true_eq] at this
        rcases this with (h | h) | h
        · omega
        · have h := Nat.eq_of_beq_eq_true h
          subst h
          rw [hLi] at hLy; cases hLy
        · have := ancs_listed (L := fun i => listed.getD i false) hback hcl (y + 1) y (by omega) ops[y] hoy (hcl y _ hoy hLy) i h
          rw [hLi] at this; cases this
    unfold wpOp
    rw [ho]
    refine does_sound hΔ hΓ hI hfree' hD' fun a' w' hI' => ?_
    -- the state behind it
    have hset : ∀ j, (listed.setIfInBounds i true).getD j false = (listed.getD j false || decide (j = i)) := by
      intro j
      rw [Array.getD_eq_getD_getElem?, Array.getD_eq_getD_getElem?, Array.getElem?_setIfInBounds]
      by_cases hji : i = j
      · subst hji
        simp [hsz, hin]
      · have : ¬ j = i := fun e => hji e.symm
        simp [hji, this]
    have hins : stOf (dstOf ops.toList) (efOf recs) (fun j => (listed.setIfInBounds i true).getD j false) s0 ops.size = putS (stOf (dstOf ops.toList) (efOf recs) (fun i => listed.getD i false) s0 ops.size) (dstOf ops.toList i) (efOf recs i) := by
      refine stOf_ins (A := fun i => listed.getD i false) hLi hset ops.size hin fun j hij hj hLj => ?_
      have h := hapart j hj (by omega) (by
        have : ¬ j < i := by omega
        have hLj : listed.getD j false = true := hLj
        rw [hLj]; simp [this])
      have hdi : dstOf ops.toList i = ops[i].dst := by simp [dstOf, hin]
      refine ⟨fun t ht hjt => h.1 t hjt ?_, fun x hx hxj => h.2 x hxj ?_⟩
      · unfold touchT
        rw [hdi] at ht
        rw [ht]; simp
      · unfold touchM
        rw [her]
        exact List.mem_append_right _ hx
    refine ih (listed.setIfInBounds i true) a' w' (by simpa using hsz) (fun j oj hoj hLj d hd => ?_) ?_ ?_
    · rw [hset] at hLj ⊢
      simp only [Bool.or_eq_true, decide_eq_true_eq] at hLj ⊢
      rcases hLj with hLj | hLj
      · exact .inl (hcl j oj hoj hLj d hd)
      · subst hLj
        rw [ho] at hoj
        cases hoj
        exact .inl (hdir d hd)
    · have := countP_less (p := fun j => !listed.getD j false) (p' := fun j => !(listed.setIfInBounds i true).getD j false) (i := i) (l := List.range ops.size) (List.mem_range.2 hin) (fun j hj => by
        rw [hset] at hj
        simp only [Bool.not_eq_true', Bool.or_eq_false_iff] at hj ⊢
        exact hj.1) (by simp only [hLi, Bool.not_false]) (by simp only [hset, decide_true, Bool.or_true, Bool.not_true])
      omega
    · rw [hins]
      have hdi : dstOf ops.toList i = ops[i].dst := by simp [dstOf, hin]
      rw [hdi, ← her]
      exact hI'
end
end Go.Ab
