/- What a contract of a function says of its calls, and the step of a call ('Ab'). -/
import Derived.Test.YtlcibodnpogfhaaAbOps4
set_option linter.unusedVariables false
set_option linter.unusedSimpArgs false
set_option linter.unnecessarySimpa false
namespace Go.Ab
open Go.RowKit

/-! ### values that are handed over -/
section
variable (w : World) (S : Nat → Prop) (ok : Nat → Prop)
def PartR : Part → Value → Prop
  | (none, x), v => CR w S x.t [v] x.d
  | (some e, ⟨.slice t, xs⟩), v => ∃ cells, w.ownsRow 0 e t.size v xs.length cells ∧ RowsR w S t xs cells ∧ ∀ k, blk v = some k → ¬ S k ∧ ok k
  | _, _ => False
def partsOf : Bool → Value → List Value
  | true, .agg cs => cs.toList
  | true, _ => []
  | false, v => [v]
def RVR (r : RV) (v : Value) : Prop := (r.1 = true → ∃ cs, v = .agg cs) ∧ F2 (PartR w S ok) r.2 (partsOf r.1 v)
/-- (data alone) -/
def PartD (p : Part) (u : Value) : Prop := p.1 = none ∧ CR w S p.2.t [u] p.2.d
def BoxD (l : List Part) (b : Nat) : Prop := ∃ T cs, w.heap[b]? = some (.cells cs T (0, 0)) ∧ F2 (PartD w S) l cs.toList
def ArgD : Arg → Value → Prop
  | .val r, v => (r.1 = true → ∃ cs, v = .agg cs) ∧ F2 (PartD w S) r.2 (partsOf r.1 v)
  | .box l, v => ∃ b, v = .pointer (some ⟨b, 0, none⟩) ∧ BoxD w S l b
  | .fn f ls, v => ∃ bs : List Nat, v = .func (.func f) #[] (bs.map fun b => Value.pointer (some ⟨b, 0, none⟩)).toArray ∧ F2 (BoxD w S) ls bs
/-- A variable's block, and what it holds. -/
def BoxR (l : List Part) (b : Nat) : Prop := ∃ T cs, w.heap[b]? = some (.cells cs T (0, 0)) ∧ F2 (PartR w S ok) l cs.toList
def ArgR : Arg → Value → Prop
  | .val r, v => RVR w S ok r v
  | .box l, v => ∃ b, v = .pointer (some ⟨b, 0, none⟩) ∧ BoxR w S ok l b
  | .fn f ls, v => ∃ bs : List Nat, v = .func (.func f) #[] (bs.map fun b => Value.pointer (some ⟨b, 0, none⟩)).toArray ∧ F2 (BoxR w S ok) ls bs
def OutR : Out → Value → Prop
  | .val r, v => RVR w S ok r v
  | .tup l, v => ∃ vs : Array Value, v = .tuple vs ∧ F2 (RVR w S ok) l vs.toList
  | .ptr l, v => ∃ b T cs, v = .pointer (some ⟨b, 0, none⟩) ∧ w.heap[b]? = some (.cells cs T (0, 0)) ∧ F2 (fun (x : D) u => CR w S x.t [u] x.d) l cs.toList ∧ ¬ S b ∧ ok b
end
def ptrBlk : Value → List Nat
  | .pointer (some a) => [a.block]
  | _ => []
/-- The blocks of the variables that are handed in. -/
def boxBlk : Arg → Value → List Nat
  | .box _, v => ptrBlk v
  | .fn _ _, .func _ _ caps => caps.toList.flatMap ptrBlk
  | _, _ => []
def boxBlks : List Arg → List Value → List Nat
  | a :: as, v :: vs => boxBlk a v ++ boxBlks as vs
  | _, _ => []
/-- The blocks of rows that are handed over. -/
def ownBlks : List Part → List Value → List Nat
  | (some _, _) :: ps, v :: vs => (blk v).toList ++ ownBlks ps vs
  | (none, _) :: ps, _ :: vs => ownBlks ps vs
  | _, _ => []
def ownT : List RV → List Value → List Nat
  | r :: rs, v :: vs => ownBlks r.2 (partsOf r.1 v) ++ ownT rs vs
  | _, _ => []
def ownOut : Out → Value → List Nat
  | .val r, v => ownBlks r.2 (partsOf r.1 v)
  | .tup l, .tuple vs => ownT l vs.toList
  | .ptr _, .pointer (some a) => [a.block]
  | _, _ => []
def cellsAt (w : World) (b : Nat) : List Value := match w.heap[b]? with | some (.cells cs _ _) => cs.toList | _ => []
def ownB (w : World) : List (List Part) → List Nat → List Nat
  | l :: ls, b :: bs => ownBlks l (cellsAt w b) ++ ownB w ls bs
  | _, _ => []
/-- The blocks of the rows that are handed over. -/
def ownA (w : World) : Arg → Value → List Nat
  | .val r, v => ownBlks r.2 (partsOf r.1 v)
  | .box l, v => ownB w [l] (ptrBlk v)
  | .fn _ ls, .func _ _ caps => ownB w ls (caps.toList.flatMap ptrBlk)
  | .fn _ _, _ => []
def ownAs (w : World) : List Arg → List Value → List Nat
  | a :: as, v :: vs => ownA w a v ++ ownAs w as vs
  | _, _ => []
/-- What is there behind a call: w before it, bs the blocks of the variables whose addresses were handed in, hs those of the rows that were handed over. -/
structure Back0 (w : World) (S : Nat → Prop) (bs hs : List Nat) (r : Res) (v : Value) (w' : World) (S' : Nat → Prop) : Prop where
  frame : Frame0 (fun k => k ∈ bs ∨ k ∈ hs) w w'
  s : ∀ b, S b → S' b
  lt : ∀ b, S' b → b < w'.heap.size
  from_ : ∀ b, S' b → S b ∨ w.heap.size ≤ b ∨ b ∈ hs
  out : OutR w' S' (fun k => w.heap.size ≤ k ∨ k ∈ hs) r.out v
  boxes : F2 (BoxR w' S' (fun k => w.heap.size ≤ k ∨ k ∈ hs)) r.boxes bs
  apart : (ownOut r.out v ++ ownB w' r.boxes bs).Nodup
def Back (w : World) (S : Nat → Prop) (bs hs : List Nat) (r : Res) (v : Value) (w' : World) : Prop := ∃ S', Back0 w S bs hs r v w' S'
def CallGoes (P : Program) (f : FuncId) (vs : Array Value) (w : World) (R : Value → World → Prop) : Prop :=
  ∀ (o : Oper) (a : Act) (next : Act → World → Prop) (Q : Exit → Act → World → Prop), (∀ v w', R v w' → next (a.put o.dst v) w') → o.upon P a next Q ((callFunc f vs).run P w)
def CallOk (P : Program) (f : FuncId) (G : Spec) : Prop :=
  ∀ as c dc r, G as = .yes c dc r → c → ∀ (w : World) (S : Nat → Prop) (vs : Array Value), (∀ b, S b → b < w.heap.size) → F2 (ArgR w S (fun _ => True)) as vs.toList →
    (ownAs w as vs.toList ++ boxBlks as vs.toList).Nodup → (∀ b ∈ boxBlks as vs.toList, ¬ S b) → CallGoes P f vs w (Back w S (boxBlks as vs.toList) (ownAs w as vs.toList) (r.full as))
def EnvOk (P : Program) (Γ : Env) : Prop := ∀ f G, Γ f = some G → CallOk P f G

theorem ptrBlks (bs : List Nat) : (bs.map fun b => Value.pointer (some ⟨b, 0, none⟩)).flatMap ptrBlk = bs := by
  induction bs with
  | nil => rfl
  | cons b bs ih => simp [ptrBlk, ih]
section
variable {w : World} {S ok : Nat → Prop}
theorem PartD.part {p : Part} {u : Value} (h : PartD w S p u) : PartR w S ok p u := by
  obtain ⟨f, x⟩ := p
  obtain ⟨h1, h2⟩ := h
  simp only at h1
  subst h1
  exact h2
theorem PartD.blks : ∀ {l : List Part} {vs : List Value}, F2 (PartD w S) l vs → ownBlks l vs = []
  | [], _, .nil => rfl
  | (f, x) :: l, v :: vs, .cons h1 h2 => by
    have : f = none := h1.1
    subst this
    have ih := PartD.blks h2
    exact ih
theorem BoxD.box {l : List Part} {b : Nat} (h : BoxD w S l b) : BoxR w S ok l b := by
  obtain ⟨T, cs, h1, h2⟩ := h
  exact ⟨T, cs, h1, h2.imp fun _ _ => PartD.part⟩
theorem BoxD.blks : ∀ {ls : List (List Part)} {bs : List Nat}, F2 (BoxD w S) ls bs → ownB w ls bs = []
  | [], _, .nil => rfl
  | l :: ls, b :: bs, .cons ⟨T, cs, h1, h2⟩ h3 => by
    have hcells : cellsAt w b = cs.toList := by simp [cellsAt, h1]
    simp only [ownB, hcells, PartD.blks h2, BoxD.blks h3, List.append_nil]
theorem ArgD.arg {x : Arg} {v : Value} (h : ArgD w S x v) : ArgR w S ok x v := by
  cases x with
  | val r => exact ⟨h.1, h.2.imp fun _ _ => PartD.part⟩
  | box l => obtain ⟨b, h1, h2⟩ := h; exact ⟨b, h1, h2.box⟩
  | fn f ls => obtain ⟨bs, h1, h2⟩ := h; exact ⟨bs, h1, h2.imp fun _ _ => BoxD.box⟩
theorem ArgD.blks {x : Arg} {v : Value} (h : ArgD w S x v) : ownA w x v = [] := by
  cases x with
  | val r => exact PartD.blks h.2
  | box l => obtain ⟨b, rfl, h2⟩ := h; exact BoxD.blks (.cons h2 .nil)
  | fn f ls =>
    obtain ⟨bs, rfl, h2⟩ := h
    show ownB w ls _ = []
    rw [ptrBlks]; exact BoxD.blks h2
theorem ArgsD.blks : ∀ {as : List Arg} {vs : List Value}, F2 (ArgD w S) as vs → ownAs w as vs = []
  | [], _, .nil => rfl
  | a :: as, v :: vs, .cons h1 h2 => by simp only [ownAs, h1.blks, ArgsD.blks h2, List.append_nil]
end

section
variable {P : Program} {Δ : Tys} {w0 w w' : World} {M S0 S : Nat → Prop} {tm : List AV} {μ μ' : Mu} {η η' : Nat → Value} {a : Act} {o : Oper}
def LiveIn (μ : Mu) (η : Nat → Value) (k : Nat) : Prop := ∃ j cj, μ j = some cj ∧ cj.live = true ∧ blk (η j) = some k
/-- A row that was handed over. -/
theorem inv_addrow (hM : InvM w0 M S0 μ η S w) {new : Nat} (hnew : μ new = none) {e : TypeId} {t : Ty} {xs : List t.den} {v : Value}
    (hv : PartR w S (fun k => w0.heap.size ≤ k ∨ M k) (some e, ⟨.slice t, xs⟩) v) (hap : ∀ k, blk v = some k → ¬ LiveIn μ η k) :
    ∃ η', η' new = v ∧ InvM w0 M S0 (muPut μ [(new, .rows e t xs false)]) η' S w ∧ Stay w w S S (dom μ) (dom (muPut μ [(new, .rows e t xs false)])) η η' := by
  obtain ⟨cells, h1, h2, h3⟩ := hv
  let η' : Nat → Value := fun i => if i = new then v else η i
  have hne : ∀ i, dom μ i → i ≠ new := fun i hi e => by subst e; simp [dom, hnew] at hi
  have hst : Stay w w S S (dom μ) (dom (muPut μ [(new, .rows e t xs false)])) η η' :=
    ⟨fun _ h => h, fun _ _ => rfl, dom_put _, fun i hi => by simp [η', hne i hi]⟩
  refine ⟨η', by simp [η'], inv_upd hM hM.frame (Nat.le_refl _) hst fun i ci hi => ?_, hst⟩
  rw [muPut_one] at hi
  by_cases he : i = new
  · subst he
    simp only [if_true, Option.some.injEq] at hi
    subst hi
    refine .inr ⟨⟨cells, by simpa [η'] using h1, h2, fun k hk => h3 k (by simpa [η'] using hk)⟩, fun _ k hk j cj hj hcj hlj hkj => ?_⟩
    rw [muPut_one] at hcj
    simp only [if_neg hj] at hcj
    simp only [η', if_neg hj] at hkj
    simp only [η', if_true] at hk
    exact hap k hk ⟨j, cj, hcj, hlj, hkj⟩
  · simp only [if_neg he] at hi
    exact .inl ⟨hi, fun _ _ _ => rfl⟩
theorem live_put {new : Nat} {c : Chunk} {v : Value} (hv : η' new = v) (hη : ∀ i, dom μ i → η' i = η i) {k : Nat} (h : LiveIn (muPut μ [(new, c)]) η' k) : LiveIn μ η k ∨ blk v = some k := by
  obtain ⟨j, cj, hj, hl, hk⟩ := h
  rw [muPut_one] at hj
  by_cases he : j = new
  · subst he; right; rw [← hv]; exact hk
  · simp only [if_neg he] at hj
    left; exact ⟨j, cj, hj, hl, by rw [← hη j (by simp [dom, hj])]; exact hk⟩
theorem PartR.plain {ok : Nat → Prop} {p : Part} {v : Value} (h : PartR w S ok p v) : v.oneCell' = true := by
  match p, h with
  | (none, x), h => exact CR_one h v (by simp)
  | (some e, ⟨.slice t, xs⟩), ⟨cells, h1, _⟩ =>
    obtain ⟨⟨A, c, h2, _⟩, _⟩ := own_slice h1
    rw [h2]; rfl
theorem backs_plain : ∀ (ps : List Part) (n : Nat), (backs n ps).1.all plainLeaf = true
  | [], _ => rfl
  | (none, _) :: ps, n => by simp [backs, plainLeaf, backs_plain ps n]
  | (some _, ⟨.slice _, _⟩) :: ps, n => by simp [backs, plainLeaf, backs_plain ps (n + 1)]
  | (some _, ⟨.int _, _⟩) :: ps, n => by simp [backs, plainLeaf, backs_plain ps n]
  | (some _, ⟨.bool, _⟩) :: ps, n => by simp [backs, plainLeaf, backs_plain ps n]
  | (some _, ⟨.str, _⟩) :: ps, n => by simp [backs, plainLeaf, backs_plain ps n]
  | (some _, ⟨.pair _ _, _⟩) :: ps, n => by simp [backs, plainLeaf, backs_plain ps n]
  | (some _, ⟨.unit, _⟩) :: ps, n => by simp [backs, plainLeaf, backs_plain ps n]
/-- Memory with what was handed over. -/
structure Added (w0 : World) (M S0 S : Nat → Prop) (w : World) (μ : Mu) (η : Nat → Value) (mem : Mem) (m N : Nat) (bs : List Nat) (η' : Nat → Value) : Prop where
  inv : InvM w0 M S0 (muPut μ mem) η' S w
  stay : Stay w w S S (dom μ) (dom (muPut μ mem)) η η'
  free : ∀ i, m ≤ i → i < N → muPut μ mem i = none
  live : ∀ k, LiveIn (muPut μ mem) η' k → LiveIn μ η k ∨ k ∈ bs
theorem Added.zero (hM : InvM w0 M S0 μ η S w) {n N : Nat} (hfree : ∀ i, n ≤ i → i < N → μ i = none) : Added w0 M S0 S w μ η [] n N [] η := ⟨hM, Stay.refl _ _ _ _, hfree, fun _ h => .inl h⟩
theorem Added.then {mem mem' : Mem} {m m' N : Nat} {bs bs' : List Nat} {η'' : Nat → Value} (h : Added w0 M S0 S w μ η mem m N bs η') (h' : Added w0 M S0 S w (muPut μ mem) η' mem' m' N bs' η'') :
    Added w0 M S0 S w μ η (mem ++ mem') m' N (bs ++ bs') η'' := by
  have e := muPut_append μ mem mem'
  refine ⟨by rw [e]; exact h'.inv, by rw [e]; exact h.stay.trans h'.stay, fun i h1 h2 => by rw [e]; exact h'.free i h1 h2, fun k hk => ?_⟩
  rw [e] at hk
  rcases h'.live k hk with hk | hk
  · exact (h.live k hk).imp id fun h => List.mem_append_left _ h
  · exact .inr (List.mem_append_right _ hk)
theorem backs_le : ∀ (ps : List Part) (n : Nat), n ≤ (backs n ps).2.2
  | [], _ => Nat.le_refl _
  | (none, _) :: ps, n => backs_le ps n
  | (some _, ⟨.slice _, _⟩) :: ps, n => Nat.le_trans (Nat.le_succ n) (backs_le ps (n + 1))
  | (some _, ⟨.int _, _⟩) :: ps, n => backs_le ps n
  | (some _, ⟨.bool, _⟩) :: ps, n => backs_le ps n
  | (some _, ⟨.str, _⟩) :: ps, n => backs_le ps n
  | (some _, ⟨.pair _ _, _⟩) :: ps, n => backs_le ps n
  | (some _, ⟨.unit, _⟩) :: ps, n => backs_le ps n
theorem add_parts {N : Nat} : ∀ {ps : List Part} {vs : List Value} {n : Nat} {μ : Mu} {η : Nat → Value} (_ : InvM w0 M S0 μ η S w) (_ : ∀ i, n ≤ i → i < N → μ i = none) (_ : (backs n ps).2.2 ≤ N)
    (_ : F2 (PartR w S (fun k => w0.heap.size ≤ k ∨ M k)) ps vs) (_ : (ownBlks ps vs).Nodup) (_ : ∀ k ∈ ownBlks ps vs, ¬ LiveIn μ η k),
    ∃ η', Added w0 M S0 S w μ η (backs n ps).2.1 (backs n ps).2.2 N (ownBlks ps vs) η' ∧ F2 (LR w S (dom (muPut μ (backs n ps).2.1)) η') (backs n ps).1 vs
  | [], vs, n, μ, η, hM, hfree, hle, hp, hnd, hap => by
    cases hp
    exact ⟨η, Added.zero hM hfree, .nil⟩
  | (none, x) :: ps, v :: vs, n, μ, η, hM, hfree, hle, .cons h1 h2, hnd, hap => by
    obtain ⟨η', g1, g2⟩ := add_parts (ps := ps) (vs := vs) (n := n) hM hfree hle h2 hnd hap
    exact ⟨η', g1, .cons (CR_stay (fun _ h => h) (fun _ _ => rfl) h1) g2⟩
  | (some e, ⟨.slice t, xs⟩) :: ps, v :: vs, n, μ, η, hM, hfree, hle, .cons h1 h2, hnd, hap => by
    have hle1 : (backs (n + 1) ps).2.2 ≤ N := hle
    have hnN : n < N := Nat.lt_of_lt_of_le (Nat.lt_of_lt_of_le (Nat.lt_succ_self n) (backs_le ps (n + 1))) hle1
    have hin : ∀ k, blk v = some k → k ∈ ownBlks ((some e, (⟨.slice t, xs⟩ : D)) :: ps) (v :: vs) := fun k hk => by simp [ownBlks, hk]
    obtain ⟨η1, e1, i1, s1⟩ := inv_addrow hM (hfree n (Nat.le_refl _) hnN) h1 (fun k hk => hap k (hin k hk))
    have hnd' : ((blk v).toList ++ ownBlks ps vs).Nodup := hnd
    rw [List.nodup_append] at hnd'
    have hA : Added w0 M S0 S w μ η [(n, .rows e t xs false)] (n + 1) N (blk v).toList η1 := by
      refine ⟨i1, s1, fun i h h' => ?_, fun k hk => ?_⟩
      · rw [muPut_one]
        have : i ≠ n := by omega
        simp only [if_neg this]
        exact hfree i (by omega) h'
      · rcases live_put e1 s1.η hk with h | h
        · exact .inl h
        · exact .inr (by simp [h])
    obtain ⟨η', g1, g2⟩ := add_parts (ps := ps) (vs := vs) (n := n + 1) i1 hA.free hle1 (h2.imp fun _ _ h => h) hnd'.2.1 (fun k hk hl => by
      rcases hA.live k hl with h | h
      · exact hap k (List.mem_append_right _ hk) h
      · exact hnd'.2.2 k h k hk rfl)
    refine ⟨η', hA.then g1, .cons ?_ g2⟩
    have hd : dom (muPut μ [(n, .rows e t xs false)]) n := by rw [muPut_one]; simp [dom]
    refine ⟨g1.stay.d n hd, ?_, PartR.plain h1⟩
    rw [g1.stay.η n hd]; exact e1.symm
theorem add_rv {N : Nat} {r : RV} {v : Value} {n : Nat} (hM : InvM w0 M S0 μ η S w) (hfree : ∀ i, n ≤ i → i < N → μ i = none) (hle : (backs n r.2).2.2 ≤ N)
    (hp : RVR w S (fun k => w0.heap.size ≤ k ∨ M k) r v) (hnd : (ownBlks r.2 (partsOf r.1 v)).Nodup) (hap : ∀ k ∈ ownBlks r.2 (partsOf r.1 v), ¬ LiveIn μ η k) :
    ∃ η', Added w0 M S0 S w μ η (backs n r.2).2.1 (backs n r.2).2.2 N (ownBlks r.2 (partsOf r.1 v)) η' ∧ RegR w S (dom (muPut μ (backs n r.2).2.1)) η' (r.1, (backs n r.2).1) v := by
  obtain ⟨η', g1, g2⟩ := add_parts hM hfree hle hp.2 hnd hap
  refine ⟨η', g1, ?_⟩
  obtain ⟨ag, ps⟩ := r
  cases ag with
  | true =>
    obtain ⟨cs, rfl⟩ := hp.1 rfl
    exact ⟨cs, rfl, g2⟩
  | false =>
    simp only [partsOf] at g2 ⊢
    generalize (backs n ps).1 = ls at g2 ⊢
    cases g2 with
    | cons h1 h2 =>
      cases h2
      exact h1
theorem backT_le : ∀ (l : List RV) (n : Nat), n ≤ (backT n l).2.2
  | [], _ => Nat.le_refl _
  | (_, l) :: rest, n => Nat.le_trans (backs_le l n) (backT_le rest _)
theorem RegR_mono {Dm' : Nat → Prop} (hd : ∀ i, dom μ i → Dm' i) (hη : ∀ i, dom μ i → η' i = η i) {r : Reg} {v : Value} (h : RegR w S (dom μ) η r v) : RegR w S Dm' η' r v :=
  RegR_stay ⟨fun _ h => h, fun _ _ => rfl, hd, hη⟩ h
theorem add_tup {N : Nat} : ∀ {l : List RV} {vs : List Value} {n : Nat} {μ : Mu} {η : Nat → Value} (_ : InvM w0 M S0 μ η S w) (_ : ∀ i, n ≤ i → i < N → μ i = none) (_ : (backT n l).2.2 ≤ N)
    (_ : F2 (RVR w S (fun k => w0.heap.size ≤ k ∨ M k)) l vs) (_ : (ownT l vs).Nodup) (_ : ∀ k ∈ ownT l vs, ¬ LiveIn μ η k),
    ∃ η', Added w0 M S0 S w μ η (backT n l).2.1 (backT n l).2.2 N (ownT l vs) η' ∧ F2 (RegR w S (dom (muPut μ (backT n l).2.1)) η') (backT n l).1 vs
  | [], vs, n, μ, η, hM, hfree, hle, hp, hnd, hap => by
    cases hp
    exact ⟨η, Added.zero hM hfree, .nil⟩
  | (ag, ps) :: rest, v :: vs, n, μ, η, hM, hfree, hle, .cons h1 h2, hnd, hap => by
    have hnd' : (ownBlks ps (partsOf ag v) ++ ownT rest vs).Nodup := hnd
    rw [List.nodup_append] at hnd'
    have hle1 : (backs n ps).2.2 ≤ N := Nat.le_trans (backT_le rest _) hle
    obtain ⟨η1, g1, r1⟩ := add_rv (r := (ag, ps)) hM hfree hle1 h1 hnd'.1 (fun k hk => hap k (List.mem_append_left _ hk))
    obtain ⟨η', g2, r2⟩ := add_tup (l := rest) (vs := vs) (n := (backs n ps).2.2) g1.inv g1.free hle h2 hnd'.2.1 (fun k hk hl => by
      rcases g1.live k hl with h | h
      · exact hap k (List.mem_append_right _ hk) h
      · exact hnd'.2.2 k h k hk rfl)
    have hall := g1.then g2
    refine ⟨η', hall, ?_⟩
    · have e : muPut μ (backT n ((ag, ps) :: rest)).2.1 = muPut (muPut μ (backs n ps).2.1) (backT (backs n ps).2.2 rest).2.1 := muPut_append _ _ _
      rw [e]
      exact F2.cons (RegR_mono g2.stay.d g2.stay.η r1) r2
end
end Go.Ab
