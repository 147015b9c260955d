/- The step of a call ('Ab'): put together. -/
import Derived.Test.YtlcibodnpogfhaaAbCall2
set_option linter.unusedVariables false
set_option linter.unusedSimpArgs false
set_option linter.unnecessarySimpa false
namespace Go.Ab
open Go.RowKit
section
variable {ids bs : List Nat} {P : Program} {Δ : Tys} {w0 w w' : World} {M S0 S : Nat → Prop} {tm : List AV} {μ μ' : Mu} {η η' : Nat → Value} {a : Act} {o : Oper}
theorem PartR_mono {ok ok' : Nat → Prop} (h : ∀ k, ok k → ok' k) {p : Part} {v : Value} (hp : PartR w S ok p v) : PartR w S ok' p v := by
  match p, hp with
  | (none, x), hp => exact hp
  | (some e, ⟨.slice t, xs⟩), ⟨cells, h1, h2, h3⟩ => exact ⟨cells, h1, h2, fun k hk => ⟨(h3 k hk).1, h k (h3 k hk).2⟩⟩
theorem RVR_mono {ok ok' : Nat → Prop} (h : ∀ k, ok k → ok' k) {r : RV} {v : Value} (hp : RVR w S ok r v) : RVR w S ok' r v := ⟨hp.1, hp.2.imp fun _ _ => PartR_mono h⟩
theorem ownBlks_ok {ok : Nat → Prop} : ∀ {ps : List Part} {vs : List Value}, F2 (PartR w S ok) ps vs → ∀ k ∈ ownBlks ps vs, ok k
  | [], _, _, k, hk => by simp [ownBlks] at hk
  | (none, x) :: ps, v :: vs, .cons _ h2, k, hk => ownBlks_ok h2 k hk
  | (some e, ⟨.slice t, xs⟩) :: ps, v :: vs, .cons h1 h2, k, hk => by
    simp only [ownBlks, List.mem_append, Option.mem_toList] at hk
    rcases hk with hk | hk
    · obtain ⟨_, _, _, h3⟩ := h1
      exact (h3 k hk).2
    · exact ownBlks_ok h2 k hk
theorem ownT_ok {ok : Nat → Prop} : ∀ {l : List RV} {vs : List Value}, F2 (RVR w S ok) l vs → ∀ k ∈ ownT l vs, ok k
  | [], _, _, k, hk => by simp [ownT] at hk
  | r :: l, v :: vs, .cons h1 h2, k, hk => by
    simp only [ownT, List.mem_append] at hk
    rcases hk with hk | hk
    · exact ownBlks_ok h1.2 k hk
    · exact ownT_ok h2 k hk
theorem ownOut_ok {ok : Nat → Prop} {r : Out} {v : Value} (h : OutR w S ok r v) : ∀ k ∈ ownOut r v, ok k := by
  intro k hk
  cases r with
  | val r => exact ownBlks_ok h.2 k hk
  | tup l =>
    obtain ⟨vs, rfl, hf⟩ := h
    exact ownT_ok hf k hk
  | ptr l =>
    obtain ⟨b, T, cs, rfl, _, _, _, h5⟩ := h
    simp only [ownOut, List.mem_singleton] at hk
    subst hk
    exact h5
theorem ownB_ok {ok : Nat → Prop} : ∀ {ls : List (List Part)} {bs : List Nat}, F2 (BoxR w S ok) ls bs → ∀ k ∈ ownB w ls bs, ok k
  | [], _, _, k, hk => by simp [ownB] at hk
  | l :: ls, b :: bs, .cons ⟨T, cs, h1, h2⟩ h3, k, hk => by
    have hcells : cellsAt w b = cs.toList := by simp [cellsAt, h1]
    simp only [ownB, List.mem_append, hcells] at hk
    rcases hk with hk | hk
    · exact ownBlks_ok h2 k hk
    · exact ownB_ok h3 k hk
theorem backT_other : ∀ (l : List RV) (n : Nat) (μ : Mu) (i : Nat), (i < n ∨ (backT n l).2.2 ≤ i) → muPut μ (backT n l).2.1 i = μ i
  | [], _, _, _, _ => rfl
  | (ag, ps) :: rest, n, μ, i, h => by
    have e : muPut μ (backT n ((ag, ps) :: rest)).2.1 = muPut (muPut μ (backs n ps).2.1) (backT (backs n ps).2.2 rest).2.1 := muPut_append _ _ _
    have h1 := backs_le ps n
    have h2 := backT_le rest (backs n ps).2.2
    have e2 : (backT n ((ag, ps) :: rest)).2.2 = (backT (backs n ps).2.2 rest).2.2 := rfl
    rw [e2] at h
    rw [e, backT_other rest _ _ i (by omega), backs_other ps n μ i (by omega)]
theorem backOut_other (r : Out) (n : Nat) (μ : Mu) (i : Nat) (h : i < n ∨ (backOut n r).2.2 ≤ i) : muPut μ (backOut n r).2.1 i = μ i := by
  cases r with
  | val r => exact backs_other r.2 n μ i h
  | tup l => exact backT_other l n μ i h
  | ptr l =>
    have h : i < n ∨ n + 1 ≤ i := h
    show muPut μ [(n, .box (l.map .dat))] i = μ i
    rw [muPut_one]
    have : i ≠ n := by omega
    simp [this]
theorem backOut_le (r : Out) (n : Nat) : n ≤ (backOut n r).2.2 := by
  cases r with
  | val r => exact backs_le r.2 n
  | tup l => exact backT_le l n
  | ptr l => exact Nat.le_succ n
theorem add_out {N : Nat} {r : Out} {v : Value} {n : Nat} (hM : InvM w0 M S0 μ η S w) (hfree : ∀ i, n ≤ i → i < N → μ i = none) (hle : (backOut n r).2.2 ≤ N)
    (hp : OutR w S (fun k => w0.heap.size ≤ k ∨ M k) r v) (hnd : (ownOut r v).Nodup) (hap : ∀ k ∈ ownOut r v, ¬ LiveIn μ η k) :
    ∃ η', Added w0 M S0 S w μ η (backOut n r).2.1 (backOut n r).2.2 N (ownOut r v) η' ∧ AVR w S (dom (muPut μ (backOut n r).2.1)) η' (backOut n r).1 v := by
  cases r with
  | val r =>
    obtain ⟨η', h1, h2⟩ := add_rv hM hfree hle hp hnd hap
    exact ⟨η', h1, h2⟩
  | tup l =>
    obtain ⟨vs, rfl, hf⟩ := hp
    obtain ⟨η', h1, h2⟩ := add_tup hM hfree hle hf hnd hap
    exact ⟨η', h1, vs, rfl, h2⟩
  | ptr l =>
    obtain ⟨b, T, cs, rfl, hb, hf, hS, hok⟩ := hp
    have hle : n + 1 ≤ N := hle
    have hnew : μ n = none := hfree n (Nat.le_refl _) (by omega)
    let η' : Nat → Value := fun i => if i = n then .pointer (some ⟨b, 0, none⟩) else η i
    have hne : ∀ i, dom μ i → i ≠ n := fun i hi e => by subst e; simp [dom, hnew] at hi
    have hst : Stay w w S S (dom μ) (dom (muPut μ [(n, .box (l.map .dat))])) η η' :=
      ⟨fun _ h => h, fun _ _ => rfl, dom_put _, fun i hi => by simp [η', hne i hi]⟩
    have hηn : η' n = .pointer (some ⟨b, 0, none⟩) := by simp [η']
    have hinv : InvM w0 M S0 (muPut μ [(n, .box (l.map .dat))]) η' S w := by
      refine inv_upd hM hM.frame (Nat.le_refl _) hst fun i ci hi => ?_
      rw [muPut_one] at hi
      by_cases he : i = n
      · subst he
        simp only [if_true, Option.some.injEq] at hi
        subst hi
        refine .inr ⟨⟨b, T, cs, hηn, hb, F2.map_left (hf.imp fun _ _ h => h), by simp [plainLeaf], hS, hok⟩, fun _ k hk j cj hj hcj hlj hkj => ?_⟩
        rw [muPut_one] at hcj
        simp only [if_neg hj] at hcj
        simp only [η', if_neg hj] at hkj
        have hkb : b = k := by simpa [hηn, blk] using hk
        subst hkb
        exact hap b (by simp [ownOut]) ⟨j, cj, hcj, hlj, hkj⟩
      · simp only [if_neg he] at hi
        exact .inl ⟨hi, fun _ _ _ => rfl⟩
    refine ⟨η', ⟨hinv, hst, fun i h h' => ?_, fun k hk => ?_⟩, ?_⟩
    · have h : n + 1 ≤ i := h
      show muPut μ [(n, .box (l.map .dat))] i = none
      rw [muPut_one]
      have : i ≠ n := by omega
      simp only [if_neg this]
      exact hfree i (by omega) h'
    · rcases live_put hηn hst.η hk with h | h
      · exact .inl h
      · refine .inr ?_
        simp only [blk, Option.some.injEq] at h
        simp [ownOut, h]
    · show RegR w S (dom (muPut μ [(n, .box (l.map .dat))])) η' (false, [.ptr n 0]) (.pointer (some ⟨b, 0, none⟩))
      exact ⟨by rw [muPut_one]; simp [dom], b, hηn, rfl⟩
theorem muPut_over : ∀ (l : Mem) {μ μ' : Mu}, (∀ i, μ i ≠ μ' i → i ∈ l.map (·.1)) → muPut μ l = muPut μ' l
  | [], μ, μ', h => by
    funext i
    refine Classical.byContradiction fun hne => ?_
    have := h i hne
    simp at this
  | p :: l, μ, μ', h => by
    refine muPut_over l fun i hi => ?_
    by_cases he : i = p.1
    · simp [he] at hi
    · simp only [if_neg he] at hi
      have := h i hi
      simpa [he] using this
theorem backBoxes_keys : ∀ {ids : List Nat} {ls : List (List Part)} {n : Nat} {q : Mem × Nat}, backBoxes n ids ls = some q → (∀ i ∈ ids, i ∈ q.1.map (·.1)) ∧ n ≤ q.2
  | [], [], n, q, h => by simp only [backBoxes, Option.some.injEq] at h; subst h; exact ⟨fun i hi => by simp at hi, Nat.le_refl _⟩
  | [], _ :: _, n, q, h => by simp [backBoxes] at h
  | _ :: _, [], n, q, h => by simp [backBoxes] at h
  | id :: ids, l :: ls, n, q, h => by
    simp only [backBoxes, Option.map_eq_some_iff] at h
    obtain ⟨q', h1, rfl⟩ := h
    obtain ⟨h2, h3⟩ := backBoxes_keys h1
    refine ⟨fun i hi => ?_, Nat.le_trans (backs_le l n) h3⟩
    rcases List.mem_cons.1 hi with rfl | hi
    · simp
    · have := h2 i hi
      simp only [List.map_append, List.map_cons, List.mem_append, List.mem_cons]
      exact .inr (.inr this)
theorem run_resolve_call (c : Call) (f' : Operand) (hc : c.callee = .value f') (f : FuncId) (hf : a.eval f' = .func (.func f) #[] #[]) (ho : o.op = .call c) : (execOp a.eval o).run P w = (callFunc f (c.args.map a.eval)).run P w := by
  simp [execOp, ho, resolve, hc, hf, Deferred.ofValue, invoke]
theorem fullB_nil (as : List Arg) : fullB as [] = [] := by
  unfold fullB
  cases boxesIn as <;> rfl
theorem muPut_off : ∀ (l : Mem) {μ : Mu} {i : Nat}, (∀ p ∈ l, p.1 ≠ i) → muPut μ l i = μ i
  | [], _, _, _ => rfl
  | p :: l, μ, i, h => by
    show muPut (fun i => if i = p.1 then some p.2 else μ i) l i = μ i
    rw [muPut_off l fun q hq => h q (List.mem_cons_of_mem _ hq)]
    have : i ≠ p.1 := fun e => h p (by simp) e.symm
    rw [if_neg this]
theorem muPut_drop : ∀ (l : Mem) {ν : Mu} {K : List Nat}, (∀ p ∈ l, p.1 ∈ K → ν p.1 = some p.2) → muPut ν (dropB K l) = muPut ν l
  | [], _, _, _ => rfl
  | p :: l, ν, K, h => by
    unfold dropB
    split
    · rename_i hk
      have hk : p.1 ∈ K := by simpa using hk
      rw [muPut_drop l fun p' hp' => h p' (List.mem_cons_of_mem _ hp')]
      show muPut ν l = muPut (fun i => if i = p.1 then some p.2 else ν i) l
      have : (fun i => if i = p.1 then some p.2 else ν i) = ν := by
        funext i
        by_cases he : i = p.1
        · rw [if_pos he, he, h p (by simp) hk]
        · rw [if_neg he]
      rw [this]
    · rename_i hk
      have hk : p.1 ∉ K := by simpa using hk
      show muPut (fun i => if i = p.1 then some p.2 else ν i) (dropB K l) = muPut (fun i => if i = p.1 then some p.2 else ν i) l
      refine muPut_drop l fun p' hp' hk' => ?_
      have : p'.1 ≠ p.1 := fun e => hk (e ▸ hk')
      rw [if_neg this]
      exact h p' (List.mem_cons_of_mem _ hp') hk'
theorem backs_mem : ∀ (ps : List Part) (n : Nat), ∀ p ∈ (backs n ps).2.1, n ≤ p.1 ∧ p.1 < (backs n ps).2.2
  | [], n, p, hp => by simp [backs] at hp
  | (none, x) :: ps, n, p, hp => backs_mem ps n p hp
  | (some e, ⟨.slice t, xs⟩) :: ps, n, p, hp => by
    simp only [backs, List.mem_cons] at hp
    rcases hp with rfl | hp
    · exact ⟨Nat.le_refl _, Nat.lt_of_lt_of_le (Nat.lt_succ_self n) (backs_le ps (n + 1))⟩
    · have := backs_mem ps (n + 1) p hp
      exact ⟨by omega, this.2⟩
  | (some _, ⟨.int _, _⟩) :: ps, n, p, hp => backs_mem ps n p hp
  | (some _, ⟨.bool, _⟩) :: ps, n, p, hp => backs_mem ps n p hp
  | (some _, ⟨.str, _⟩) :: ps, n, p, hp => backs_mem ps n p hp
  | (some _, ⟨.pair _ _, _⟩) :: ps, n, p, hp => backs_mem ps n p hp
  | (some _, ⟨.unit, _⟩) :: ps, n, p, hp => backs_mem ps n p hp
theorem backBoxes_mem : ∀ {ids : List Nat} {ls : List (List Part)} {n : Nat} {q : Mem × Nat}, backBoxes n ids ls = some q → ∀ p ∈ q.1, (n ≤ p.1 ∧ p.1 < q.2) ∨ ∃ (j : Nat) (l : List Part) (n' : Nat), ids[j]? = some p.1 ∧ ls[j]? = some l ∧ p.2 = .box (backs n' l).1
  | [], [], n, q, h => by simp only [backBoxes, Option.some.injEq] at h; subst h; intro p hp; simp at hp
  | [], _ :: _, n, q, h => by simp [backBoxes] at h
  | _ :: _, [], n, q, h => by simp [backBoxes] at h
  | id :: ids, l :: ls, n, q, h => by
    simp only [backBoxes, Option.map_eq_some_iff] at h
    obtain ⟨q', h1, rfl⟩ := h
    have h2 := backBoxes_mem h1
    have h3 := (backBoxes_keys h1).2
    intro p hp
    simp only [List.mem_append, List.mem_cons] at hp
    rcases hp with hp | rfl | hp
    · have := backs_mem l n p hp
      exact .inl ⟨this.1, by show p.1 < q'.2; omega⟩
    · exact .inr ⟨0, l, n, rfl, rfl, rfl⟩
    · rcases h2 p hp with ⟨a, b⟩ | ⟨j, l', n', a, b, c⟩
      · exact .inl ⟨Nat.le_trans (backs_le l n) a, b⟩
      · exact .inr ⟨j + 1, l', n', by simpa using a, by simpa using b, c⟩
theorem keptB_mem : ∀ {ids : List Nat} {bs : List (List Part)} {id : Nat}, id ∈ keptB μ ids bs → ∃ j : Nat, ids[j]? = some id ∧ bs[j]? = some [] ∧ datBox μ id = true
  | [], _, id, h => by simp [keptB] at h
  | _ :: _, [], id, h => by simp [keptB] at h
  | i :: ids, [] :: bs, id, h => by
    unfold keptB at h
    split at h
    · rcases List.mem_cons.1 h with rfl | h
      · exact ⟨0, rfl, rfl, by assumption⟩
      · obtain ⟨j, a, b, c⟩ := keptB_mem h
        exact ⟨j + 1, by simpa using a, by simpa using b, c⟩
    · obtain ⟨j, a, b, c⟩ := keptB_mem h
      exact ⟨j + 1, by simpa using a, by simpa using b, c⟩
  | i :: ids, (x :: l) :: bs, id, h => by
    unfold keptB at h
    obtain ⟨j, a, b, c⟩ := keptB_mem h
    exact ⟨j + 1, by simpa using a, by simpa using b, c⟩
theorem nodup_get {l : List Nat} (h : l.Nodup) {i j x : Nat} (h1 : l[i]? = some x) (h2 : l[j]? = some x) : i = j := by
  exact (List.getElem?_inj (List.getElem?_eq_some_iff.1 h1).1 h).1 (h1.trans h2.symm)
theorem dats_back : ∀ {ls : List Leaf} {ds : List D} {fz : Mem}, leafDs Δ μ ls = some (ds, fz) → ls.all isDat = true → ∀ n, (backs n (ds.map fun x => ((none, x) : Part))).1 = ls
  | [], ds, fz, h, _, n => by
    simp only [leafDs, Option.some.injEq, Prod.mk.injEq] at h
    obtain ⟨rfl, rfl⟩ := h
    rfl
  | l :: ls, ds, fz, h, hd, n => by
    simp only [leafDs, Option.bind_eq_some_iff, Option.some.injEq, Prod.mk.injEq] at h
    obtain ⟨p, h1, q, h2, rfl, rfl⟩ := h
    simp only [List.all_cons, Bool.and_eq_true] at hd
    have ih := dats_back (show leafDs Δ μ ls = some (q.1, q.2) from h2) hd.2 n
    obtain ⟨x, rfl⟩ : ∃ x, l = .dat x := by
      have := hd.1
      unfold isDat at this
      split at this
      · exact ⟨_, rfl⟩
      · cases this
    simp only [leafD, Option.some.injEq] at h1
    subst h1
    simp only [List.map_cons, backs, ih]
/-- A variable's content as it is told. -/
def BoxK (μ : Mu) (id : Nat) (l : List Part) : Prop := ∃ ls, μ id = some (.box ls) ∧ (ls.all isDat = true → ∀ n, (backs n l).1 = ls)
theorem hands_back : ∀ {ls : List Leaf} {ps : List Part} {ids : List Nat}, handsOf Δ μ ls = some (ps, ids) → ls.all isDat = true → ∀ n, (backs n ps).1 = ls
  | [], ps, ids, h, _, n => by
    simp only [handsOf, Option.some.injEq, Prod.mk.injEq] at h
    obtain ⟨rfl, rfl⟩ := h
    rfl
  | l :: ls, ps, ids, h, hd, n => by
    simp only [handsOf, Option.bind_eq_some_iff, Option.some.injEq, Prod.mk.injEq] at h
    obtain ⟨p, h1, q, h2, rfl, rfl⟩ := h
    simp only [List.all_cons, Bool.and_eq_true] at hd
    have ih := hands_back (show handsOf Δ μ ls = some (q.1, q.2) from h2) hd.2 n
    obtain ⟨x, rfl⟩ : ∃ x, l = .dat x := by
      have := hd.1
      unfold isDat at this
      split at this
      · exact ⟨_, rfl⟩
      · cases this
    simp only [handOf, leafD, Option.some.injEq] at h1
    subst h1
    simp only [backs, ih]
theorem boxesD_kept : ∀ {caps : List Nat} {ls : List (List Part)} {fz : Mem}, boxesD Δ μ caps = some (ls, fz) → F2 (BoxK μ) caps ls
  | [], ls, fz, h => by
    simp only [boxesD, Option.some.injEq, Prod.mk.injEq] at h
    obtain ⟨rfl, rfl⟩ := h
    exact .nil
  | id :: caps, ls, fz, h => by
    unfold boxesD at h
    split at h
    · rename_i l hid
      simp only [Option.bind_eq_some_iff, Option.map_eq_some_iff, Prod.mk.injEq] at h
      obtain ⟨p, hp, q, hq, rfl, rfl⟩ := h
      exact .cons ⟨l, hid, fun hd n => dats_back (show leafDs Δ μ l = some (p.1, p.2) from hp) hd n⟩ (boxesD_kept (show boxesD Δ μ caps = some (q.1, q.2) from hq))
    · cases h
theorem boxesO_kept : ∀ {caps : List Nat} {ls : List (List Part)} {rids : List Nat}, boxesO Δ μ caps = some (ls, rids) → F2 (BoxK μ) caps ls
  | [], ls, rids, h => by
    simp only [boxesO, Option.some.injEq, Prod.mk.injEq] at h
    obtain ⟨rfl, rfl⟩ := h
    exact .nil
  | id :: caps, ls, rids, h => by
    unfold boxesO at h
    split at h
    · rename_i l hid
      simp only [Option.bind_eq_some_iff, Option.map_eq_some_iff, Prod.mk.injEq] at h
      obtain ⟨p, hp, q, hq, rfl, rfl⟩ := h
      exact .cons ⟨l, hid, fun hd n => hands_back (show handsOf Δ μ l = some (p.1, p.2) from hp) hd n⟩ (boxesO_kept (show boxesO Δ μ caps = some (q.1, q.2) from hq))
    · cases h
theorem toArgs_kept : ∀ {L : List (AV × TypeId)} {as : List Arg} {fz : Mem} {ids : List Nat}, toArgs Δ μ L = some (as, fz, ids) → F2 (BoxK μ) ids (boxesIn as)
  | [], as, fz, ids, h => by
    simp only [toArgs, Option.some.injEq, Prod.mk.injEq] at h
    obtain ⟨rfl, rfl, rfl⟩ := h
    exact .nil
  | x :: L, as, fz, ids, h => by
    simp only [toArgs, Option.bind_eq_some_iff, Option.some.injEq, Prod.mk.injEq] at h
    obtain ⟨p, hp, q, hq, rfl, rfl, rfl⟩ := h
    have ih := toArgs_kept (show toArgs Δ μ L = some (q.1, q.2.1, q.2.2) from hq)
    unfold toArg at hp
    split at hp
    · split at hp
      · rename_i ls hid
        simp only [Option.map_eq_some_iff] at hp
        obtain ⟨d, hd, rfl⟩ := hp
        exact .cons ⟨ls, hid, fun h n => dats_back (show leafDs Δ μ ls = some (d.1, d.2) from hd) h n⟩ ih
      · cases hp
    · simp only [Option.map_eq_some_iff] at hp
      obtain ⟨d, hd, rfl⟩ := hp
      exact (boxesD_kept (show boxesD Δ μ _ = some (d.1, d.2) from hd)).append ih
    · simp only [Option.map_eq_some_iff] at hp
      obtain ⟨d, hd, rfl⟩ := hp
      exact ih
    · cases hp
theorem toArgsO_kept : ∀ {L : List (AV × TypeId)} {as : List Arg} {ids rids : List Nat}, toArgsO Δ μ L = some (as, ids, rids) → F2 (BoxK μ) ids (boxesIn as)
  | [], as, ids, rids, h => by
    simp only [toArgsO, Option.some.injEq, Prod.mk.injEq] at h
    obtain ⟨rfl, rfl, rfl⟩ := h
    exact .nil
  | x :: L, as, ids, rids, h => by
    simp only [toArgsO, Option.bind_eq_some_iff, Option.some.injEq, Prod.mk.injEq] at h
    obtain ⟨p, hp, q, hq, rfl, rfl, rfl⟩ := h
    have ih := toArgsO_kept (show toArgsO Δ μ L = some (q.1, q.2.1, q.2.2) from hq)
    unfold toArgO at hp
    split at hp
    · split at hp
      · rename_i ls hid
        simp only [Option.map_eq_some_iff] at hp
        obtain ⟨d, hd, rfl⟩ := hp
        exact .cons ⟨ls, hid, fun h n => hands_back (show handsOf Δ μ ls = some (d.1, d.2) from hd) h n⟩ ih
      · cases hp
    · simp only [Option.map_eq_some_iff] at hp
      obtain ⟨d, hd, rfl⟩ := hp
      exact (boxesO_kept (show boxesO Δ μ _ = some (d.1, d.2) from hd)).append ih
    · simp only [Option.map_eq_some_iff] at hp
      obtain ⟨d, hd, rfl⟩ := hp
      exact ih
    · simp only [Option.map_eq_some_iff] at hp
      obtain ⟨d, hd, rfl⟩ := hp
      exact ih
    · cases hp
theorem zipFull_get : ∀ {xs bs : List (List Part)} {j : Nat} {l : List Part}, xs[j]? = some l → bs[j]? = some [] → (zipFull xs bs)[j]? = some l
  | [], _, _, _, h, _ => by simp at h
  | _ :: _, [], _, _, _, h => by simp at h
  | x :: xs, [] :: bs, 0, l, h, _ => by simpa [zipFull] using h
  | x :: xs, (p :: b) :: bs, 0, l, _, h => by simp at h
  | x :: xs, [] :: bs, j + 1, l, h, h' => by
    simp only [zipFull, List.getElem?_cons_succ] at h h' ⊢
    exact zipFull_get h h'
  | x :: xs, (p :: b) :: bs, j + 1, l, h, h' => by
    simp only [zipFull, List.getElem?_cons_succ] at h h' ⊢
    exact zipFull_get h h'
theorem datBox_fz (h : Fz μ μ') (id : Nat) : datBox μ' id = datBox μ id := by
  unfold datBox
  rcases h id with h1 | ⟨e, t, xs, h1, h2⟩
  · rw [h1]
  · rw [h1, h2]
theorem keptB_fz (h : Fz μ μ') : ∀ (ids : List Nat) (bs : List (List Part)), keptB μ' ids bs = keptB μ ids bs
  | [], _ => rfl
  | _ :: _, [] => rfl
  | id :: ids, [] :: bs => by simp only [keptB, datBox_fz h, keptB_fz h ids bs]
  | id :: ids, (x :: l) :: bs => by simp only [keptB, keptB_fz h ids bs]
theorem boxK_fz (h : Fz μ μ') {id : Nat} {l : List Part} (hk : BoxK μ id l) : BoxK μ' id l := by
  obtain ⟨ls, h1, h2⟩ := hk
  exact ⟨ls, h.box h1, h2⟩
theorem boxIs_fz (h : Fz μ μ') {id b : Nat} (hk : boxIs μ η id b) : boxIs μ' η id b := by
  obtain ⟨⟨ls, h1⟩, h2⟩ := hk
  exact ⟨⟨ls, h.box h1⟩, h2⟩
/-! #### what has no memory -/
theorem CR_scal {S' : Nat → Prop} : ∀ {t : Ty} {cs : List Value} {d : t.den}, scalT t = true → CR w S t cs d → CR w S' t cs d
  | .int _, _, _, _, h => h
  | .bool, _, _, _, h => h
  | .str, _, _, _, h => h
  | .slice _, _, _, hs, _ => by simp [scalT] at hs
  | .pair a b, _, _, hs, h => by
    simp only [scalT, Bool.and_eq_true] at hs
    obtain ⟨c1, c2, rfl, h1, h2⟩ := h
    exact ⟨c1, c2, rfl, CR_scal hs.1 h1, CR_scal hs.2 h2⟩
  | .unit, _, _, _, h => h
theorem PartR_scal {S' ok ok' : Nat → Prop} {p : Part} {v : Value} (hs : scalP p = true) (h : PartR w S ok p v) : PartR w S' ok' p v := by
  obtain ⟨f, x⟩ := p
  cases f with
  | none => exact CR_scal hs h
  | some e => simp [scalP] at hs
theorem Parts_scal {S' ok ok' : Nat → Prop} {l : List Part} {vs : List Value} (hs : l.all scalP = true) (h : F2 (PartR w S ok) l vs) : F2 (PartR w S' ok') l vs := by
  induction h with
  | nil => exact .nil
  | cons h1 _ ih =>
    simp only [List.all_cons, Bool.and_eq_true] at hs
    exact .cons (PartR_scal hs.1 h1) (ih hs.2)
theorem back_borrow {S1 : Nat → Prop} {bs hs : List Nat} {r : Res} {v : Value} (hsc : scalRes r = true) (hlt : ∀ b, S b → b < w.heap.size) (h : Back w S1 bs hs r v w') : Back w S bs hs r v w' := by
  obtain ⟨S2, h⟩ := h
  unfold scalRes at hsc
  simp only [Bool.and_eq_true] at hsc
  refine ⟨S, h.frame, fun _ h => h, fun b hb => Nat.lt_of_lt_of_le (hlt b hb) h.frame.size, fun b hb => .inl hb, ?_, ?_, h.apart⟩
  · have ho := h.out
    have hs1 := hsc.1
    cases hr : r.out with
    | val x =>
      rw [hr] at ho hs1
      exact ⟨ho.1, Parts_scal hs1 ho.2⟩
    | tup l =>
      rw [hr] at ho hs1
      obtain ⟨vs, e, hf⟩ := ho
      refine ⟨vs, e, ?_⟩
      replace hs1 : (l.all fun r => r.2.all scalP) = true := hs1
      generalize vs.toList = ys at hf
      clear e hr hsc
      induction hf with
      | nil => exact .nil
      | cons h1 _ ih =>
        simp only [List.all_cons, Bool.and_eq_true] at hs1
        exact .cons ⟨h1.1, Parts_scal hs1.1 h1.2⟩ (ih hs1.2)
    | ptr l => rw [hr] at hs1; simp [scalOut] at hs1
  · have hb := h.boxes
    have hs2 := hsc.2
    generalize r.boxes = ls at hb hs2
    clear h hsc
    induction hb with
    | nil => exact .nil
    | cons h1 _ ih =>
      simp only [List.all_cons, Bool.and_eq_true] at hs2
      obtain ⟨T, cs, g1, g2⟩ := h1
      exact .cons ⟨T, cs, g1, Parts_scal hs2.1 g2⟩ (ih hs2.2)
/-! #### behind a call -/
theorem box_of (hb : F2 (boxIs μ η) ids bs) : ∀ b ∈ bs, ∃ id ∈ ids, ∃ ls, μ id = some (.box ls) ∧ η id = .pointer (some ⟨b, 0, none⟩) := by
  intro b hin
  obtain ⟨i, hi⟩ := List.getElem?_of_mem hin
  obtain ⟨id, h1, ⟨ls, h3⟩, h4⟩ := hb.get' i b hi
  exact ⟨id, List.mem_of_getElem? h1, ls, h3, h4⟩
theorem bs_nodup (hM : InvM w0 M S0 μ η S w) : ∀ {ids bs : List Nat}, ids.Nodup → F2 (boxIs μ η) ids bs → bs.Nodup := by
  intro ids bs hn hf2
  induction hf2 with
  | nil => exact .nil
  | cons h1 h2 ih =>
    rename_i x y xs ys
    rw [List.nodup_cons] at hn ⊢
    refine ⟨fun hy => ?_, ih hn.2⟩
    obtain ⟨i, hi⟩ := List.getElem?_of_mem hy
    obtain ⟨x', g1, g2⟩ := h2.get' i y hi
    have hne : x ≠ x' := fun e => hn.1 (e ▸ List.mem_of_getElem? g1)
    obtain ⟨⟨l1, a1⟩, a2⟩ := h1
    obtain ⟨⟨l2, a3⟩, a4⟩ := g2
    exact hM.apart x x' _ _ y a1 a3 rfl rfl hne (by simp [a2, blk]) (by simp [a4, blk])
theorem row_of {rids : List Nat} {k : Nat} (hl : liveIds μ rids) (hk : k ∈ idBlks η rids) : ∃ id ∈ rids, ∃ c, μ id = some c ∧ c.live = true ∧ (∀ ls, c ≠ .box ls) ∧ blk (η id) = some k := by
  obtain ⟨id, h1, h2⟩ := List.mem_flatMap.1 hk
  simp only [Option.mem_toList, Option.mem_def] at h2
  obtain ⟨c, g1, g2, g3⟩ := hl id h1
  exact ⟨id, h1, c, g1, g2, g3, h2⟩
theorem rows_boxes (hM : InvM w0 M S0 μ η S w) {ids bs rids : List Nat} (hb : F2 (boxIs μ η) ids bs) (hl : liveIds μ rids) : ∀ k ∈ idBlks η rids, k ∉ bs := by
  intro k hk hin
  obtain ⟨i, _, ls, g1, g2⟩ := box_of hb k hin
  obtain ⟨j, _, c, g3, g4, g5, g6⟩ := row_of hl hk
  have hne : j ≠ i := fun e => by subst e; rw [g1] at g3; cases g3; exact g5 ls rfl
  exact hM.apart j i c _ k g3 g1 g4 rfl hne g6 (by simp [g2, blk])
theorem told_after (hM : InvM w0 M S0 μ η S w) {new : Nat} (hfree : ∀ i, new ≤ i → i < new + 16 → μ i = none) {as : List Arg} {r : Res} {ids bs rids : List Nat} {v : Value} (hids : ids.Nodup) (b1 : F2 (boxIs μ η) ids bs)
    (hlive : liveIds μ rids) (hkept : F2 (BoxK μ) ids (boxesIn as)) {q : Mem × Nat} (hq : backBoxes (backOut new r.out).2.2 ids (fullB as r.boxes) = some q) (hqle : q.2 ≤ new + 16)
    (hback : Back w S bs (idBlks η rids) (r.full as) v w') :
    After w0 M S0 μ η S w ⟨(backOut new r.out).1, (rids.map fun id => (id, .gone)) ++ ((backOut new r.out).2.1 ++ dropB (keptB μ ids r.boxes) q.1)⟩ v w' := by
  have hbs1 := box_of b1
  have hbsnd := bs_nodup hM hids b1
  have hrb := rows_boxes hM b1 hlive
  have hbsS : ∀ b ∈ bs, ¬ S b ∧ (w0.heap.size ≤ b ∨ M b) := by
    intro b hb
    obtain ⟨id, _, ls, h1, h2⟩ := hbs1 b hb
    exact (live_blk hM h1 rfl (by simp [h2, blk])).2
  have hhs : ∀ k ∈ idBlks η rids, k < w.heap.size ∧ ¬ S k ∧ (w0.heap.size ≤ k ∨ M k) := by
    intro k hk
    obtain ⟨j, _, c, g3, g4, g5, g6⟩ := row_of hlive hk
    exact live_blk hM g3 g4 g6
  generalize hhe : idBlks η rids = hs at hback hrb hhs
  obtain ⟨S2, hb⟩ := hback
  -- memory without what was handed in
  let μ2 : Mu := fun i => if i ∈ ids ++ rids then some .gone else μ i
  have hμ2 : ∀ i, μ2 i = if i ∈ ids ++ rids then some .gone else μ i := fun _ => rfl
  have hidsome : ∀ id ∈ ids ++ rids, (μ id).isSome = true := by
    intro id hid
    rcases List.mem_append.1 hid with hid | hid
    · obtain ⟨i, hi⟩ := List.getElem?_of_mem hid
      obtain ⟨b, h1, ⟨ls, h3⟩, _⟩ := b1.get i id hi
      rw [h3]; rfl
    · obtain ⟨c, h1, _⟩ := hlive id hid
      rw [h1]; rfl
  have hdom2 : ∀ i, dom μ i → dom μ2 i := by
    intro i hi
    unfold dom at *
    rw [hμ2]
    split
    · rfl
    · exact hi
  have hst2 : Stay w w' S S2 (dom μ) (dom μ2) η η :=
    ⟨hb.s, fun k hk => hb.frame.block k (hM.lt k hk) (fun hin => hin.elim (fun h => (hbsS k h).1 hk) (fun h => (hhs k h).2.1 hk)), hdom2, fun _ _ => rfl⟩
  have hlive2 : ∀ i ci, μ2 i = some ci → ci.live = true → i ∉ ids ++ rids ∧ μ i = some ci := by
    intro i ci hi hl
    rw [hμ2] at hi
    split at hi
    · simp only [Option.some.injEq] at hi; subst hi; simp [Chunk.live] at hl
    · exact ⟨by assumption, hi⟩
  have hnotbs : ∀ i ci, μ2 i = some ci → ci.live = true → ∀ k, blk (η i) = some k → k ∉ bs ∧ k ∉ hs := by
    intro i ci hi hl k hk
    obtain ⟨h1, h2⟩ := hlive2 i ci hi hl
    refine ⟨fun hkb => ?_, fun hkh => ?_⟩
    · obtain ⟨id, h3, ls, h4, h5⟩ := hbs1 k hkb
      exact hM.apart i id ci _ k h2 h4 hl rfl (fun e => h1 (e ▸ List.mem_append_left _ h3)) hk (by simp [h5, blk])
    · rw [← hhe] at hkh
      obtain ⟨j, h3, c, g3, g4, g5, g6⟩ := row_of hlive hkh
      exact hM.apart i j ci _ k h2 g3 hl g4 (fun e => h1 (e ▸ List.mem_append_right _ h3)) hk g6
  have hfrom2 : ∀ b, S2 b → S b ∨ w.heap.size ≤ b ∨ b ∈ hs := hb.from_
  have i2 : InvM w0 M S0 μ2 η S2 w' := by
    refine ⟨⟨hb.frame.os.trans hM.frame.os, hb.frame.tape.trans hM.frame.tape, hb.frame.output.trans hM.frame.output, Nat.le_trans hM.frame.size hb.frame.size, fun k hk hm => ?_⟩, fun b h => hb.s b (hM.sub b h), hb.lt, fun b h => ?_, fun i ci hi => ?_, fun i j ci cj k hi hj hli hlj hij => ?_⟩
    · rw [hb.frame.block k (Nat.lt_of_lt_of_le hk hM.frame.size) (fun hin => ?_)]
      · exact hM.frame.block k hk hm
      · have h3 : w0.heap.size ≤ k ∨ M k := hin.elim (fun h => (hbsS k h).2) (fun h => (hhs k h).2.2)
        rcases h3 with h | h
        · omega
        · exact hm h
    · rcases hfrom2 b h with h | h | h
      · exact hM.from_ b h
      · exact .inr (.inl (Nat.le_trans hM.frame.size h))
      · exact .inr (hhs b h).2.2
    · by_cases hin : i ∈ ids ++ rids
      · rw [hμ2, if_pos hin] at hi
        simp only [Option.some.injEq] at hi
        subst hi
        trivial
      · have hi' := hi
        rw [hμ2, if_neg hin] at hi'
        refine ChunkR_stay hst2 (show dom μ i by simp [dom, hi']) (fun hl k hk => hb.frame.block k (live_blk hM hi' hl hk).1 (fun hin => hin.elim (hnotbs i ci hi hl k hk).1 (hnotbs i ci hi hl k hk).2)) (fun hl k hk hs => ?_) (hM.chunk i ci hi')
        have h3 := live_blk hM hi' hl hk
        rcases hfrom2 k hs with h | h | h
        · exact h3.2.1 h
        · omega
        · exact (hnotbs i ci hi hl k hk).2 h
    · exact hM.apart i j ci cj k (hlive2 i ci hi hli).2 (hlive2 j cj hj hlj).2 hli hlj hij
  have hfree2 : ∀ i, new ≤ i → i < new + 16 → μ2 i = none := by
    intro i h1 h2
    have h3 := hfree i h1 h2
    rw [hμ2, if_neg (fun hin => by have := hidsome i hin; rw [h3] at this; cases this)]
    exact h3
  have hlivelt : ∀ k, LiveIn μ2 η k → k < w.heap.size ∧ k ∉ bs ∧ k ∉ hs := by
    rintro k ⟨j, cj, hj, hl, hk⟩
    exact ⟨(live_blk hM (hlive2 j cj hj hl).2 hl hk).1, hnotbs j cj hj hl k hk⟩
  have hok : ∀ k, (w.heap.size ≤ k ∨ k ∈ hs) → w0.heap.size ≤ k ∨ M k := fun k hk => hk.elim (fun h => .inl (Nat.le_trans hM.frame.size h)) (fun h => (hhs k h).2.2)
  have hout : OutR w' S2 (fun k => w0.heap.size ≤ k ∨ M k) r.out v := by
    have h : OutR w' S2 (fun k => w.heap.size ≤ k ∨ k ∈ hs) r.out v := hb.out
    cases hro : r.out with
    | val x => rw [hro] at h; exact RVR_mono hok h
    | tup l =>
      rw [hro] at h
      obtain ⟨vs, h1, h2⟩ := h
      exact ⟨vs, h1, h2.imp fun _ _ => RVR_mono hok⟩
    | ptr l =>
      rw [hro] at h
      obtain ⟨b, T, cs, h1, h2, h3, h4, h5⟩ := h
      exact ⟨b, T, cs, h1, h2, h3, h4, hok b h5⟩
  have hbslt : ∀ b ∈ bs, b < w.heap.size := by
    intro b hin
    obtain ⟨id, _, ls, h1, h2⟩ := hbs1 b hin
    exact (live_blk hM h1 rfl (k := b) (by simp [h2, blk])).1
  have hownB : ∀ k ∈ ownB w' (fullB as r.boxes) bs, w.heap.size ≤ k ∨ k ∈ hs := ownB_ok hb.boxes
  have hownO : ∀ k ∈ ownOut r.out v, w.heap.size ≤ k ∨ k ∈ hs := ownOut_ok hb.out
  have hapart : (ownOut r.out v ++ (ownB w' (fullB as r.boxes) bs ++ bs)).Nodup := by
    rw [← List.append_assoc, List.nodup_append]
    refine ⟨hb.apart, hbsnd, fun x hx y hy e => ?_⟩
    subst e
    have h1 := hbslt x hy
    have h2 : w.heap.size ≤ x ∨ x ∈ hs := by
      rcases List.mem_append.1 hx with h | h
      · exact hownO x h
      · exact hownB x h
    rcases h2 with h2 | h2
    · omega
    · exact hrb x h2 hy
  have hapart1 := List.nodup_append.1 hapart
  obtain ⟨hkeys, hqle1⟩ := backBoxes_keys hq
  obtain ⟨η1, a1, r1⟩ := add_out (N := new + 16) (n := new) i2 hfree2 (Nat.le_trans hqle1 hqle) hout hapart1.1 (fun k hk hl => by
    have h2 := hlivelt k hl
    rcases hownO k hk with h1 | h1
    · omega
    · exact h2.2.2 h1)
  have hidsR : F2 (idsR w0 M S2 (muPut μ2 (backOut new r.out).2.1) η1) ids bs := by
    have : ∀ {xs ys : List Nat}, (∀ x ∈ xs, x ∈ ids) → (∀ y ∈ ys, y ∈ bs) → F2 (boxIs μ η) xs ys → F2 (idsR w0 M S2 (muPut μ2 (backOut new r.out).2.1) η1) xs ys := by
      intro xs ys hx hy hf2
      induction hf2 with
      | nil => exact .nil
      | cons h1 h2 ih =>
        rename_i x y xs ys
        refine .cons ?_ (ih (fun z hz => hx z (List.mem_cons_of_mem _ hz)) fun z hz => hy z (List.mem_cons_of_mem _ hz))
        have hxin : x ∈ ids := hx x (by simp)
        have hyin : y ∈ bs := hy y (by simp)
        have hgone : μ2 x = some .gone := by rw [hμ2, if_pos (List.mem_append_left _ hxin)]
        have hxout : x < new ∨ (backOut new r.out).2.2 ≤ x := by
          rcases Nat.lt_or_ge x new with h | h
          · exact .inl h
          · rcases Nat.lt_or_ge x (backOut new r.out).2.2 with h' | h'
            · have := hfree2 x h (by omega)
              rw [hgone] at this; cases this
            · exact .inr h'
        obtain ⟨_, h4⟩ := h1
        refine ⟨by rw [backOut_other r.out new μ2 x hxout]; exact hgone, by rw [a1.stay.η x (by simp [dom, hgone])]; exact h4, fun hs => ?_, (hbsS y hyin).2⟩
        rcases hfrom2 y hs with h | h | h
        · exact (hbsS y hyin).1 h
        · have := hbslt y hyin
          omega
        · exact hrb y h hyin
    exact this (fun _ h => h) (fun _ h => h) b1
  have hboxes : F2 (BoxR w' S2 (fun k => w0.heap.size ≤ k ∨ M k)) (fullB as r.boxes) bs :=
    hb.boxes.imp fun l b ⟨T, cs, h1, h2⟩ => ⟨T, cs, h1, h2.imp fun _ _ => PartR_mono hok⟩
  obtain ⟨η2, a2, _⟩ := add_boxes (N := new + 16) a1.inv a1.free hq hqle hboxes hidsR hids hapart1.2.1 (fun k hk hl => by
    rcases a1.live k hl with h | h
    · have h2 := hlivelt k h
      rcases List.mem_append.1 hk with hk | hk
      · rcases hownB k hk with h3 | h3
        · omega
        · exact h2.2.2 h3
      · exact h2.2.1 hk
    · exact hapart1.2.2 k h k hk rfl)
  have hall := a1.then a2
  have edrop : muPut μ ((rids.map fun id => (id, .gone)) ++ ((backOut new r.out).2.1 ++ dropB (keptB μ ids r.boxes) q.1)) = muPut μ ((rids.map fun id => (id, .gone)) ++ ((backOut new r.out).2.1 ++ q.1)) := by
    rw [muPut_append, muPut_append, muPut_append, muPut_append]
    refine muPut_drop q.1 fun p hp hk => ?_
    obtain ⟨j, g1, g2, g3⟩ := keptB_mem hk
    obtain ⟨l, g5, ls, g4, g6⟩ := hkept.get j p.1 g1
    have g5 : (fullB as r.boxes)[j]? = some l := zipFull_get g5 g2
    have g6 : ∀ n, (backs n l).1 = ls := g6 (by unfold datBox at g3; rw [g4] at g3; exact g3)
    have hgone : muPut μ (rids.map fun id => (id, .gone)) p.1 = μ p.1 := by
      have : ∀ (l : List Nat) (ν : Mu), p.1 ∉ l → muPut ν (l.map fun id => (id, .gone)) p.1 = ν p.1 := by
        intro l
        induction l with
        | nil => intro ν _; rfl
        | cons a l ih =>
          intro ν hn
          simp only [List.mem_cons, not_or] at hn
          show muPut (fun i => if i = a then some .gone else ν i) (l.map fun id => (id, .gone)) p.1 = ν p.1
          rw [ih _ hn.2, if_neg hn.1]
      refine this rids μ fun hin => ?_
      obtain ⟨c, h1, _, h3⟩ := hlive p.1 hin
      rw [g4] at h1
      cases h1
      exact h3 ls rfl
    have g8 : p.1 < new ∨ new + 16 ≤ p.1 := by
      rcases Nat.lt_or_ge p.1 new with h | h
      · exact .inl h
      · rcases Nat.lt_or_ge p.1 (new + 16) with h' | h'
        · have := hfree p.1 h h'
          rw [g4] at this; cases this
        · exact .inr h'
    have hq1 := (backBoxes_keys hq).2
    have hq0 := backOut_le r.out new
    rw [backOut_other r.out new _ p.1 (by omega), hgone, g4]
    rcases backBoxes_mem hq p hp with ⟨h1, h2⟩ | ⟨j', l', n', h1, h2, h3⟩
    · omega
    · have : j = j' := nodup_get hids g1 h1
      subst this
      rw [g5] at h2
      simp only [Option.some.injEq] at h2
      subst h2
      rw [h3, g6]
  have efin : muPut μ ((rids.map fun id => (id, .gone)) ++ ((backOut new r.out).2.1 ++ dropB (keptB μ ids r.boxes) q.1)) = muPut μ2 ((backOut new r.out).2.1 ++ q.1) := by
    rw [edrop, muPut_append]
    refine muPut_over _ fun i hi => ?_
    have hput : ∀ (l : List Nat) (ν : Mu) (i : Nat), muPut ν (l.map fun id => (id, .gone)) i = if i ∈ l then some .gone else ν i := by
      intro l
      induction l with
      | nil => intro ν i; simp [muPut]
      | cons a l ih =>
        intro ν i
        show muPut (fun i => if i = a then some .gone else ν i) (l.map fun id => (id, .gone)) i = _
        rw [ih]
        by_cases h1 : i ∈ l
        · simp [h1]
        · by_cases h2 : i = a <;> simp [h1, h2]
    rw [hput, hμ2] at hi
    by_cases h1 : i ∈ rids
    · simp [h1] at hi
    · by_cases h2 : i ∈ ids
      · simp only [List.map_append, List.mem_append]
        exact .inr (hkeys i h2)
      · simp [h1, h2] at hi
  refine ⟨η2, S2, ?_, ?_, ?_⟩
  · show InvM w0 M S0 (muPut μ ((rids.map fun id => (id, .gone)) ++ ((backOut new r.out).2.1 ++ dropB (keptB μ ids r.boxes) q.1))) η2 S2 w'
    rw [efin]; exact hall.inv
  · show Stay w w' S S2 (dom μ) (dom (muPut μ ((rids.map fun id => (id, .gone)) ++ ((backOut new r.out).2.1 ++ dropB (keptB μ ids r.boxes) q.1)))) η η2
    rw [efin]
    exact hst2.trans hall.stay
  · show AVR w' S2 (dom (muPut μ ((rids.map fun id => (id, .gone)) ++ ((backOut new r.out).2.1 ++ dropB (keptB μ ids r.boxes) q.1)))) η2 (backOut new r.out).1 v
    rw [efin, muPut_append]
    exact AVR_stay a2.stay r1
theorem after_pre {S1 : Nat → Prop} {fz : Mem} {e : AV} {wr : Mem} {v : Value} (s1 : Stay w w S S1 (dom μ) (dom (muPut μ fz)) η η) (h : After w0 M S0 (muPut μ fz) η S1 w ⟨e, wr⟩ v w') : After w0 M S0 μ η S w ⟨e, fz ++ wr⟩ v w' := by
  obtain ⟨η', S', h1, h2, h3⟩ := h
  refine ⟨η', S', ?_, ?_, ?_⟩
  · show InvM w0 M S0 (muPut μ (fz ++ wr)) η' S' w'
    rw [muPut_append]; exact h1
  · show Stay w w' S S' (dom μ) (dom (muPut μ (fz ++ wr))) η η'
    rw [muPut_append]; exact s1.trans h2
  · show AVR w' S' (dom (muPut μ (fz ++ wr))) η' e v
    rw [muPut_append]; exact h3
/-- A call of a function, its arguments being known. -/
theorem told_callD (hM : InvM w0 M S0 μ η S w) {new : Nat} (hfree : ∀ i, new ≤ i → i < new + 16 → μ i = none) (f : FuncId) {G : Spec} (hG : CallOk P f G) {L : List (AV × TypeId)} {vs : Array Value}
    (hexec : (execOp a.eval o).run P w = (callFunc f vs).run P w) (hargs : F2 (fun (x : AV × TypeId) v => AVR w S (dom μ) η x.1 v) L vs.toList) : Told w0 M S0 μ η S P o a w (cCallD Δ G μ new L) := by
  unfold cCallD
  split
  · rename_i as fz ids htoArgs
    split
    · rename_i hnod
      split
      · rename_i c0 dc r hr
        unfold cBack
        split
        · rename_i q hq
          split
          · rename_i hqle
            have hqle : q.2 ≤ new + 16 := Nat.le_of_ble_eq_true hqle
            refine .ok fun hc0 => ?_
            obtain ⟨S1, i1, s1, f1, c1, b1⟩ := toArgs_is hM (Fz.refl μ) htoArgs hargs
            have hown := ArgsD.blks c1
            generalize hbs : boxBlks as vs.toList = bs at b1
            have hids : ids.Nodup := nodupB_is hnod
            have b1' : F2 (boxIs (muPut μ fz) η) ids bs := b1.imp fun _ _ => boxIs_fz f1
            have hbsnd := bs_nodup i1 hids b1'
            have hkept := toArgs_kept htoArgs
            have hfree1 : ∀ i, new ≤ i → i < new + 16 → muPut μ fz i = none := by
              intro i h1 h2
              rcases f1 i with h | ⟨_, _, _, h, _⟩
              · rw [h]; exact hfree i h1 h2
              · rw [hfree i h1 h2] at h; cases h
            have hgoes := hG as c0 dc r hr hc0 w S1 vs i1.lt (c1.imp fun _ _ => ArgD.arg) (by rw [hbs, hown]; exact hbsnd) (by
              rw [hbs]
              intro b hb
              obtain ⟨id, _, ls, h1, h2⟩ := box_of b1' b hb
              exact (live_blk i1 h1 rfl (by simp [h2, blk])).2.1)
            intro next Q hnext
            unfold Oper.wp
            rw [hexec]
            refine hgoes o a next Q fun v w' hback => hnext v w' ?_
            rw [hbs, hown] at hback
            by_cases hsc : scalRes (r.full as) = true
            · rw [if_pos hsc]
              exact told_after (rids := []) hM hfree hids b1 (fun id h => by simp at h) hkept hq hqle (back_borrow hsc hM.lt hback)
            · rw [if_neg hsc]
              refine after_pre s1 ?_
              have := told_after (rids := []) i1 hfree1 hids b1' (fun id h => by simp at h) (hkept.imp fun _ _ => boxK_fz f1) hq hqle hback
              rw [keptB_fz f1] at this
              exact this
          · exact .no
        · exact .no
      · exact .no
    · exact .no
  · exact .no
/-- .. that rows of one's own are handed over to. -/
theorem told_callO (hM : InvM w0 M S0 μ η S w) {new : Nat} (hfree : ∀ i, new ≤ i → i < new + 16 → μ i = none) (f : FuncId) {G : Spec} (hG : CallOk P f G) {L : List (AV × TypeId)} {vs : Array Value}
    (hexec : (execOp a.eval o).run P w = (callFunc f vs).run P w) (hargs : F2 (fun (x : AV × TypeId) v => AVR w S (dom μ) η x.1 v) L vs.toList) : Told w0 M S0 μ η S P o a w (cCallO Δ G μ new L) := by
  unfold cCallO
  split
  · rename_i as ids rids htoArgs
    split
    · rename_i hnod
      split
      · rename_i c0 dc r hr
        unfold cBack
        split
        · rename_i q hq
          split
          · rename_i hqle
            have hqle : q.2 ≤ new + 16 := Nat.le_of_ble_eq_true hqle
            refine .ok fun hc0 => ?_
            obtain ⟨c1, b1, hown, hlive⟩ := toArgsO_is hM htoArgs hargs
            generalize hbs : boxBlks as vs.toList = bs at b1
            have hids : ids.Nodup := nodupB_is hnod.1
            have hrids : rids.Nodup := nodupB_is hnod.2
            have hbsnd := bs_nodup hM hids b1
            have hgoes := hG as c0 dc r hr hc0 w S vs hM.lt c1 (by
              rw [hbs, hown, List.nodup_append]
              exact ⟨idBlks_nodup hM hrids hlive, hbsnd, fun x hx y hy e => rows_boxes hM b1 hlive x hx (e ▸ hy)⟩) (by
              rw [hbs]
              intro b hb
              obtain ⟨id, _, ls, h1, h2⟩ := box_of b1 b hb
              exact (live_blk hM h1 rfl (by simp [h2, blk])).2.1)
            intro next Q hnext
            unfold Oper.wp
            rw [hexec]
            refine hgoes o a next Q fun v w' hback => hnext v w' ?_
            rw [hbs, hown] at hback
            exact told_after hM hfree hids b1 hlive (toArgsO_kept htoArgs) hq hqle hback
          · exact .no
        · exact .no
      · exact .no
    · exact .no
  · exact .no
theorem told_callL (hM : InvM w0 M S0 μ η S w) {new : Nat} (hfree : ∀ i, new ≤ i → i < new + 16 → μ i = none) (f : FuncId) {G : Spec} (hG : CallOk P f G) {L : List (AV × TypeId)} {vs : Array Value}
    (hexec : (execOp a.eval o).run P w = (callFunc f vs).run P w) (hargs : F2 (fun (x : AV × TypeId) v => AVR w S (dom μ) η x.1 v) L vs.toList) : Told w0 M S0 μ η S P o a w (cCall Δ G μ new L) := by
  unfold cCall
  split
  · exact told_callO hM hfree f hG hexec hargs
  · exact told_callD hM hfree f hG hexec hargs
theorem args_zip {ρ : Operand → AV} (hρ : ∀ x, AVR w S (dom μ) η (ρ x) (a.eval x)) : ∀ {xs : List Operand} {ts : List TypeId}, xs.length = ts.length → F2 (fun (x : AV × TypeId) v => AVR w S (dom μ) η x.1 v) ((xs.map ρ).zip ts) (xs.map a.eval)
  | [], _, _ => .nil
  | x :: xs, [], h => by simp at h
  | x :: xs, t :: ts, h => .cons (hρ x) (args_zip hρ (by simpa using h))
theorem told_call (hM : InvM w0 M S0 μ η S w) {new : Nat} (hfree : ∀ i, new ≤ i → i < new + 16 → μ i = none) (c : Call) (ho : o.op = .call c) (f' : Operand) (hc : c.callee = .value f') (f : FuncId) (caps : List Nat) {G : Spec} (hG : CallOk P f G)
    {ρ : Operand → AV} (hρ : ∀ x, AVR w S (dom μ) η (ρ x) (a.eval x)) (hf : ρ f' = .val (false, [.fn f caps])) (hlen : c.args.toList.length = c.argTypes.toList.length) (hcaps : capsOk μ caps = true) :
    Told w0 M S0 μ η S P o a w (cCall Δ G μ new ((c.args.toList.map ρ).zip c.argTypes.toList ++ caps.map fun id => (lv (.ptr id 0), 0))) := by
  have hfv : (∀ id ∈ caps, dom μ id) ∧ a.eval f' = .func (.func f) #[] (caps.map η).toArray := by
    have h := hρ f'
    rw [hf] at h
    exact h
  have hexec : (execOp a.eval o).run P w = (callFunc f (c.args.map a.eval ++ (caps.map η).toArray)).run P w := by
    simp [execOp, ho, resolve, hc, hfv.2, Deferred.ofValue, invoke]
  refine told_callL (Δ := Δ) hM hfree f hG hexec ?_
  rw [Array.toList_append, Array.toList_map]
  refine (args_zip hρ hlen).append ?_
  have : ∀ l : List Nat, (∀ id ∈ l, id ∈ caps) → F2 (fun (x : AV × TypeId) v => AVR w S (dom μ) η x.1 v) (l.map fun id => (lv (.ptr id 0), 0)) (l.map η) := by
    intro l
    induction l with
    | nil => intro _; exact .nil
    | cons id l ih =>
      intro hl
      refine .cons ?_ (ih fun x hx => hl x (List.mem_cons_of_mem _ hx))
      have hid := List.all_eq_true.1 hcaps id (hl id (by simp))
      show LR w S (dom μ) η (.ptr id 0) (η id)
      cases hm : μ id with
      | none => rw [hm] at hid; cases hid
      | some ch =>
        rw [hm] at hid
        cases ch with
        | box ls =>
          obtain ⟨b, T, cs, h1, _⟩ := hM.chunk id _ hm
          exact ⟨by simp [dom, hm], b, h1, h1⟩
        | rows => cases hid
        | gone => cases hid
  exact this caps fun _ h => h
/-- A function is made: the addresses of the variables that it captures. -/
theorem told_makeFunc (hM : InvM w0 M S0 μ η S w) (f : FuncId) (cs : Array Operand) (ho : o.op = .makeFunc (.func f) #[] cs) {ρ : Operand → AV} (hρ : ∀ x, AVR w S (dom μ) η (ρ x) (a.eval x)) : Told w0 M S0 μ η S P o a w (cMakeFunc f (cs.toList.map ρ)) := by
  unfold cMakeFunc
  split
  · rename_i ids hids
    have key : ∀ (l : List Operand) (ids : List Nat), capIds (l.map ρ) = some ids → (∀ id ∈ ids, dom μ id) ∧ l.map a.eval = ids.map η := by
      intro l
      induction l with
      | nil => intro ids h; simp only [List.map_nil, capIds, Option.some.injEq] at h; subst h; exact ⟨fun id h => by simp at h, rfl⟩
      | cons x l ih =>
        intro ids h
        simp only [List.map_cons] at h
        unfold capIds at h
        split at h
        · rename_i e1; cases e1
        · rename_i id l' e1
          simp only [List.cons.injEq] at e1
          obtain ⟨e1, e2⟩ := e1
          subst e2
          simp only [Option.map_eq_some_iff] at h
          obtain ⟨ids', h1, rfl⟩ := h
          obtain ⟨h2, h3⟩ := ih ids' h1
          have hx := hρ x
          rw [e1] at hx
          obtain ⟨g1, b, g2, g3⟩ : dom μ id ∧ ∃ b, η id = .pointer (some ⟨b, 0, none⟩) ∧ a.eval x = .pointer (some ⟨b, 0, none⟩) := hx
          refine ⟨fun i hi => ?_, ?_⟩
          · rcases List.mem_cons.1 hi with rfl | hi
            · exact g1
            · exact h2 i hi
          · rw [List.map_cons, List.map_cons, h3, g2, g3]
        · cases h
    obtain ⟨h1, h2⟩ := key cs.toList ids hids
    refine told_pure (goes_pure hM (v := .func (.func f) #[] (ids.map η).toArray) ?_ ?_)
    · have e : cs.map a.eval = (ids.map η).toArray := by
        apply Array.ext'
        rw [Array.toList_map, h2]
      simp [execOp, ho, Instr.makeFunc, e]
    · exact ⟨h1, rfl⟩
  · exact .no
end
end Go.Ab
