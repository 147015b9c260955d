/- The step of a call ('Ab'): put together. -/
import Derived.Test.YtafjegmiildnkaaAbCall2
set_option linter.unusedVariables false
set_option linter.unusedSimpArgs false
set_option linter.unnecessarySimpa false
namespace Go.Ab
open Go.RowKit
section
variable {P : Program} {Δ : Tys} {w0 w w' : World} {M S0 S : Nat → Prop} {tm : List AV} {μ μ' : Mu} {η η' : Nat → Value} {a : Act} {o : Oper}
theorem PartR_mono {ok ok' : Nat → Prop} (h : ∀ k, ok k → ok' k) {p : Part} {v : Value} (hp : PartR w S ok p v) : PartR w S ok' p v := by
  match p, hp with
  | (none, x), hp => exact hp
  | (some e, ⟨.slice t, xs⟩), ⟨cells, h1, h2, h3⟩ => exact ⟨cells, h1, h2, fun k hk => ⟨(h3 k hk).1, h k (h3 k hk).2⟩⟩
theorem RVR_mono {ok ok' : Nat → Prop} (h : ∀ k, ok k → ok' k) {r : RV} {v : Value} (hp : RVR w S ok r v) : RVR w S ok' r v := ⟨hp.1, hp.2.imp fun _ _ => PartR_mono h⟩
theorem ownBlks_ok {ok : Nat → Prop} : ∀ {ps : List Part} {vs : List Value}, F2 (PartR w S ok) ps vs → ∀ k ∈ ownBlks ps vs, ok k
  | [], _, _, k, hk => by simp [ownBlks] at hk
  | (none, x) :: ps, v :: vs, .cons _ h2, k, hk => ownBlks_ok h2 k hk
  | (some e, ⟨.slice t, xs⟩) :: ps, v :: vs, .cons h1 h2, k, hk => by
    simp only [ownBlks, List.mem_append, Option.mem_toList] at hk
    rcases hk with hk | hk
    · obtain ⟨_, _, _, h3⟩ := h1
      exact (h3 k hk).2
    · exact ownBlks_ok h2 k hk
theorem ownT_ok {ok : Nat → Prop} : ∀ {l : List RV} {vs : List Value}, F2 (RVR w S ok) l vs → ∀ k ∈ ownT l vs, ok k
  | [], _, _, k, hk => by simp [ownT] at hk
  | r :: l, v :: vs, .cons h1 h2, k, hk => by
    simp only [ownT, List.mem_append] at hk
    rcases hk with hk | hk
    · exact ownBlks_ok h1.2 k hk
    · exact ownT_ok h2 k hk
theorem ownOut_ok {ok : Nat → Prop} {r : Out} {v : Value} (h : OutR w S ok r v) : ∀ k ∈ ownOut r v, ok k := by
  intro k hk
  cases r with
  | val r => exact ownBlks_ok h.2 k hk
  | tup l =>
    obtain ⟨vs, rfl, hf⟩ := h
    exact ownT_ok hf k hk
  | ptr l =>
    obtain ⟨b, T, cs, rfl, _, _, _, h5⟩ := h
    simp only [ownOut, List.mem_singleton] at hk
    subst hk
    exact h5
theorem ownB_ok {ok : Nat → Prop} : ∀ {ls : List (List Part)} {bs : List Nat}, F2 (fun l b => ∃ T cs, w.heap[b]? = some (.cells cs T (0, 0)) ∧ F2 (PartR w S ok) l cs.toList) ls bs → ∀ k ∈ ownB w ls bs, ok k
  | [], _, _, k, hk => by simp [ownB] at hk
  | l :: ls, b :: bs, .cons ⟨T, cs, h1, h2⟩ h3, k, hk => by
    have hcells : cellsAt w b = cs.toList := by simp [cellsAt, h1]
    simp only [ownB, List.mem_append, hcells] at hk
    rcases hk with hk | hk
    · exact ownBlks_ok h2 k hk
    · exact ownB_ok h3 k hk
theorem backT_other : ∀ (l : List RV) (n : Nat) (μ : Mu) (i : Nat), (i < n ∨ (backT n l).2.2 ≤ i) → muPut μ (backT n l).2.1 i = μ i
  | [], _, _, _, _ => rfl
  | (ag, ps) :: rest, n, μ, i, h => by
    have e : muPut μ (backT n ((ag, ps) :: rest)).2.1 = muPut (muPut μ (backs n ps).2.1) (backT (backs n ps).2.2 rest).2.1 := muPut_append _ _ _
    have h1 := backs_le ps n
    have h2 := backT_le rest (backs n ps).2.2
    have e2 : (backT n ((ag, ps) :: rest)).2.2 = (backT (backs n ps).2.2 rest).2.2 := rfl
    rw [e2] at h
    rw [e, backT_other rest _ _ i (by omega), backs_other ps n μ i (by omega)]
theorem backOut_other (r : Out) (n : Nat) (μ : Mu) (i : Nat) (h : i < n ∨ (backOut n r).2.2 ≤ i) : muPut μ (backOut n r).2.1 i = μ i := by
  cases r with
  | val r => exact backs_other r.2 n μ i h
  | tup l => exact backT_other l n μ i h
  | ptr l =>
    have h : i < n ∨ n + 1 ≤ i := h
    show muPut μ [(n, .box (l.map .dat))] i = μ i
    rw [muPut_one]
    have : i ≠ n := by omega
    simp [this]
theorem backOut_le (r : Out) (n : Nat) : n ≤ (backOut n r).2.2 := by
  cases r with
  | val r => exact backs_le r.2 n
  | tup l => exact backT_le l n
  | ptr l => exact Nat.le_succ n
theorem add_out {N : Nat} {r : Out} {v : Value} {n : Nat} (hM : InvM w0 M S0 μ η S w) (hfree : ∀ i, n ≤ i → i < N → μ i = none) (hle : (backOut n r).2.2 ≤ N)
    (hp : OutR w S (fun k => w0.heap.size ≤ k ∨ M k) r v) (hnd : (ownOut r v).Nodup) (hap : ∀ k ∈ ownOut r v, ¬ LiveIn μ η k) :
    ∃ η', Added w0 M S0 S w μ η (backOut n r).2.1 (backOut n r).2.2 N (ownOut r v) η' ∧ AVR w S (dom (muPut μ (backOut n r).2.1)) η' (backOut n r).1 v := by
  cases r with
  | val r =>
    obtain ⟨η', h1, h2⟩ := add_rv hM hfree hle hp hnd hap
    exact ⟨η', h1, h2⟩
  | tup l =>
    obtain ⟨vs, rfl, hf⟩ := hp
    obtain ⟨η', h1, h2⟩ := add_tup hM hfree hle hf hnd hap
    exact ⟨η', h1, vs, rfl, h2⟩
  | ptr l =>
    obtain ⟨b, T, cs, rfl, hb, hf, hS, hok⟩ := hp
    have hle : n + 1 ≤ N := hle
    have hnew : μ n = none := hfree n (Nat.le_refl _) (by omega)
    let η' : Nat → Value := fun i => if i = n then .pointer (some ⟨b, 0, none⟩) else η i
    have hne : ∀ i, dom μ i → i ≠ n := fun i hi e => by subst e; simp [dom, hnew] at hi
    have hst : Stay w w S S (dom μ) (dom (muPut μ [(n, .box (l.map .dat))])) η η' :=
      ⟨fun _ h => h, fun _ _ => rfl, dom_put _, fun i hi => by simp [η', hne i hi]⟩
    have hηn : η' n = .pointer (some ⟨b, 0, none⟩) := by simp [η']
    have hinv : InvM w0 M S0 (muPut μ [(n, .box (l.map .dat))]) η' S w := by
      refine inv_upd hM hM.frame (Nat.le_refl _) hst fun i ci hi => ?_
      rw [muPut_one] at hi
      by_cases he : i = n
      · subst he
        simp only [if_true, Option.some.injEq] at hi
        subst hi
        refine .inr ⟨⟨b, T, cs, hηn, hb, F2.map_left (hf.imp fun _ _ h => h), by simp [plainLeaf], hS, hok⟩, fun _ k hk j cj hj hcj hlj hkj => ?_⟩
        rw [muPut_one] at hcj
        simp only [if_neg hj] at hcj
        simp only [η', if_neg hj] at hkj
        have hkb : b = k := by simpa [hηn, blk] using hk
        subst hkb
        exact hap b (by simp [ownOut]) ⟨j, cj, hcj, hlj, hkj⟩
      · simp only [if_neg he] at hi
        exact .inl ⟨hi, fun _ _ _ => rfl⟩
    refine ⟨η', ⟨hinv, hst, fun i h h' => ?_, fun k hk => ?_⟩, ?_⟩
    · have h : n + 1 ≤ i := h
      show muPut μ [(n, .box (l.map .dat))] i = none
      rw [muPut_one]
      have : i ≠ n := by omega
      simp only [if_neg this]
      exact hfree i (by omega) h'
    · rcases live_put hηn hst.η hk with h | h
      · exact .inl h
      · refine .inr ?_
        simp only [blk, Option.some.injEq] at h
        simp [ownOut, h]
    · show RegR w S (dom (muPut μ [(n, .box (l.map .dat))])) η' (false, [.ptr n 0]) (.pointer (some ⟨b, 0, none⟩))
      exact ⟨by rw [muPut_one]; simp [dom], b, hηn, rfl⟩
theorem muPut_over : ∀ (l : Mem) {μ μ' : Mu}, (∀ i, μ i ≠ μ' i → i ∈ l.map (·.1)) → muPut μ l = muPut μ' l
  | [], μ, μ', h => by
    funext i
    refine Classical.byContradiction fun hne => ?_
    have := h i hne
    simp at this
  | p :: l, μ, μ', h => by
    refine muPut_over l fun i hi => ?_
    by_cases he : i = p.1
    · simp [he] at hi
    · simp only [if_neg he] at hi
      have := h i hi
      simpa [he] using this
theorem backBoxes_keys : ∀ {ids : List Nat} {ls : List (List Part)} {n : Nat} {q : Mem × Nat}, backBoxes n ids ls = some q → (∀ i ∈ ids, i ∈ q.1.map (·.1)) ∧ n ≤ q.2
  | [], [], n, q, h => by simp only [backBoxes, Option.some.injEq] at h; subst h; exact ⟨fun i hi => by simp at hi, Nat.le_refl _⟩
  | [], _ :: _, n, q, h => by simp [backBoxes] at h
  | _ :: _, [], n, q, h => by simp [backBoxes] at h
  | id :: ids, l :: ls, n, q, h => by
    simp only [backBoxes, Option.map_eq_some_iff] at h
    obtain ⟨q', h1, rfl⟩ := h
    obtain ⟨h2, h3⟩ := backBoxes_keys h1
    refine ⟨fun i hi => ?_, Nat.le_trans (backs_le l n) h3⟩
    rcases List.mem_cons.1 hi with rfl | hi
    · simp
    · have := h2 i hi
      simp only [List.map_append, List.map_cons, List.mem_append, List.mem_cons]
      exact .inr (.inr this)
theorem run_resolve_call (c : Call) (f' : Operand) (hc : c.callee = .value f') (f : FuncId) (hf : a.eval f' = .func (.func f) #[] #[]) (ho : o.op = .call c) : (execOp a.eval o).run P w = (callFunc f (c.args.map a.eval)).run P w := by
  simp [execOp, ho, resolve, hc, hf, Deferred.ofValue, invoke]
theorem fullB_nil : ∀ as : List Arg, fullB as [] = []
  | [] => rfl
  | .val _ :: as => fullB_nil as
  | .box _ :: _ => rfl
theorem muPut_drop : ∀ (l : Mem) {ν : Mu} {K : List Nat}, (∀ p ∈ l, p.1 ∈ K → ν p.1 = some p.2) → muPut ν (dropB K l) = muPut ν l
  | [], _, _, _ => rfl
  | p :: l, ν, K, h => by
    unfold dropB
    split
    · rename_i hk
      have hk : p.1 ∈ K := by simpa using hk
      rw [muPut_drop l fun p' hp' => h p' (List.mem_cons_of_mem _ hp')]
      show muPut ν l = muPut (fun i => if i = p.1 then some p.2 else ν i) l
      have : (fun i => if i = p.1 then some p.2 else ν i) = ν := by
        funext i
        by_cases he : i = p.1
        · rw [if_pos he, he, h p (by simp) hk]
        · rw [if_neg he]
      rw [this]
    · rename_i hk
      have hk : p.1 ∉ K := by simpa using hk
      show muPut (fun i => if i = p.1 then some p.2 else ν i) (dropB K l) = muPut (fun i => if i = p.1 then some p.2 else ν i) l
      refine muPut_drop l fun p' hp' hk' => ?_
      have : p'.1 ≠ p.1 := fun e => hk (e ▸ hk')
      rw [if_neg this]
      exact h p' (List.mem_cons_of_mem _ hp') hk'
theorem backs_mem : ∀ (ps : List Part) (n : Nat), ∀ p ∈ (backs n ps).2.1, n ≤ p.1 ∧ p.1 < (backs n ps).2.2
  | [], n, p, hp => by simp [backs] at hp
  | (none, x) :: ps, n, p, hp => backs_mem ps n p hp
  | (some e, ⟨.slice t, xs⟩) :: ps, n, p, hp => by
    simp only [backs, List.mem_cons] at hp
    rcases hp with rfl | hp
    · exact ⟨Nat.le_refl _, Nat.lt_of_lt_of_le (Nat.lt_succ_self n) (backs_le ps (n + 1))⟩
    · have := backs_mem ps (n + 1) p hp
      exact ⟨by omega, this.2⟩
  | (some _, ⟨.int _, _⟩) :: ps, n, p, hp => backs_mem ps n p hp
  | (some _, ⟨.bool, _⟩) :: ps, n, p, hp => backs_mem ps n p hp
  | (some _, ⟨.str, _⟩) :: ps, n, p, hp => backs_mem ps n p hp
  | (some _, ⟨.pair _ _, _⟩) :: ps, n, p, hp => backs_mem ps n p hp
  | (some _, ⟨.unit, _⟩) :: ps, n, p, hp => backs_mem ps n p hp
theorem backBoxes_mem : ∀ {ids : List Nat} {ls : List (List Part)} {n : Nat} {q : Mem × Nat}, backBoxes n ids ls = some q → ∀ p ∈ q.1, (n ≤ p.1 ∧ p.1 < q.2) ∨ ∃ (j : Nat) (l : List Part) (n' : Nat), ids[j]? = some p.1 ∧ ls[j]? = some l ∧ p.2 = .box (backs n' l).1
  | [], [], n, q, h => by simp only [backBoxes, Option.some.injEq] at h; subst h; intro p hp; simp at hp
  | [], _ :: _, n, q, h => by simp [backBoxes] at h
  | _ :: _, [], n, q, h => by simp [backBoxes] at h
  | id :: ids, l :: ls, n, q, h => by
    simp only [backBoxes, Option.map_eq_some_iff] at h
    obtain ⟨q', h1, rfl⟩ := h
    have h2 := backBoxes_mem h1
    have h3 := (backBoxes_keys h1).2
    intro p hp
    simp only [List.mem_append, List.mem_cons] at hp
    rcases hp with hp | rfl | hp
    · have := backs_mem l n p hp
      exact .inl ⟨this.1, by show p.1 < q'.2; omega⟩
    · exact .inr ⟨0, l, n, rfl, rfl, rfl⟩
    · rcases h2 p hp with ⟨a, b⟩ | ⟨j, l', n', a, b, c⟩
      · exact .inl ⟨Nat.le_trans (backs_le l n) a, b⟩
      · exact .inr ⟨j + 1, l', n', by simpa using a, by simpa using b, c⟩
theorem keptB_mem : ∀ {ids : List Nat} {bs : List (List Part)} {id : Nat}, id ∈ keptB μ ids bs → ∃ j : Nat, ids[j]? = some id ∧ bs[j]? = some [] ∧ datBox μ id = true
  | [], _, id, h => by simp [keptB] at h
  | _ :: _, [], id, h => by simp [keptB] at h
  | i :: ids, [] :: bs, id, h => by
    unfold keptB at h
    split at h
    · rcases List.mem_cons.1 h with rfl | h
      · exact ⟨0, rfl, rfl, by assumption⟩
      · obtain ⟨j, a, b, c⟩ := keptB_mem h
        exact ⟨j + 1, by simpa using a, by simpa using b, c⟩
    · obtain ⟨j, a, b, c⟩ := keptB_mem h
      exact ⟨j + 1, by simpa using a, by simpa using b, c⟩
  | i :: ids, (x :: l) :: bs, id, h => by
    unfold keptB at h
    obtain ⟨j, a, b, c⟩ := keptB_mem h
    exact ⟨j + 1, by simpa using a, by simpa using b, c⟩
theorem nodup_get {l : List Nat} (h : l.Nodup) {i j x : Nat} (h1 : l[i]? = some x) (h2 : l[j]? = some x) : i = j := by
  exact (List.getElem?_inj (List.getElem?_eq_some_iff.1 h1).1 h).1 (h1.trans h2.symm)
theorem dats_back : ∀ {ls : List Leaf} {ds : List D} {fz : Mem}, leafDs Δ μ ls = some (ds, fz) → ls.all isDat = true → ∀ n, (backs n (ds.map fun x => ((none, x) : Part))).1 = ls
  | [], ds, fz, h, _, n => by
    simp only [leafDs, Option.some.injEq, Prod.mk.injEq] at h
    obtain ⟨rfl, rfl⟩ := h
    rfl
  | l :: ls, ds, fz, h, hd, n => by
    simp only [leafDs, Option.bind_eq_some_iff, Option.some.injEq, Prod.mk.injEq] at h
    obtain ⟨p, h1, q, h2, rfl, rfl⟩ := h
    simp only [List.all_cons, Bool.and_eq_true] at hd
    have ih := dats_back (show leafDs Δ μ ls = some (q.1, q.2) from h2) hd.2 n
    obtain ⟨x, rfl⟩ : ∃ x, l = .dat x := by
      have := hd.1
      unfold isDat at this
      split at this
      · exact ⟨_, rfl⟩
      · cases this
    simp only [leafD, Option.some.injEq] at h1
    subst h1
    simp only [List.map_cons, backs, ih]
theorem toArgs_full : ∀ {L : List (AV × TypeId)} {as : List Arg} {fz : Mem} {ids : List Nat} {bs : List (List Part)} {j id : Nat}, toArgs Δ μ L = some (as, fz, ids) → ids[j]? = some id → bs[j]? = some [] → datBox μ id = true →
    ∃ ls l, μ id = some (.box ls) ∧ (fullB as bs)[j]? = some l ∧ ∀ n, (backs n l).1 = ls
  | [], as, fz, ids, bs, j, id, h, h1, _, _ => by
    simp only [toArgs, Option.some.injEq, Prod.mk.injEq] at h
    obtain ⟨rfl, rfl, rfl⟩ := h
    simp at h1
  | x :: L, as, fz, ids, bs, j, id, h, h1, h2, h3 => by
    simp only [toArgs, Option.bind_eq_some_iff, Option.some.injEq, Prod.mk.injEq] at h
    obtain ⟨p, hp, q, hq, rfl, rfl, rfl⟩ := h
    have hq : toArgs Δ μ L = some (q.1, q.2.1, q.2.2) := hq
    unfold toArg at hp
    split at hp
    · rename_i id0 _
      split at hp
      · rename_i ls hid
        simp only [Option.map_eq_some_iff] at hp
        obtain ⟨d, hd, rfl⟩ := hp
        cases j with
        | zero =>
          simp only [List.singleton_append, List.getElem?_cons_zero, Option.some.injEq] at h1
          subst h1
          cases bs with
          | nil => simp at h2
          | cons b bs =>
            simp only [List.getElem?_cons_zero, Option.some.injEq] at h2
            subst h2
            refine ⟨ls, d.1.map fun x => ((none, x) : Part), hid, rfl, dats_back (show leafDs Δ μ ls = some (d.1, d.2) from hd) ?_⟩
            unfold datBox at h3
            rw [hid] at h3
            exact h3
        | succ j =>
          simp only [List.singleton_append, List.getElem?_cons_succ] at h1
          cases bs with
          | nil => simp at h2
          | cons b bs =>
            simp only [List.getElem?_cons_succ] at h2
            obtain ⟨ls', l', a1, a2, a3⟩ := toArgs_full hq h1 h2 h3
            refine ⟨ls', l', a1, ?_, a3⟩
            cases b with
            | nil => simpa [fullB] using a2
            | cons y b => simpa [fullB] using a2
      · cases hp
    · simp only [Option.map_eq_some_iff] at hp
      obtain ⟨d, hd, rfl⟩ := hp
      have := toArgs_full (as := q.1) (bs := bs) hq (by simpa using h1) h2 h3
      exact this
    · cases hp
/-- A call of a function, its arguments being known. -/
theorem told_callL (hM : InvM w0 M S0 μ η S w) {new : Nat} (hfree : ∀ i, new ≤ i → i < new + 16 → μ i = none) (f : FuncId) {G : Spec} (hG : CallOk P f G) {L : List (AV × TypeId)} {vs : Array Value}
    (hexec : (execOp a.eval o).run P w = (callFunc f vs).run P w) (hargs : F2 (fun (x : AV × TypeId) v => AVR w S (dom μ) η x.1 v) L vs.toList) : Told w0 M S0 μ η S P o a w (cCall Δ G μ new L) := by
  unfold cCall
  split
  · rename_i as fz ids htoArgs
    split
    · rename_i hnod
      split
      · rename_i c0 dc r hr
        split
        · rename_i q hq
          split
          · rename_i hqle
            have hqle : q.2 ≤ new + 16 := Nat.le_of_ble_eq_true hqle
            refine .ok fun hc0 => ?_
            obtain ⟨S1, i1, s1, f1, c1, b1⟩ := toArgs_is hM (Fz.refl μ) htoArgs hargs
            generalize hbs : boxBlks as vs.toList = bs at b1
            -- of the variables that are handed in
            have hbox : ∀ {id b : Nat}, boxIs μ η id b → ∃ ls, muPut μ fz id = some (.box ls) ∧ η id = .pointer (some ⟨b, 0, none⟩) := fun h => by
              obtain ⟨⟨ls, h1⟩, h2⟩ := h
              exact ⟨ls, f1.box h1, h2⟩
            have hbs1 : ∀ b ∈ bs, ∃ id ∈ ids, ∃ ls, muPut μ fz id = some (.box ls) ∧ η id = .pointer (some ⟨b, 0, none⟩) := by
              intro b hb
              obtain ⟨i, hi⟩ := List.getElem?_of_mem hb
              obtain ⟨id, h1, h2⟩ := b1.get' i b hi
              obtain ⟨ls, h3, h4⟩ := hbox h2
              exact ⟨id, List.mem_of_getElem? h1, ls, h3, h4⟩
            have hids : ids.Nodup := nodupB_is hnod
            have hbsnd : bs.Nodup := by
              have : ∀ {ids bs : List Nat}, ids.Nodup → F2 (boxIs μ η) ids bs → bs.Nodup := by
                intro ids bs hn hf2
                induction hf2 with
                | nil => exact .nil
                | cons h1 h2 ih =>
                  rename_i x y xs ys
                  rw [List.nodup_cons] at hn ⊢
                  refine ⟨fun hy => ?_, ih hn.2⟩
                  obtain ⟨i, hi⟩ := List.getElem?_of_mem hy
                  obtain ⟨x', g1, g2⟩ := h2.get' i y hi
                  have hne : x ≠ x' := fun e => hn.1 (e ▸ List.mem_of_getElem? g1)
                  obtain ⟨l1, a1, a2⟩ := hbox h1
                  obtain ⟨l2, a3, a4⟩ := hbox g2
                  exact i1.apart x x' _ _ y a1 a3 rfl rfl hne (by simp [a2, blk]) (by simp [a4, blk])
              exact this hids b1
            have hbsS : ∀ b ∈ bs, ¬ S1 b ∧ (w0.heap.size ≤ b ∨ M b) := by
              intro b hb
              obtain ⟨id, _, ls, h1, h2⟩ := hbs1 b hb
              exact (live_blk i1 h1 rfl (by simp [h2, blk])).2
            have hgoes := hG as c0 dc r hr hc0 w S1 vs i1.lt c1 (by rw [hbs]; exact hbsnd) (by rw [hbs]; exact fun b hb => (hbsS b hb).1)
            intro next Q hnext
            unfold Oper.wp
            rw [hexec]
            refine hgoes o a next Q fun v w' hback => hnext v w' ?_
            rw [hbs] at hback
            obtain ⟨S2, hb⟩ := hback
            -- memory without the variables that were handed in
            let μ2 : Mu := fun i => if i ∈ ids then some .gone else muPut μ fz i
            have hμ2 : ∀ i, μ2 i = if i ∈ ids then some .gone else muPut μ fz i := fun _ => rfl
            have hidsome : ∀ id ∈ ids, (muPut μ fz id).isSome = true := by
              intro id hid
              obtain ⟨i, hi⟩ := List.getElem?_of_mem hid
              obtain ⟨b, h1, h2⟩ := b1.get i id hi
              obtain ⟨ls, h3, _⟩ := hbox h2
              rw [h3]; rfl
            have hdom2 : ∀ i, dom (muPut μ fz) i → dom μ2 i := by
              intro i hi
              unfold dom at *
              rw [hμ2]
              split
              · rfl
              · exact hi
            have hst2 : Stay w w' S1 S2 (dom (muPut μ fz)) (dom μ2) η η :=
              ⟨hb.s, fun k hk => hb.frame.block k (i1.lt k hk) (fun hin => (hbsS k hin).1 hk), hdom2, fun _ _ => rfl⟩
            have hlive2 : ∀ i ci, μ2 i = some ci → ci.live = true → i ∉ ids ∧ muPut μ fz i = some ci := by
              intro i ci hi hl
              rw [hμ2] at hi
              split at hi
              · simp only [Option.some.injEq] at hi; subst hi; simp [Chunk.live] at hl
              · exact ⟨by assumption, hi⟩
            have hnotbs : ∀ i ci, μ2 i = some ci → ci.live = true → ∀ k, blk (η i) = some k → k ∉ bs := by
              intro i ci hi hl k hk hkb
              obtain ⟨h1, h2⟩ := hlive2 i ci hi hl
              obtain ⟨id, h3, ls, h4, h5⟩ := hbs1 k hkb
              exact i1.apart i id ci _ k h2 h4 hl rfl (fun e => h1 (e ▸ h3)) hk (by simp [h5, blk])
            have i2 : InvM w0 M S0 μ2 η S2 w' := by
              refine ⟨⟨hb.frame.os.trans hM.frame.os, hb.frame.tape.trans hM.frame.tape, hb.frame.output.trans hM.frame.output, Nat.le_trans hM.frame.size hb.frame.size, fun k hk hm => ?_⟩, fun b h => hb.s b (i1.sub b h), hb.lt, fun b h => ?_, fun i ci hi => ?_, fun i j ci cj k hi hj hli hlj hij => ?_⟩
              · rw [hb.frame.block k (Nat.lt_of_lt_of_le hk hM.frame.size) (fun hin => ?_)]
                · exact hM.frame.block k hk hm
                · rcases (hbsS k hin).2 with h | h
                  · omega
                  · exact hm h
              · rcases hb.from_ b h with h | h
                · exact i1.from_ b h
                · exact .inr (.inl (Nat.le_trans hM.frame.size h))
              · by_cases hin : i ∈ ids
                · rw [hμ2, if_pos hin] at hi
                  simp only [Option.some.injEq] at hi
                  subst hi
                  trivial
                · have hi' := hi
                  rw [hμ2, if_neg hin] at hi'
                  refine ChunkR_stay hst2 (show dom (muPut μ fz) i by simp [dom, hi']) (fun hl k hk => hb.frame.block k (live_blk i1 hi' hl hk).1 (hnotbs i ci hi hl k hk)) (fun hl k hk hs => ?_) (i1.chunk i ci hi')
                  have h3 := live_blk i1 hi' hl hk
                  rcases hb.from_ k hs with h | h
                  · exact h3.2.1 h
                  · omega
              · exact i1.apart i j ci cj k (hlive2 i ci hi hli).2 (hlive2 j cj hj hlj).2 hli hlj hij
            have hfree2 : ∀ i, new ≤ i → i < new + 16 → μ2 i = none := by
              intro i h1 h2
              have h3 : muPut μ fz i = none := by
                rcases f1 i with h | ⟨_, _, _, h, _⟩
                · rw [h]; exact hfree i h1 h2
                · rw [hfree i h1 h2] at h; cases h
              rw [hμ2, if_neg (fun hin => by have := hidsome i hin; rw [h3] at this; cases this)]
              exact h3
            have hlivelt : ∀ k, LiveIn μ2 η k → k < w.heap.size ∧ k ∉ bs := by
              rintro k ⟨j, cj, hj, hl, hk⟩
              exact ⟨(live_blk i1 (hlive2 j cj hj hl).2 hl hk).1, hnotbs j cj hj hl k hk⟩
            have hok : ∀ k, w.heap.size ≤ k → w0.heap.size ≤ k ∨ M k := fun k hk => .inl (Nat.le_trans hM.frame.size hk)
            have hout : OutR w' S2 (fun k => w0.heap.size ≤ k ∨ M k) r.out v := by
              have h : OutR w' S2 (fun k => w.heap.size ≤ k) r.out v := hb.out
              cases hro : r.out with
              | val x => rw [hro] at h; exact RVR_mono hok h
              | tup l =>
                rw [hro] at h
                obtain ⟨vs, h1, h2⟩ := h
                exact ⟨vs, h1, h2.imp fun _ _ => RVR_mono hok⟩
              | ptr l =>
                rw [hro] at h
                obtain ⟨b, T, cs, h1, h2, h3, h4, h5⟩ := h
                exact ⟨b, T, cs, h1, h2, h3, h4, hok b h5⟩
            have hbslt : ∀ b ∈ bs, b < w.heap.size := by
              intro b hin
              obtain ⟨id, _, ls, h1, h2⟩ := hbs1 b hin
              exact (live_blk i1 h1 rfl (k := b) (by simp [h2, blk])).1
            have hapart : (ownOut r.out v ++ (ownB w' (fullB as r.boxes) bs ++ bs)).Nodup := by
              rw [← List.append_assoc, List.nodup_append]
              refine ⟨hb.apart, hbsnd, fun x hx y hy e => ?_⟩
              subst e
              have h1 := hbslt x hy
              have h2 : w.heap.size ≤ x := by
                rcases List.mem_append.1 hx with h | h
                · exact ownOut_ok hb.out x h
                · exact ownB_ok hb.boxes x h
              omega
            have hapart1 := List.nodup_append.1 hapart
            obtain ⟨hkeys, hqle1⟩ := backBoxes_keys hq
            obtain ⟨η1, a1, r1⟩ := add_out (N := new + 16) (n := new) i2 hfree2 (Nat.le_trans hqle1 hqle) hout hapart1.1 (fun k hk hl => by
              have h1 := ownOut_ok hb.out k hk
              have h2 := (hlivelt k hl).1
              omega)
            have hidsR : F2 (idsR w0 M S2 (muPut μ2 (backOut new r.out).2.1) η1) ids bs := by
              have : ∀ {xs ys : List Nat}, (∀ x ∈ xs, x ∈ ids) → (∀ y ∈ ys, y ∈ bs) → F2 (boxIs μ η) xs ys → F2 (idsR w0 M S2 (muPut μ2 (backOut new r.out).2.1) η1) xs ys := by
                intro xs ys hx hy hf2
                induction hf2 with
                | nil => exact .nil
                | cons h1 h2 ih =>
                  rename_i x y xs ys
                  refine .cons ?_ (ih (fun z hz => hx z (List.mem_cons_of_mem _ hz)) fun z hz => hy z (List.mem_cons_of_mem _ hz))
                  have hxin : x ∈ ids := hx x (by simp)
                  have hyin : y ∈ bs := hy y (by simp)
                  have hgone : μ2 x = some .gone := by rw [hμ2, if_pos hxin]
                  have hxout : x < new ∨ (backOut new r.out).2.2 ≤ x := by
                    rcases Nat.lt_or_ge x new with h | h
                    · exact .inl h
                    · rcases Nat.lt_or_ge x (backOut new r.out).2.2 with h' | h'
                      · have := hfree2 x h (by omega)
                        rw [hgone] at this; cases this
                      · exact .inr h'
                  obtain ⟨_, h4⟩ := h1
                  refine ⟨by rw [backOut_other r.out new μ2 x hxout]; exact hgone, by rw [a1.stay.η x (by simp [dom, hgone])]; exact h4, fun hs => ?_, (hbsS y hyin).2⟩
                  rcases hb.from_ y hs with h | h
                  · exact (hbsS y hyin).1 h
                  · obtain ⟨id, _, ls, h5, h6⟩ := hbs1 y hyin
                    have := (live_blk i1 h5 rfl (k := y) (by simp [h6, blk])).1
                    omega
              exact this (fun _ h => h) (fun _ h => h) b1
            have hboxes : F2 (fun l b => ∃ T cs, w'.heap[b]? = some (.cells cs T (0, 0)) ∧ F2 (PartR w' S2 (fun k => w0.heap.size ≤ k ∨ M k)) l cs.toList) (fullB as r.boxes) bs :=
              hb.boxes.imp fun l b ⟨T, cs, h1, h2⟩ => ⟨T, cs, h1, h2.imp fun _ _ => PartR_mono hok⟩
            obtain ⟨η2, a2, _⟩ := add_boxes (N := new + 16) a1.inv a1.free hq hqle hboxes hidsR hids hapart1.2.1 (fun k hk hl => by
              rcases a1.live k hl with h | h
              · have h2 := hlivelt k h
                rcases List.mem_append.1 hk with hk | hk
                · have := ownB_ok hb.boxes k hk
                  omega
                · exact h2.2 hk
              · exact hapart1.2.2 k h k hk rfl)
            have hall := a1.then a2
            have edrop : muPut μ (fz ++ ((backOut new r.out).2.1 ++ dropB (keptB μ ids r.boxes) q.1)) = muPut μ (fz ++ ((backOut new r.out).2.1 ++ q.1)) := by
              rw [muPut_append, muPut_append, muPut_append, muPut_append]
              refine muPut_drop q.1 fun p hp hk => ?_
              obtain ⟨j, g1, g2, g3⟩ := keptB_mem hk
              obtain ⟨ls, l, g4, g5, g6⟩ := toArgs_full htoArgs g1 g2 g3
              have g7 : muPut μ fz p.1 = some (.box ls) := f1.box g4
              have g8 : p.1 < new ∨ new + 16 ≤ p.1 := by
                rcases Nat.lt_or_ge p.1 new with h | h
                · exact .inl h
                · rcases Nat.lt_or_ge p.1 (new + 16) with h' | h'
                  · have := hfree p.1 h h'
                    rw [g4] at this; cases this
                  · exact .inr h'
              have hq1 := (backBoxes_keys hq).2
              have hq0 := backOut_le r.out new
              rw [backOut_other r.out new _ p.1 (by omega), g7]
              rcases backBoxes_mem hq p hp with ⟨h1, h2⟩ | ⟨j', l', n', h1, h2, h3⟩
              · omega
              · have : j = j' := nodup_get (nodupB_is hnod) g1 h1
                subst this
                rw [g5] at h2
                simp only [Option.some.injEq] at h2
                subst h2
                rw [h3, g6]
            have efin : muPut μ (fz ++ ((backOut new r.out).2.1 ++ dropB (keptB μ ids r.boxes) q.1)) = muPut μ2 ((backOut new r.out).2.1 ++ q.1) := by
              rw [edrop, muPut_append]
              refine muPut_over _ fun i hi => ?_
              rw [hμ2] at hi
              split at hi
              · rename_i hin
                simp only [List.map_append, List.mem_append]
                exact .inr (hkeys i hin)
              · exact absurd rfl hi
            refine ⟨η2, S2, ?_, ?_, ?_⟩
            · show InvM w0 M S0 (muPut μ (fz ++ ((backOut new r.out).2.1 ++ dropB (keptB μ ids r.boxes) q.1))) η2 S2 w'
              rw [efin]; exact hall.inv
            · show Stay w w' S S2 (dom μ) (dom (muPut μ (fz ++ ((backOut new r.out).2.1 ++ dropB (keptB μ ids r.boxes) q.1)))) η η2
              rw [efin]
              exact (s1.trans hst2).trans hall.stay
            · show AVR w' S2 (dom (muPut μ (fz ++ ((backOut new r.out).2.1 ++ dropB (keptB μ ids r.boxes) q.1)))) η2 (backOut new r.out).1 v
              rw [efin, muPut_append]
              exact AVR_stay a2.stay r1
          · exact .no
        · exact .no
      · exact .no
    · exact .no
  · exact .no
theorem args_zip {ρ : Operand → AV} (hρ : ∀ x, AVR w S (dom μ) η (ρ x) (a.eval x)) : ∀ {xs : List Operand} {ts : List TypeId}, xs.length = ts.length → F2 (fun (x : AV × TypeId) v => AVR w S (dom μ) η x.1 v) ((xs.map ρ).zip ts) (xs.map a.eval)
  | [], _, _ => .nil
  | x :: xs, [], h => by simp at h
  | x :: xs, t :: ts, h => .cons (hρ x) (args_zip hρ (by simpa using h))
theorem told_call (hM : InvM w0 M S0 μ η S w) {new : Nat} (hfree : ∀ i, new ≤ i → i < new + 16 → μ i = none) (c : Call) (ho : o.op = .call c) (f' : Operand) (hc : c.callee = .value f') (f : FuncId) (caps : List Nat) {G : Spec} (hG : CallOk P f G)
    {ρ : Operand → AV} (hρ : ∀ x, AVR w S (dom μ) η (ρ x) (a.eval x)) (hf : ρ f' = .val (false, [.fn f caps])) (hlen : c.args.toList.length = c.argTypes.toList.length) (hcaps : capsOk μ caps = true) :
    Told w0 M S0 μ η S P o a w (cCall Δ G μ new ((c.args.toList.map ρ).zip c.argTypes.toList ++ caps.map fun id => (lv (.ptr id 0), 0))) := by
  have hfv : (∀ id ∈ caps, dom μ id) ∧ a.eval f' = .func (.func f) #[] (caps.map η).toArray := by
    have h := hρ f'
    rw [hf] at h
    exact h
  have hexec : (execOp a.eval o).run P w = (callFunc f (c.args.map a.eval ++ (caps.map η).toArray)).run P w := by
    simp [execOp, ho, resolve, hc, hfv.2, Deferred.ofValue, invoke]
  refine told_callL (Δ := Δ) hM hfree f hG hexec ?_
  rw [Array.toList_append, Array.toList_map]
  refine (args_zip hρ hlen).append ?_
  have : ∀ l : List Nat, (∀ id ∈ l, id ∈ caps) → F2 (fun (x : AV × TypeId) v => AVR w S (dom μ) η x.1 v) (l.map fun id => (lv (.ptr id 0), 0)) (l.map η) := by
    intro l
    induction l with
    | nil => intro _; exact .nil
    | cons id l ih =>
      intro hl
      refine .cons ?_ (ih fun x hx => hl x (List.mem_cons_of_mem _ hx))
      have hid := List.all_eq_true.1 hcaps id (hl id (by simp))
      show LR w S (dom μ) η (.ptr id 0) (η id)
      cases hm : μ id with
      | none => rw [hm] at hid; cases hid
      | some ch =>
        rw [hm] at hid
        cases ch with
        | box ls =>
          obtain ⟨b, T, cs, h1, _⟩ := hM.chunk id _ hm
          exact ⟨by simp [dom, hm], b, h1, h1⟩
        | rows => cases hid
        | gone => cases hid
  exact this caps fun _ h => h
/-- A function is made: the addresses of the variables that it captures. -/
theorem told_makeFunc (hM : InvM w0 M S0 μ η S w) (f : FuncId) (cs : Array Operand) (ho : o.op = .makeFunc (.func f) #[] cs) {ρ : Operand → AV} (hρ : ∀ x, AVR w S (dom μ) η (ρ x) (a.eval x)) : Told w0 M S0 μ η S P o a w (cMakeFunc f (cs.toList.map ρ)) := by
  unfold cMakeFunc
  split
  · rename_i ids hids
    have key : ∀ (l : List Operand) (ids : List Nat), capIds (l.map ρ) = some ids → (∀ id ∈ ids, dom μ id) ∧ l.map a.eval = ids.map η := by
      intro l
      induction l with
      | nil => intro ids h; simp only [List.map_nil, capIds, Option.some.injEq] at h; subst h; exact ⟨fun id h => by simp at h, rfl⟩
      | cons x l ih =>
        intro ids h
        simp only [List.map_cons] at h
        unfold capIds at h
        split at h
        · rename_i e1; cases e1
        · rename_i id l' e1
          simp only [List.cons.injEq] at e1
          obtain ⟨e1, e2⟩ := e1
          subst e2
          simp only [Option.map_eq_some_iff] at h
          obtain ⟨ids', h1, rfl⟩ := h
          obtain ⟨h2, h3⟩ := ih ids' h1
          have hx := hρ x
          rw [e1] at hx
          obtain ⟨g1, b, g2, g3⟩ : dom μ id ∧ ∃ b, η id = .pointer (some ⟨b, 0, none⟩) ∧ a.eval x = .pointer (some ⟨b, 0, none⟩) := hx
          refine ⟨fun i hi => ?_, ?_⟩
          · rcases List.mem_cons.1 hi with rfl | hi
            · exact g1
            · exact h2 i hi
          · rw [List.map_cons, List.map_cons, h3, g2, g3]
        · cases h
    obtain ⟨h1, h2⟩ := key cs.toList ids hids
    refine told_pure (goes_pure hM (v := .func (.func f) #[] (ids.map η).toArray) ?_ ?_)
    · have e : cs.map a.eval = (ids.map η).toArray := by
        apply Array.ext'
        rw [Array.toList_map, h2]
      simp [execOp, ho, Instr.makeFunc, e]
    · exact ⟨h1, rfl⟩
  · exact .no
end
end Go.Ab
