/- Functions ('Ab'): a contract out of the interpreter's run of the body. -/
import Derived.Test.YtafjegmiildnkaaAbSound
import Derived.Tactics
set_option linter.unusedVariables false
set_option linter.unusedSimpArgs false
set_option linter.unnecessarySimpa false
namespace Go.Ab
open Go.RowKit
section
variable {P : Program} {Δ : Tys} {Γ : Env} {w0 w w' : World} {M S0 S : Nat → Prop} {tm : List AV} {μ μ' : Mu} {η η' : Nat → Value} {a : Act} {Z : List (Nat × Value)}

/-! ### coming in -/
theorem dats_args {l : List Part} {vs : List Value} (h : F2 (fun (p : Part) u => p.1 = none ∧ CR w S p.2.t [u] p.2.d) l vs) {Dm : Nat → Prop} : F2 (LR w S Dm η) (l.map fun p => .dat p.2) vs := by
  induction h with
  | nil => exact .nil
  | cons h1 _ ih => exact .cons h1.2 ih
theorem enter_is {Dm : Nat → Prop} : ∀ {as : List Arg} {vs : List Value} {n : Nat}, F2 (ArgR w S) as vs → (∀ j b, (boxBlks as vs)[j]? = some b → η (n + j) = .pointer (some ⟨b, 0, none⟩) ∧ Dm (n + j)) →
    F2 (AVR w S Dm η) (enterArgs n as).1 vs ∧ boxCount as = (boxBlks as vs).length ∧
    (∀ id c, Mem.get (enterArgs n as).2 id = some c → ∃ j b ls T cs, id = n + j ∧ (boxBlks as vs)[j]? = some b ∧ c = .box ls ∧ w.heap[b]? = some (.cells cs T (0, 0)) ∧ F2 (LR w S Dm η) ls cs.toList ∧ ls.all plainLeaf = true) ∧
    (∀ j b, (boxBlks as vs)[j]? = some b → dom (Mem.get (enterArgs n as).2) (n + j))
  | [], vs, n, h, hb => by
    cases h
    exact ⟨.nil, rfl, fun id c hg => by simp [enterArgs, Mem.get] at hg, fun j b hj => by simp [boxBlks] at hj⟩
  | .val (ag, l) :: as, v :: vs, n, .cons h1 h2, hb => by
    have e : boxBlks (.val (ag, l) :: as) (v :: vs) = boxBlks as vs := by simp [boxBlks, boxBlk]
    rw [e] at hb ⊢
    obtain ⟨g1, g2, g3, g4⟩ := enter_is h2 hb
    refine ⟨.cons ?_ g1, g2, g3, g4⟩
    obtain ⟨h3, h4⟩ := h1
    cases ag with
    | true =>
      obtain ⟨cs, rfl⟩ := h3 rfl
      exact ⟨cs, rfl, dats_args h4⟩
    | false =>
      simp only [partsOf] at h4
      have h5 := dats_args (η := η) (Dm := Dm) h4
      show RegR w S Dm η (false, l.map fun p => .dat p.2) v
      generalize (l.map fun p => Leaf.dat p.2) = q at h5
      cases h5 with
      | cons a b => cases b; exact a
  | .box l :: as, v :: vs, n, .cons h1 h2, hb => by
    obtain ⟨b0, T, cs, rfl, h3, h4⟩ := h1
    have e : boxBlks (.box l :: as) (.pointer (some ⟨b0, 0, none⟩) :: vs) = b0 :: boxBlks as vs := by simp [boxBlks, boxBlk]
    rw [e] at hb ⊢
    have hb' : ∀ j b, (boxBlks as vs)[j]? = some b → η (n + 1 + j) = .pointer (some ⟨b, 0, none⟩) ∧ Dm (n + 1 + j) := fun j b hj => by
      have := hb (j + 1) b (by simpa using hj)
      rwa [show n + (j + 1) = n + 1 + j by omega] at this
    obtain ⟨g1, g2, g3, g4⟩ := enter_is h2 hb'
    have hb0 := hb 0 b0 rfl
    refine ⟨.cons ⟨hb0.2, b0, hb0.1, rfl⟩ g1, by simp [boxCount, g2], fun id c hg => ?_, fun j b hj => ?_⟩
    · simp only [enterArgs, Mem.get, List.find?_cons] at hg
      by_cases hid : n = id
      · subst hid
        simp only [BEq.rfl, Option.map_some, Option.some.injEq] at hg
        subst hg
        exact ⟨0, b0, _, T, cs, rfl, rfl, rfl, h3, dats_args h4, by simp [plainLeaf]⟩
      · have en : (n == id) = false := by simp [hid]
        rw [en] at hg
        obtain ⟨j, b, ls, T', cs', q1, q2, q3, q4, q5, q6⟩ := g3 id c hg
        exact ⟨j + 1, b, ls, T', cs', by omega, by simpa using q2, q3, q4, q5, q6⟩
    · unfold dom Mem.get
      simp only [enterArgs, List.find?_cons]
      cases j with
      | zero => simp
      | succ j =>
        have en : (n == n + (j + 1)) = false := by simp
        rw [en]
        have := g4 j b (by simpa using hj)
        rw [show n + (j + 1) = n + 1 + j by omega]
        exact this

/-! ### going out -/
def idBlks (η : Nat → Value) (ids : List Nat) : List Nat := ids.flatMap fun id => (blk (η id)).toList
def liveIds (μ : Mu) (ids : List Nat) : Prop := ∀ id ∈ ids, ∃ c, μ id = some c ∧ c.live = true ∧ ∀ ls, c ≠ .box ls
theorem idBlks_nodup (hM : InvM w0 M S0 μ η S w) : ∀ {ids : List Nat}, ids.Nodup → liveIds μ ids → (idBlks η ids).Nodup
  | [], _, _ => .nil
  | id :: ids, hn, hl => by
    rw [List.nodup_cons] at hn
    simp only [idBlks, List.flatMap_cons]
    rw [List.nodup_append]
    refine ⟨?_, idBlks_nodup hM hn.2 fun i hi => hl i (List.mem_cons_of_mem _ hi), fun x hx y hy e => ?_⟩
    · cases blk (η id) <;> simp
    · subst e
      obtain ⟨i, hi, hix⟩ := List.mem_flatMap.1 hy
      obtain ⟨c1, a1, a2, _⟩ := hl id (by simp)
      obtain ⟨c2, a3, a4, _⟩ := hl i (List.mem_cons_of_mem _ hi)
      simp only [Option.mem_toList, Option.mem_def] at hx hix
      exact hM.apart id i c1 c2 x a1 a3 a2 a4 (fun e => hn.1 (e ▸ hi)) hx hix
theorem partOf_is (hM : InvM w0 M S0 μ η S w) {l : Leaf} {p : Part} {ids : List Nat} (h : partOf μ l = some (p, ids)) {v : Value} (hv : LR w S (dom μ) η l v) :
    PartR w S (fun k => w0.heap.size ≤ k ∨ M k) p v ∧ ownBlks [p] [v] = idBlks η ids ∧ liveIds μ ids := by
  unfold partOf at h
  split at h
  · simp only [Option.some.injEq, Prod.mk.injEq] at h
    obtain ⟨rfl, rfl⟩ := h
    exact ⟨hv, by simp [ownBlks, idBlks], fun id hid => by simp at hid⟩
  · simp only [Option.some.injEq, Prod.mk.injEq] at h
    obtain ⟨rfl, rfl⟩ := h
    exact ⟨hv.1, by simp [ownBlks, idBlks], fun id hid => by simp at hid⟩
  · rename_i id
    split at h
    · rename_i e t xs hid
      simp only [Option.some.injEq, Prod.mk.injEq] at h
      obtain ⟨rfl, rfl⟩ := h
      have hch := hM.chunk id _ hid
      have hv2 : v = η id := hv.2.1
      subst hv2
      refine ⟨hch, by simp [ownBlks, idBlks], fun i hi => ?_⟩
      simp only [List.mem_singleton] at hi
      subst hi
      exact ⟨_, hid, rfl, fun ls h => by cases h⟩
    · rename_i e t xs hid
      simp only [Option.some.injEq, Prod.mk.injEq] at h
      obtain ⟨rfl, rfl⟩ := h
      have hch := hM.chunk id _ hid
      have hv2 : v = η id := hv.2.1
      subst hv2
      exact ⟨hch, by simp [ownBlks, idBlks], fun id hid => by simp at hid⟩
    · cases h
  · cases h
theorem ownBlks_cons (p : Part) (ps : List Part) (v : Value) (vs : List Value) : ownBlks (p :: ps) (v :: vs) = ownBlks [p] [v] ++ ownBlks ps vs := by
  obtain ⟨f, x⟩ := p
  cases f <;> simp [ownBlks]
theorem idBlks_append (ids ids' : List Nat) : idBlks η (ids ++ ids') = idBlks η ids ++ idBlks η ids' := by simp [idBlks]
theorem liveIds_append {ids ids' : List Nat} (h : liveIds μ ids) (h' : liveIds μ ids') : liveIds μ (ids ++ ids') := fun i hi => (List.mem_append.1 hi).elim (h i) (h' i)
theorem partsOfL_is (hM : InvM w0 M S0 μ η S w) : ∀ {ls : List Leaf} {ps : List Part} {ids : List Nat} (_ : partsOfL μ ls = some (ps, ids)) {vs : List Value} (_ : F2 (LR w S (dom μ) η) ls vs),
    F2 (PartR w S (fun k => w0.heap.size ≤ k ∨ M k)) ps vs ∧ ownBlks ps vs = idBlks η ids ∧ liveIds μ ids
  | [], ps, ids, h, vs, hv => by
    simp only [partsOfL, Option.some.injEq, Prod.mk.injEq] at h
    obtain ⟨rfl, rfl⟩ := h
    cases hv
    exact ⟨.nil, by simp [ownBlks, idBlks], fun id hid => by simp at hid⟩
  | l :: ls, ps, ids, h, vs, hv => by
    simp only [partsOfL, Option.bind_eq_some_iff, Option.some.injEq, Prod.mk.injEq] at h
    obtain ⟨p, h1, q, h2, rfl, rfl⟩ := h
    cases hv with
    | cons g1 g2 =>
      obtain ⟨a1, a2, a3⟩ := partOf_is hM (show partOf μ l = some (p.1, p.2) from h1) g1
      obtain ⟨b1, b2, b3⟩ := partsOfL_is hM (show partsOfL μ ls = some (q.1, q.2) from h2) g2
      exact ⟨.cons a1 b1, by rw [ownBlks_cons, a2, b2, idBlks_append], liveIds_append a3 b3⟩
theorem rvOf_is (hM : InvM w0 M S0 μ η S w) {r : Reg} {x : RV} {ids : List Nat} (h : rvOf μ r = some (x, ids)) {v : Value} (hv : RegR w S (dom μ) η r v) :
    RVR w S (fun k => w0.heap.size ≤ k ∨ M k) x v ∧ ownBlks x.2 (partsOf x.1 v) = idBlks η ids ∧ liveIds μ ids := by
  unfold rvOf at h
  split at h
  · simp only [Option.map_eq_some_iff, Prod.mk.injEq] at h
    obtain ⟨p, h1, rfl, rfl⟩ := h
    obtain ⟨a1, a2, a3⟩ := partOf_is hM (show partOf μ _ = some (p.1, p.2) from h1) (show LR w S (dom μ) η _ v from hv)
    exact ⟨⟨fun h => by simp at h, .cons a1 .nil⟩, a2, a3⟩
  · simp only [Option.map_eq_some_iff, Prod.mk.injEq] at h
    obtain ⟨p, h1, rfl, rfl⟩ := h
    obtain ⟨cs, rfl, hf⟩ := hv
    obtain ⟨a1, a2, a3⟩ := partsOfL_is hM (show partsOfL μ _ = some (p.1, p.2) from h1) hf
    exact ⟨⟨fun _ => ⟨cs, rfl⟩, a1⟩, a2, a3⟩
  · cases h
def readResult (tmps : Array Value) : ResultVar → Sem Value
  | .tmp t => pure (tmps.getD t undef)
  | .cell a t => do loadVar t (← asAddr (tmps.getD a undef))
theorem getD_tm (hI : InvX w0 M S0 tm μ η S a w) {t : Nat} {x : AV} (h : tm.getD t .any = x) (hx : x ≠ .any) : AVR w S (dom μ) η x (a.tmps.getD t undef) := by
  rw [List.getD_eq_getElem?_getD] at h
  cases hh : tm[t]? with
  | none => rw [hh] at h; exact absurd h.symm hx
  | some y => rw [hh] at h; simp at h; subst h; exact hI.tmp t y hh
theorem resultAt_is (hΔ : TysOk P Δ) {φ : AS} (hI : InvX w0 M S0 φ.tm φ.mem.get η S a w) {rv : ResultVar} {x : RV} {ids : List Nat} (h : resultAt Δ φ rv = some (x, ids)) :
    ∃ v, (readResult a.tmps rv).run P w = .ok v w ∧ RVR w S (fun k => w0.heap.size ≤ k ∨ M k) x v ∧ ownBlks x.2 (partsOf x.1 v) = idBlks η ids ∧ liveIds φ.mem.get ids := by
  unfold resultAt at h
  split at h
  · rename_i t
    split at h
    · rename_i r hr
      have hv := getD_tm hI hr (by intro h; cases h)
      exact ⟨_, rfl, rvOf_is hI.mem h hv⟩
    · cases h
  · rename_i t T
    split at h
    · rename_i id off hr
      have hv := getD_tm hI hr (by intro h; cases h)
      split at h
      · rename_i ls hid
        simp only [Option.bind_eq_some_iff] at h
        obtain ⟨r, hcut, hrv⟩ := h
        obtain ⟨hd, b, hη, hv⟩ := hv
        obtain ⟨b', T', cs, hη', hb, hf, _⟩ := hI.mem.chunk id _ hid
        have hbb : b' = b := by rw [hη] at hη'; simpa using hη'.symm
        subst hbb
        obtain ⟨v, hrun, hreg⟩ := run_loadVar_cut (P := P) hΔ hcut hf (cell_of_box hb)
        rw [Nat.zero_add] at hrun
        refine ⟨v, ?_, rvOf_is hI.mem hrv hreg⟩
        simp [readResult, hv, asAddr, hrun]
      · cases h
    · cases h
theorem resultsAt_is (hΔ : TysOk P Δ) {φ : AS} (hI : InvX w0 M S0 φ.tm φ.mem.get η S a w) : ∀ {rs : List ResultVar} {xs : List RV} {ids : List Nat}, resultsAt Δ φ rs = some (xs, ids) →
    ∃ vs, (rs.mapM (readResult a.tmps)).run P w = .ok vs w ∧ F2 (RVR w S (fun k => w0.heap.size ≤ k ∨ M k)) xs vs ∧ ownT xs vs = idBlks η ids ∧ liveIds φ.mem.get ids
  | [], xs, ids, h => by
    simp only [resultsAt, Option.some.injEq, Prod.mk.injEq] at h
    obtain ⟨rfl, rfl⟩ := h
    exact ⟨[], rfl, .nil, by simp [ownT, idBlks], fun id hid => by simp at hid⟩
  | r :: rs, xs, ids, h => by
    simp only [resultsAt, Option.bind_eq_some_iff, Option.some.injEq, Prod.mk.injEq] at h
    obtain ⟨p, h1, q, h2, rfl, rfl⟩ := h
    obtain ⟨v, a0, a1, a2, a3⟩ := resultAt_is hΔ hI (show resultAt Δ φ r = some (p.1, p.2) from h1)
    obtain ⟨vs, b0, b1, b2, b3⟩ := resultsAt_is hΔ hI (show resultsAt Δ φ rs = some (q.1, q.2) from h2)
    refine ⟨v :: vs, ?_, .cons a1 b1, ?_, liveIds_append a3 b3⟩
    · simp [List.mapM_cons, a0, b0]
    · rw [idBlks_append, ← a2, ← b2]
      rfl
theorem run_results {fn : Func} {tmps : Array Value} {vs : List Value} (h : (fn.results.toList.mapM (readResult tmps)).run P w = .ok vs w) :
    (results fn tmps).run P w = .ok (match vs with | [v] => v | _ => .tuple vs.toArray) w := by
  have e : results fn tmps = (do let vs ← fn.results.mapM (readResult tmps); pure (if h : vs.size = 1 then vs[0] else .tuple vs)) := by
    unfold results
    congr 1
  rw [e, Array.mapM_eq_mapM_toList]
  simp only [Sem.run_bind, Sem.run_map, h, Result.andThen_ok, Sem.run_pure]
  congr 1
  match vs with
  | [] => rfl
  | [v] => rfl
  | _ :: _ :: _ => simp
theorem boxesAt_is (hM : InvM w0 M S0 μ η S w) {φ : AS} (hμ : φ.mem.get = μ) : ∀ {zs : List Nat} {bs : List Nat} {ls : List (List Part)} {ids : List Nat} (_ : boxesAt φ zs = some (ls, ids)) (_ : F2 (fun z b => η z = .pointer (some ⟨b, 0, none⟩)) zs bs),
    F2 (fun l b => ∃ T cs, w.heap[b]? = some (.cells cs T (0, 0)) ∧ F2 (PartR w S (fun k => w0.heap.size ≤ k ∨ M k)) l cs.toList) ls bs ∧ ownB w ls bs = idBlks η ids ∧ liveIds μ ids ∧ (∀ b ∈ bs, ¬ S b) ∧ ∀ b ∈ bs, ∃ id ls, μ id = some (.box ls) ∧ blk (η id) = some b ∧ id ∈ zs
  | [], bs, ls, ids, h, hz => by
    simp only [boxesAt, Option.some.injEq, Prod.mk.injEq] at h
    obtain ⟨rfl, rfl⟩ := h
    cases hz
    exact ⟨.nil, by simp [ownB, idBlks], fun id hid => by simp at hid, fun b hb => by simp at hb, fun b hb => by simp at hb⟩
  | z :: zs, b :: bs, ls, ids, h, .cons hz hzs => by
    simp only [boxesAt, Option.bind_eq_some_iff, Option.some.injEq, Prod.mk.injEq] at h
    obtain ⟨p, h1, q, h2, rfl, rfl⟩ := h
    unfold boxAt at h1
    split at h1
    · rename_i l hl
      rw [hμ] at hl h1
      obtain ⟨b', T, cs, e1, e2, e3, e4, e5, e6⟩ := hM.chunk z _ hl
      have hbb : b' = b := by rw [hz] at e1; simpa using e1.symm
      subst hbb
      obtain ⟨a1, a2, a3⟩ := partsOfL_is hM (show partsOfL μ l = some (p.1, p.2) from h1) e3
      obtain ⟨b1, b2, b3, b4, b5⟩ := boxesAt_is hM hμ (show boxesAt φ zs = some (q.1, q.2) from h2) hzs
      have hcells : cellsAt w b' = cs.toList := by simp [cellsAt, e2]
      refine ⟨.cons ⟨T, cs, e2, a1⟩ b1, ?_, liveIds_append a3 b3, fun k hk => ?_, fun k hk => ?_⟩
      · simp only [ownB, hcells]
        rw [a2, b2, idBlks_append]
      · rcases List.mem_cons.1 hk with rfl | hk
        · exact e5
        · exact b4 k hk
      · rcases List.mem_cons.1 hk with rfl | hk
        · exact ⟨z, l, hl, by simp [hz, blk], by simp⟩
        · obtain ⟨i', l', e1, e2, e3⟩ := b5 k hk
          exact ⟨i', l', e1, e2, List.mem_cons_of_mem _ e3⟩
    · cases h1
theorem PartR_on {ok ok' : Nat → Prop} {p : Part} {v : Value} (hp : PartR w S ok p v) (h : ∀ k ∈ ownBlks [p] [v], ok' k) : PartR w S ok' p v := by
  match p, hp, h with
  | (none, x), hp, _ => exact hp
  | (some e, ⟨.slice t, xs⟩), ⟨cells, h1, h2, h3⟩, h => exact ⟨cells, h1, h2, fun k hk => ⟨(h3 k hk).1, h k (by simp [ownBlks, hk])⟩⟩
theorem parts_on {ok ok' : Nat → Prop} : ∀ {ps : List Part} {vs : List Value}, F2 (PartR w S ok) ps vs → (∀ k ∈ ownBlks ps vs, ok' k) → F2 (PartR w S ok') ps vs
  | [], _, .nil, _ => .nil
  | p :: ps, v :: vs, .cons h1 h2, h => by
    rw [ownBlks_cons] at h
    exact .cons (PartR_on h1 fun k hk => h k (List.mem_append_left _ hk)) (parts_on h2 fun k hk => h k (List.mem_append_right _ hk))
theorem rvs_on {ok ok' : Nat → Prop} : ∀ {xs : List RV} {vs : List Value}, F2 (RVR w S ok) xs vs → (∀ k ∈ ownT xs vs, ok' k) → F2 (RVR w S ok') xs vs
  | [], _, .nil, _ => .nil
  | x :: xs, v :: vs, .cons h1 h2, h => by
    simp only [ownT, List.mem_append] at h
    exact .cons ⟨h1.1, parts_on h1.2 fun k hk => h k (.inl hk)⟩ (rvs_on h2 fun k hk => h k (.inr hk))
theorem boxes_on {ok ok' : Nat → Prop} : ∀ {ls : List (List Part)} {bs : List Nat}, F2 (fun l b => ∃ T cs, w.heap[b]? = some (.cells cs T (0, 0)) ∧ F2 (PartR w S ok) l cs.toList) ls bs → (∀ k ∈ ownB w ls bs, ok' k) →
    F2 (fun l b => ∃ T cs, w.heap[b]? = some (.cells cs T (0, 0)) ∧ F2 (PartR w S ok') l cs.toList) ls bs
  | [], _, .nil, _ => .nil
  | l :: ls, b :: bs, .cons ⟨T, cs, h1, h2⟩ h3, h => by
    have hcells : cellsAt w b = cs.toList := by simp [cellsAt, h1]
    simp only [ownB, hcells, List.mem_append] at h
    exact .cons ⟨T, cs, h1, parts_on h2 fun k hk => h k (.inl hk)⟩ (boxes_on h3 fun k hk => h k (.inr hk))
theorem ret_rows (hΔ : TysOk P Δ) {fn : Func} {bs : List Nat} {r : Res} {φ : AS} (hI : Inv ((List.range bs.length).zip (bs.map fun b => .pointer (some ⟨b, 0, none⟩))) w0 (· ∈ bs) S0 φ.tm φ.mem.get a w)
    (h : ((resultsAt Δ φ fn.results.toList).bind fun p => (boxesAt φ (List.range bs.length)).bind fun q =>
      if nodupB (p.2 ++ q.2) = true then some (⟨match p.1 with | [x] => .val x | l => .tup l, q.1⟩ : Res) else none) = some r) : a.defers = [] ∧ ∃ v, (results fn a.tmps).run P w = .ok v w ∧ Back w0 S0 bs r v w := by
  obtain ⟨η, S, hI, hZ⟩ := hI
  simp only [Option.bind_eq_some_iff] at h
  obtain ⟨p, hp, q, hq, h⟩ := h
  split at h
  · rename_i hnod
    simp only [Option.some.injEq] at h
    obtain ⟨vs, h0, h1, h2, h3⟩ := resultsAt_is hΔ hI (show resultsAt Δ φ fn.results.toList = some (p.1, p.2) from hp)
    have hzs : F2 (fun z b => η z = .pointer (some ⟨b, 0, none⟩)) (List.range bs.length) bs := by
      have : ∀ (zs bs' : List Nat), zs.length = bs'.length → (∀ z ∈ zs.zip (bs'.map fun b => Value.pointer (some ⟨b, 0, none⟩)), η z.1 = z.2) → F2 (fun z b => η z = .pointer (some ⟨b, 0, none⟩)) zs bs' := by
        intro zs
        induction zs with
        | nil => intro bs' hl _; cases bs' with | nil => exact .nil | cons _ _ => simp at hl
        | cons z zs ih =>
          intro bs' hl hall
          cases bs' with
          | nil => simp at hl
          | cons b bs' =>
            exact .cons (hall (z, _) (by simp)) (ih bs' (by simpa using hl) fun y hy => hall y (by simp only [List.map_cons, List.zip_cons_cons, List.mem_cons]; exact .inr hy))
      exact this _ _ (by simp) fun z hz => (hZ z hz).2
    obtain ⟨b1, b2, b3, b4, b5⟩ := boxesAt_is hI.mem rfl (show boxesAt φ (List.range bs.length) = some (q.1, q.2) from hq) hzs
    have hnd := idBlks_nodup hI.mem (nodupB_is hnod) (liveIds_append h3 b3)
    rw [idBlks_append, ← h2, ← b2] at hnd
    -- rows that go out are new
    have hnew : ∀ k ∈ idBlks η (p.2 ++ q.2), w0.heap.size ≤ k := by
      intro k hk
      obtain ⟨id, hid, hkid⟩ := List.mem_flatMap.1 hk
      simp only [Option.mem_toList, Option.mem_def] at hkid
      obtain ⟨c, c1, c2, c3⟩ := liveIds_append h3 b3 id hid
      rcases (live_blk hI.mem c1 c2 hkid).2.2 with h | h
      · exact h
      · obtain ⟨i', ls, e1, e2, _⟩ := b5 k h
        have hne : id ≠ i' := fun e => by subst e; rw [c1] at e1; cases e1; exact c3 ls rfl
        exact absurd e2 (hI.mem.apart id i' c _ k c1 e1 c2 rfl hne hkid)
    rw [idBlks_append, ← h2, ← b2] at hnew
    have hfrom : ∀ b, S b → S0 b ∨ w0.heap.size ≤ b := by
      intro b hb
      rcases hI.mem.from_ b hb with h | h | h
      · exact .inl h
      · exact .inr h
      · exact absurd hb (b4 b h)
    have houts := rvs_on (ok' := fun k => w0.heap.size ≤ k) h1 fun k hk => hnew k (List.mem_append_left _ hk)
    have hboxes := boxes_on (ok' := fun k => w0.heap.size ≤ k) b1 fun k hk => hnew k (List.mem_append_right _ hk)
    refine ⟨hI.noDefers, _, run_results h0, S, ?_⟩
    subst h
    obtain ⟨xs, ids⟩ := p
    refine ⟨hI.mem.frame, hI.mem.sub, hI.mem.lt, hfrom, ?_, hboxes, ?_⟩
    · match xs, vs, houts with
      | [], [], _ => exact ⟨#[], rfl, .nil⟩
      | [x], [v], .cons h _ => exact h
      | x :: y :: xs, v :: u :: vs, hh => exact ⟨_, rfl, by simpa using hh⟩
    · match xs, vs, houts, hnd with
      | [], [], _, hnd => simpa [ownOut] using hnd
      | [x], [v], _, hnd => simpa [ownOut, ownT] using hnd
      | x :: y :: xs, v :: u :: vs, _, hnd => simpa [ownOut] using hnd
  · cases h
theorem datsOf_is {Dm : Nat → Prop} : ∀ {ls : List Leaf} {l : List D} {cs : List Value}, datsOf ls = some l → F2 (LR w S Dm η) ls cs → F2 (fun (x : D) u => CR w S x.t [u] x.d) l cs
  | [], l, cs, h, hf => by
    simp only [datsOf, Option.some.injEq] at h
    subst h
    cases hf
    exact .nil
  | .dat x :: ls, l, c :: cs, h, .cons h1 h2 => by
    simp only [datsOf, Option.map_eq_some_iff] at h
    obtain ⟨l', h3, rfl⟩ := h
    exact .cons h1 (datsOf_is h3 h2)
  | .own _ :: _, _, _, h, _ => by simp [datsOf] at h
  | .ptr _ _ :: _, _, _, h, _ => by simp [datsOf] at h
  | .elt _ _ _ _ :: _, _, _, h, _ => by simp [datsOf] at h
  | .dpt _ _ :: _, _, _, h, _ => by simp [datsOf] at h
  | .nils :: _, _, _, h, _ => by simp [datsOf] at h
  | .cl _ :: _, _, _, h, _ => by simp [datsOf] at h
  | .kn _ _ :: _, _, _, h, _ => by simp [datsOf] at h
  | .nilp :: _, _, _, h, _ => by simp [datsOf] at h
  | .fn _ _ :: _, _, _, h, _ => by simp [datsOf] at h
  | .any :: _, _, _, h, _ => by simp [datsOf] at h
theorem ptrAt_is {zs : List Nat} {φ : AS} {rs : List ResultVar} {l : List D} {id : Nat} (h : ptrAt zs φ rs = some (l, id)) :
    ∃ t ls, rs = [.tmp t] ∧ φ.tm.getD t .any = .val (false, [.ptr id 0]) ∧ φ.mem.get id = some (.box ls) ∧ id ∉ zs ∧ datsOf ls = some l := by
  unfold ptrAt at h
  split at h
  · rename_i t
    split at h
    · rename_i id' h1
      split at h
      · rename_i ls h2
        split at h
        · cases h
        · rename_i h3
          simp only [Option.map_eq_some_iff, Prod.mk.injEq] at h
          obtain ⟨l', h4, rfl, rfl⟩ := h
          exact ⟨t, ls, rfl, h1, h2, by simpa using h3, h4⟩
      · cases h
    · cases h
  · cases h
theorem ret_ptr {fn : Func} {bs : List Nat} {r : Res} {φ : AS} (hI : Inv ((List.range bs.length).zip (bs.map fun b => .pointer (some ⟨b, 0, none⟩))) w0 (· ∈ bs) S0 φ.tm φ.mem.get a w)
    {l : List D} {id : Nat} (hp : ptrAt (List.range bs.length) φ fn.results.toList = some (l, id))
    (h : ((boxesAt φ (List.range bs.length)).bind fun q => if nodupB (id :: q.2) = true then some (⟨.ptr l, q.1⟩ : Res) else none) = some r) : a.defers = [] ∧ ∃ v, (results fn a.tmps).run P w = .ok v w ∧ Back w0 S0 bs r v w := by
  obtain ⟨η, S, hI, hZ⟩ := hI
  simp only [Option.bind_eq_some_iff] at h
  obtain ⟨q, hq, h⟩ := h
  obtain ⟨t, ls, hrs, htm, hid, hnz, hls⟩ := ptrAt_is hp
  split at h
  · rename_i hnod
    simp only [Option.some.injEq] at h
    have hv := getD_tm hI htm (by intro h; cases h)
    have hv : dom φ.mem.get id ∧ ∃ b, η id = .pointer (some ⟨b, 0, none⟩) ∧ a.tmps.getD t undef = .pointer (some ⟨b, 0, none⟩) := hv
    obtain ⟨_, b, hη, hvv⟩ := hv
    have h0 : (fn.results.toList.mapM (readResult a.tmps)).run P w = .ok [a.tmps.getD t undef] w := by
      rw [hrs]; simp [List.mapM_cons, readResult]
    have hzs : F2 (fun z b => η z = .pointer (some ⟨b, 0, none⟩)) (List.range bs.length) bs := by
      have : ∀ (zs bs' : List Nat), zs.length = bs'.length → (∀ z ∈ zs.zip (bs'.map fun b => Value.pointer (some ⟨b, 0, none⟩)), η z.1 = z.2) → F2 (fun z b => η z = .pointer (some ⟨b, 0, none⟩)) zs bs' := by
        intro zs
        induction zs with
        | nil => intro bs' hl _; cases bs' with | nil => exact .nil | cons _ _ => simp at hl
        | cons z zs ih =>
          intro bs' hl hall
          cases bs' with
          | nil => simp at hl
          | cons b bs' =>
            exact .cons (hall (z, _) (by simp)) (ih bs' (by simpa using hl) fun y hy => hall y (by simp only [List.map_cons, List.zip_cons_cons, List.mem_cons]; exact .inr hy))
      exact this _ _ (by simp) fun z hz => (hZ z hz).2
    obtain ⟨b1, b2, b3, b4, b5⟩ := boxesAt_is hI.mem rfl (show boxesAt φ (List.range bs.length) = some (q.1, q.2) from hq) hzs
    obtain ⟨b', T, cs, hη', hb, hf, _, hSb, hnew⟩ := hI.mem.chunk id _ hid
    have hbb : b' = b := by rw [hη] at hη'; simpa using hη'.symm
    subst hbb
    have hnb : w0.heap.size ≤ b' := by
      rcases hnew with h | h
      · exact h
      · obtain ⟨i', ls', e1, e2, e3⟩ := b5 b' h
        have hne : id ≠ i' := fun e => hnz (e ▸ e3)
        exact absurd e2 (hI.mem.apart id i' _ _ b' hid e1 rfl rfl hne (by simp [hη, blk]))
    have hnd2 := nodupB_is hnod
    rw [List.nodup_cons] at hnd2
    have hrows : ∀ k ∈ idBlks η q.2, w0.heap.size ≤ k := by
      intro k hk
      obtain ⟨i, hi, hki⟩ := List.mem_flatMap.1 hk
      simp only [Option.mem_toList, Option.mem_def] at hki
      obtain ⟨c, c1, c2, c3⟩ := b3 i hi
      rcases (live_blk hI.mem c1 c2 hki).2.2 with h | h
      · exact h
      · obtain ⟨i', ls', e1, e2, _⟩ := b5 k h
        have hne : i ≠ i' := fun e => by subst e; rw [c1] at e1; cases e1; exact c3 ls' rfl
        exact absurd e2 (hI.mem.apart i i' c _ k c1 e1 c2 rfl hne hki)
    have hapart : b' ∉ idBlks η q.2 := by
      intro hk
      obtain ⟨i, hi, hki⟩ := List.mem_flatMap.1 hk
      simp only [Option.mem_toList, Option.mem_def] at hki
      obtain ⟨c, c1, c2, c3⟩ := b3 i hi
      have hne : i ≠ id := fun e => by subst e; rw [c1] at hid; cases hid; exact c3 ls rfl
      exact absurd (show blk (η id) = some b' by simp [hη, blk]) (hI.mem.apart i id c _ b' c1 hid c2 rfl hne hki)
    have hfrom : ∀ b, S b → S0 b ∨ w0.heap.size ≤ b := by
      intro b hb
      rcases hI.mem.from_ b hb with h | h | h
      · exact .inl h
      · exact .inr h
      · exact absurd hb (b4 b h)
    have hboxes := boxes_on (ok' := fun k => w0.heap.size ≤ k) b1 fun k hk => hrows k (b2 ▸ hk)
    refine ⟨hI.noDefers, _, run_results h0, S, ?_⟩
    subst h
    refine ⟨hI.mem.frame, hI.mem.sub, hI.mem.lt, hfrom, ?_, hboxes, ?_⟩
    · exact ⟨b', T, cs, hvv, hb, datsOf_is hls hf, hSb, hnb⟩
    · show (ownOut (.ptr l) (a.tmps.getD t undef) ++ ownB w q.1 bs).Nodup
      rw [hvv, b2]
      show (b' :: idBlks η q.2).Nodup
      exact List.nodup_cons.2 ⟨hapart, idBlks_nodup hI.mem hnd2.2 b3⟩
  · cases h
/-- What a function's end hands back. -/
theorem ret_is (hΔ : TysOk P Δ) {fn : Func} {bs : List Nat} {r : Res} {φ : AS} (hI : Inv ((List.range bs.length).zip (bs.map fun b => .pointer (some ⟨b, 0, none⟩))) w0 (· ∈ bs) S0 φ.tm φ.mem.get a w)
    (h : retAt Δ fn.results.toList (List.range bs.length) φ = some r) : a.defers = [] ∧ ∃ v, (results fn a.tmps).run P w = .ok v w ∧ Back w0 S0 bs r v w := by
  unfold retAt at h
  split at h
  · rename_i l id hp
    exact ret_ptr hI hp h
  · exact ret_rows hΔ hI h
/-- A call of a function, by the interpreter's run of its body. -/
theorem calls_of_exec (hmix : P.follows .mixedOrders = true) (hΔ : TysOk P Δ) (hΓ : EnvOk P Γ) {Λ : Nat → Option LoopSpec} {f : FuncId} {fn : Func} {code : Code} (hf : P.funcs[f]? = some fn) (hb : fn.body = some code)
    {as : List Arg} {r : Res} (hex : execF Δ Γ Λ code fn.results fn.ntmps as = some r) {w : World} {S : Nat → Prop} {vs : Array Value} (hS : ∀ b, S b → b < w.heap.size) (hargs : F2 (ArgR w S) as vs.toList)
    {bs : List Nat} (hbs : boxBlks as vs.toList = bs) (hnd : bs.Nodup) (hnS : ∀ b ∈ bs, ¬ S b) : Calls P f vs w (fun e w' => ∃ v, e = .returned v ∧ Back w S bs r v w') := by
    refine calls_of_wp hf hb ?_
    let η : Nat → Value := fun i => match bs[i]? with | some b => .pointer (some ⟨b, 0, none⟩) | none => undef
    have hη : ∀ j b, bs[j]? = some b → η j = .pointer (some ⟨b, 0, none⟩) := fun j b hj => by simp [η, hj]
    let Dm : Nat → Prop := dom (Mem.get (enterArgs 0 as).2)
    have hent0 : ∀ (Dm : Nat → Prop), (∀ j b, bs[j]? = some b → Dm j) → _ := fun Dm hd => enter_is (w := w) (S := S) (η := η) (Dm := Dm) (n := 0) hargs (fun j b hj => by
      rw [hbs] at hj
      rw [Nat.zero_add]
      exact ⟨hη j b hj, hd j b hj⟩)
    obtain ⟨_, e2, _, e4⟩ := hent0 (fun _ => True) (fun _ _ _ => trivial)
    rw [hbs] at e2 e4
    have hdm : ∀ j b, bs[j]? = some b → Dm j := fun j b hj => by have := e4 j b hj; rwa [Nat.zero_add] at this
    obtain ⟨e1, _, e3, _⟩ := hent0 Dm hdm
    rw [hbs] at e3
    have hlen : (enterArgs 0 as).1.length = vs.size := by rw [e1.length]; simp
    have hlenas : as.length = vs.size := by rw [hargs.length]; simp
    have hI : Inv ((List.range bs.length).zip (bs.map fun b => .pointer (some ⟨b, 0, none⟩))) w (· ∈ bs) S ((enterArgs 0 as).1 ++ List.replicate (fn.ntmps - as.length) .any) (Mem.get (enterArgs 0 as).2)
        { tmps := vs ++ Array.replicate (fn.ntmps - vs.size) undef, defers := [] } w := by
      refine ⟨η, S, ⟨⟨Frame0.refl _ w, fun _ h => h, hS, fun b hb => .inl hb, fun id c hg => ?_, fun i j ci cj k hi hj hli hlj hij hki hkj => ?_⟩, ?_, fun t x ht => ?_, rfl⟩, fun z hz => ?_⟩
      · obtain ⟨j, b, ls, T, cs, rfl, q2, rfl, q4, q5, q6⟩ := e3 id c hg
        rw [Nat.zero_add]
        exact ⟨b, T, cs, hη j b q2, q4, q5, q6, hnS b (List.mem_of_getElem? q2), .inr (List.mem_of_getElem? q2)⟩
      · obtain ⟨j1, b1, _, _, _, rfl, q2, _⟩ := e3 i ci hi
        obtain ⟨j2, b2, _, _, _, rfl, q4, _⟩ := e3 j cj hj
        rw [Nat.zero_add] at hki hkj
        rw [hη j1 b1 q2] at hki
        rw [hη j2 b2 q4] at hkj
        simp only [blk, Option.some.injEq] at hki hkj
        subst hki
        subst hkj
        obtain ⟨l1, g1⟩ := List.getElem?_eq_some_iff.1 q2
        obtain ⟨l2, g2⟩ := List.getElem?_eq_some_iff.1 q4
        have := (List.getElem_inj (h₀ := l1) (h₁ := l2) hnd).1 (g1.trans g2.symm)
        exact hij (by rw [this])
      · simp [hlen, hlenas]
      · rw [Array.getD_eq_getD_getElem?, Array.getElem?_append]
        rw [List.getElem?_append] at ht
        rw [hlen] at ht
        split at ht
        · rename_i hlt
          rw [if_pos hlt]
          obtain ⟨v, g1, g2⟩ := e1.get t x ht
          rw [Array.getElem?_toList] at g1
          rw [g1]; exact g2
        · rw [List.getElem?_replicate] at ht
          split at ht
          · simp only [Option.some.injEq] at ht
            subst ht
            trivial
          · cases ht
      · obtain ⟨i, hi⟩ := List.getElem?_of_mem hz
        rw [List.getElem?_zip_eq_some] at hi
        obtain ⟨h1, h2⟩ := hi
        rw [List.getElem?_range (by
          have := (List.getElem?_eq_some_iff.1 h1).1
          simpa using this)] at h1
        simp only [Option.some.injEq] at h1
        rw [List.getElem?_map, Option.map_eq_some_iff] at h2
        obtain ⟨b, g1, g2⟩ := h2
        rw [← h1, ← g2]
        exact ⟨hdm i b g1, hη i b g1⟩
    have hz : ∀ z ∈ (List.range bs.length).zip (bs.map fun b => Value.pointer (some ⟨b, 0, none⟩)), z.1 ∈ List.range (boxCount as) := fun z hz => by
      rw [e2]
      exact (List.of_mem_zip (a := z.1) (b := z.2) hz).1
    refine wp_mono (exec_sound (Λ := Λ) hmix hΔ hΓ hz code 0 _ _ _ w hex hI) fun e a' w' hp => ?_
    have hret : ∀ (φ : AS), Inv ((List.range bs.length).zip (bs.map fun b => .pointer (some ⟨b, 0, none⟩))) w (· ∈ bs) S φ.tm φ.mem.get a' w' → retAt Δ fn.results.toList (List.range (boxCount as)) φ = some r →
        a'.defers = [] ∧ ∃ v, (results fn a'.tmps).run P w' = .ok v w' ∧ ∃ v', Ending.returned v = .returned v' ∧ Back w S bs r v' w' := fun φ hIφ hr => by
      rw [e2] at hr
      obtain ⟨g1, v, g2, g3⟩ := ret_is hΔ hIφ hr
      exact ⟨g1, v, g2, v, rfl, g3⟩
    cases e with
    | normal => obtain ⟨φ, hIφ, hr⟩ := hp; exact hret φ hIφ hr
    | ret => obtain ⟨φ, hIφ, hr⟩ := hp; exact hret φ hIφ hr
    | panic c => exact hp.elim
    | outgrown => exact hp.elim
    | exit i => obtain ⟨φ, _, hr⟩ := hp; simp [retK] at hr
    | goto l => obtain ⟨φ, _, hr⟩ := hp; simp [retK] at hr
/-- A call whose arguments are known more closely. -/
theorem calls_of_avs (hmix : P.follows .mixedOrders = true) (hΔ : TysOk P Δ) (hΓ : EnvOk P Γ) {Λ : Nat → Option LoopSpec} {f : FuncId} {fn : Func} {code : Code} (hf : P.funcs[f]? = some fn) (hb : fn.body = some code)
    {avs : List AV} {r : Res} (hex : exec Δ Γ Λ [] 0 code ⟨avs ++ List.replicate (fn.ntmps - avs.length) .any, []⟩ (retK Δ fn.results.toList []) = some r) {w : World} {S : Nat → Prop} {vs : Array Value} (hS : ∀ b, S b → b < w.heap.size)
    (hargs : F2 (AVR w S (dom (Mem.get [])) (fun _ => undef)) avs vs.toList) : Calls P f vs w (fun e w' => ∃ v, e = .returned v ∧ Back w S [] r v w') := by
  refine calls_of_wp hf hb ?_
  have hlen : avs.length = vs.size := by rw [hargs.length]; simp
  have hI : Inv [] w (· ∈ ([] : List Nat)) S (avs ++ List.replicate (fn.ntmps - avs.length) .any) (Mem.get []) { tmps := vs ++ Array.replicate (fn.ntmps - vs.size) undef, defers := [] } w := by
    refine ⟨fun _ => undef, S, ⟨⟨Frame0.refl _ w, fun _ h => h, hS, fun b hb => .inl hb, fun id c hg => by simp [Mem.get] at hg, fun i j ci cj k hi => by simp [Mem.get] at hi⟩, ?_, fun t x ht => ?_, rfl⟩, fun z hz => by simp at hz⟩
    · simp [hlen]
    · rw [Array.getD_eq_getD_getElem?, Array.getElem?_append]
      rw [List.getElem?_append, hlen] at ht
      split at ht
      · rename_i hlt
        rw [if_pos hlt]
        obtain ⟨v, g1, g2⟩ := hargs.get t x ht
        rw [Array.getElem?_toList] at g1
        rw [g1]; exact g2
      · rw [List.getElem?_replicate] at ht
        split at ht
        · simp only [Option.some.injEq] at ht
          subst ht
          trivial
        · cases ht
  refine wp_mono (exec_sound (Z := []) (Λ := Λ) hmix hΔ hΓ (by simp) code 0 _ _ _ w hex hI) fun e a' w' hp => ?_
  have hret : ∀ (φ : AS), Inv [] w (· ∈ ([] : List Nat)) S φ.tm φ.mem.get a' w' → retAt Δ fn.results.toList [] φ = some r →
      a'.defers = [] ∧ ∃ v, (results fn a'.tmps).run P w' = .ok v w' ∧ ∃ v', Ending.returned v = .returned v' ∧ Back w S [] r v' w' := fun φ hIφ hr => by
    obtain ⟨g1, v, g2, g3⟩ := ret_is (bs := []) hΔ hIφ hr
    exact ⟨g1, v, g2, v, rfl, g3⟩
  cases e with
  | normal => obtain ⟨φ, hIφ, hr⟩ := hp; exact hret φ hIφ hr
  | ret => obtain ⟨φ, hIφ, hr⟩ := hp; exact hret φ hIφ hr
  | panic c => exact hp.elim
  | outgrown => exact hp.elim
  | exit i => obtain ⟨φ, _, hr⟩ := hp; simp [retK] at hr
  | goto l => obtain ⟨φ, _, hr⟩ := hp; simp [retK] at hr
/-- A function of one slice that asks whether it is nil: the same answer either way. -/
theorem callOk_nilness (hmix : P.follows .mixedOrders = true) (hΔ : TysOk P Δ) (hΓ : EnvOk P Γ) {Λ : Nat → Option LoopSpec} {f : FuncId} {fn : Func} {code : Code} (hf : P.funcs[f]? = some fn) (hb : fn.body = some code)
    (hname : (fn.name == "runtime.NumGoroutine") = false) {G : Spec} (h : ∀ as c dc r, G as = .yes c dc r → c → ∃ t xs, as = [.val (false, [(none, ⟨.slice t, xs⟩)])] ∧
      (xs = [] → exec Δ Γ Λ [] 0 code ⟨lv (.kn ⟨.slice t, []⟩ true) :: List.replicate (fn.ntmps - 1) .any, []⟩ (retK Δ fn.results.toList []) = some r) ∧
      exec Δ Γ Λ [] 0 code ⟨lv (.kn ⟨.slice t, xs⟩ false) :: List.replicate (fn.ntmps - 1) .any, []⟩ (retK Δ fn.results.toList []) = some r) : CallOk P f G := by
  intro as c dc r hG hc w S vs hS hargs hnd hnS
  obtain ⟨t, xs, rfl, h1, h2⟩ := h as c dc r hG hc
  have hn : fn.name ≠ "runtime.NumGoroutine" := by simpa using hname
  intro o a next Q hnext
  have hcf : (callFunc f vs).run P w = .ok (.enter f vs) w := by simp [callFunc, hf, hn, hb]
  rw [hcf, Oper.upon_enter]
  obtain ⟨v, hvs, hcr⟩ : ∃ v, vs.toList = [v] ∧ CR w S (.slice t) [v] xs := by
    generalize vs.toList = l at hargs
    cases hargs with
    | cons a b =>
      cases b
      rename_i v
      refine ⟨v, rfl, ?_⟩
      obtain ⟨_, h4⟩ := a
      cases h4 with
      | cons c d => exact c.2
  have hbs : boxBlks [.val (false, [(none, (⟨.slice t, xs⟩ : D))])] vs.toList = [] := by rw [hvs]; rfl
  obtain ⟨A, n, hv, hle, hmx, hrow⟩ := hcr
  simp only [List.cons.injEq, and_true] at hv
  have hback : Calls P f vs w (fun e w' => ∃ v, e = .returned v ∧ Back w S [] r v w') := by
    cases hA : A.isNone with
    | true =>
      have hx : xs = [] := by
        cases xs with
        | nil => rfl
        | cons x l =>
          obtain ⟨b, oo, cs, hA', _⟩ := hrow 0 x rfl
          rw [hA'] at hA; cases hA
      subst hx
      refine calls_of_avs (avs := [lv (.kn ⟨.slice t, []⟩ true)]) hmix hΔ hΓ hf hb (h1 rfl) hS ?_
      rw [hvs]
      exact .cons ⟨⟨A, n, by rw [hv], hle, hmx, hrow⟩, A, _, n, hv, hA⟩ .nil
    | false =>
      refine calls_of_avs (avs := [lv (.kn ⟨.slice t, xs⟩ false)]) hmix hΔ hΓ hf hb h2 hS ?_
      rw [hvs]
      exact .cons ⟨⟨A, n, by rw [hv], hle, hmx, hrow⟩, A, _, n, hv, hA⟩ .nil
  refine hback.mono fun e w' he => ?_
  obtain ⟨v', rfl, hback⟩ := he
  exact hnext v' w' (by rw [hbs]; exact hback)
/-- A CONTRACT: what the interpreter's run of the body comes to is what the function's calls come to. -/
theorem callOk_of_exec (hmix : P.follows .mixedOrders = true) (hΔ : TysOk P Δ) (hΓ : EnvOk P Γ) {Λ : Nat → Option LoopSpec} {f : FuncId} {fn : Func} {code : Code} (hf : P.funcs[f]? = some fn) (hb : fn.body = some code)
    (hname : (fn.name == "runtime.NumGoroutine") = false) {G : Spec} (h : ∀ as c dc r, G as = .yes c dc r → c → execF Δ Γ Λ code fn.results fn.ntmps as = some (r.full as)) : CallOk P f G := by
  intro as c dc r hG hc w S vs hS hargs hnd hnS
  have hex := h as c dc r hG hc
  have hn : fn.name ≠ "runtime.NumGoroutine" := by simpa using hname
  intro o a next Q hnext
  have hcf : (callFunc f vs).run P w = .ok (.enter f vs) w := by simp [callFunc, hf, hn, hb]
  rw [hcf, Oper.upon_enter]
  refine (calls_of_exec hmix hΔ hΓ hf hb hex hS hargs rfl hnd hnS).mono fun e w' he => ?_
  obtain ⟨v, rfl, hback⟩ := he
  exact hnext v w' hback
/-- A law's call: it answers 'true' and changes nothing that was there. -/
theorem law_of_exec (hmix : P.follows .mixedOrders = true) (hΔ : TysOk P Δ) (hΓ : EnvOk P Γ) {Λ : Nat → Option LoopSpec} {f : FuncId} {fn : Func} {code : Code} (hf : P.funcs[f]? = some fn) (hb : fn.body = some code)
    {as : List Arg} (hex : execF Δ Γ Λ code fn.results fn.ntmps as = some ⟨.val (false, [(none, ⟨.bool, true⟩)]), []⟩) {w : World} {S : Nat → Prop} {vs : Array Value} (hS : ∀ b, S b → b < w.heap.size) (hargs : F2 (ArgR w S) as vs.toList)
    (hbs : boxBlks as vs.toList = []) : Calls P f vs w (fun e w' => e = .returned (.bool true) ∧ Below w.heap.size w w') := by
  refine (calls_of_exec hmix hΔ hΓ hf hb hex hS hargs hbs .nil (fun b hb => by simp at hb)).mono fun e w' he => ?_
  obtain ⟨v, rfl, S', hback⟩ := he
  have hv : v = .bool true := by
    obtain ⟨_, h2⟩ := hback.out
    cases h2 with
    | cons h3 _ => simpa [PartR, CR] using h3
  subst hv
  exact ⟨rfl, hback.frame.os, hback.frame.tape, hback.frame.output, hback.frame.size, fun k hk => hback.frame.block k hk (by simp)⟩
theorem int_arg {w : World} {S : Nat → Prop} (k : IntKind) (n : Int) : ArgR w S (.val (false, [(none, ⟨.int k, n⟩)])) (.int k n) := ⟨fun h => by simp at h, .cons ⟨rfl, rfl⟩ .nil⟩
theorem bool_arg {w : World} {S : Nat → Prop} (b : Bool) : ArgR w S (.val (false, [(none, ⟨.bool, b⟩)])) (.bool b) := ⟨fun h => by simp at h, .cons ⟨rfl, rfl⟩ .nil⟩
theorem str_arg {w : World} {S : Nat → Prop} (b : ByteArray) : ArgR w S (.val (false, [(none, ⟨.str, b⟩)])) (.string b) := ⟨fun h => by simp at h, .cons ⟨rfl, rfl⟩ .nil⟩
/-- A function without a body that only answers. -/
theorem callOk_value {f : FuncId} {G : Spec} (h : ∀ as c dc r, G as = .yes c dc r → c → ∀ (w : World) (S : Nat → Prop) (vs : Array Value), F2 (ArgR w S) as vs.toList →
    ∃ v, (callFunc f vs).run P w = .ok (.value v) w ∧ OutR w S (fun k => w.heap.size ≤ k) r.out v ∧ r.boxes = [] ∧ boxBlks as vs.toList = [] ∧ ownOut r.out v = []) : CallOk P f G := by
  intro as c dc r hG hc w S vs hS hargs hnd hnS o a next Q hnext
  obtain ⟨v, h1, h2, h3, h4, h5⟩ := h as c dc r hG hc w S vs hargs
  rw [h1, Oper.upon_value]
  have e : (r.full as).boxes = [] := by show fullB as r.boxes = []; rw [h3]; exact fullB_nil as
  refine hnext v w ⟨S, Frame0.refl _ w, fun _ h => h, hS, fun b hb => .inl hb, h2, ?_, ?_⟩
  · rw [e, h4]; exact .nil
  · rw [e, h4]; show (ownOut r.out v ++ _).Nodup; rw [h5]; exact .nil
end
end Go.Ab
