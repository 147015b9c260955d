/- The step of a call ('Ab'): what is handed in, what comes back. -/
import Derived.Test.YtlcibodnpogfhaaAbCall
set_option linter.unusedVariables false
set_option linter.unusedSimpArgs false
set_option linter.unnecessarySimpa false
namespace Go.Ab
open Go.RowKit
section
variable {P : Program} {Δ : Tys} {w0 w w' : World} {M S0 S : Nat → Prop} {tm : List AV} {μ μ' : Mu} {η η' : Nat → Value} {a : Act} {o : Oper}
theorem backs_other : ∀ (ps : List Part) (n : Nat) (μ : Mu) (i : Nat), (i < n ∨ (backs n ps).2.2 ≤ i) → muPut μ (backs n ps).2.1 i = μ i
  | [], _, _, _, _ => rfl
  | (none, _) :: ps, n, μ, i, h => backs_other ps n μ i h
  | (some _, ⟨.int _, _⟩) :: ps, n, μ, i, h => backs_other ps n μ i h
  | (some _, ⟨.bool, _⟩) :: ps, n, μ, i, h => backs_other ps n μ i h
  | (some _, ⟨.str, _⟩) :: ps, n, μ, i, h => backs_other ps n μ i h
  | (some _, ⟨.pair _ _, _⟩) :: ps, n, μ, i, h => backs_other ps n μ i h
  | (some _, ⟨.unit, _⟩) :: ps, n, μ, i, h => backs_other ps n μ i h
  | (some e, ⟨.slice t, xs⟩) :: ps, n, μ, i, h => by
    have hle := backs_le ps (n + 1)
    have h1 : i ≠ n := by
      rcases h with h | h
      · omega
      · have h : (backs (n + 1) ps).2.2 ≤ i := h
        omega
    have := backs_other ps (n + 1) (fun i => if i = n then some (.rows e t xs false) else μ i) i (by
      rcases h with h | h
      · left; omega
      · right; exact h)
    show muPut (fun i => if i = n then some (.rows e t xs false) else μ i) (backs (n + 1) ps).2.1 i = μ i
    rw [this, if_neg h1]
theorem inv_box (hM : InvM w0 M S0 μ η S w) {id b : Nat} {ls : List Leaf} {T : TypeId} {cs : Array Value} (hid : (μ id).isSome = true) (hη : η id = .pointer (some ⟨b, 0, none⟩)) (hb : w.heap[b]? = some (.cells cs T (0, 0)))
    (hf : F2 (LR w S (dom μ) η) ls cs.toList) (hp : ls.all plainLeaf = true) (hS : ¬ S b) (hbM : w0.heap.size ≤ b ∨ M b) (hap : ∀ j cj, j ≠ id → μ j = some cj → cj.live = true → blk (η j) ≠ some b) :
    InvM w0 M S0 (muPut μ [(id, .box ls)]) η S w ∧ Stay w w S S (dom μ) (dom (muPut μ [(id, .box ls)])) η η := by
  have hst : Stay w w S S (dom μ) (dom (muPut μ [(id, .box ls)])) η η := ⟨fun _ h => h, fun _ _ => rfl, dom_put _, fun _ _ => rfl⟩
  refine ⟨inv_upd hM hM.frame (Nat.le_refl _) hst fun i ci hi => ?_, hst⟩
  rw [muPut_one] at hi
  by_cases he : i = id
  · subst he
    simp only [if_true, Option.some.injEq] at hi
    subst hi
    refine .inr ⟨⟨b, T, cs, hη, hb, hf.imp fun _ _ => LR_stay hst, hp, hS, hbM⟩, fun _ k hk j cj hj hcj hlj hkj => ?_⟩
    rw [muPut_one] at hcj
    simp only [if_neg hj] at hcj
    have hkb : b = k := by simpa [hη, blk] using hk
    subst hkb
    exact hap j cj hj hcj hlj hkj
  · simp only [if_neg he] at hi
    exact .inl ⟨hi, fun _ _ _ => rfl⟩
def idsR (w0 : World) (M S : Nat → Prop) (μ : Mu) (η : Nat → Value) (id b : Nat) : Prop := μ id = some .gone ∧ η id = .pointer (some ⟨b, 0, none⟩) ∧ ¬ S b ∧ (w0.heap.size ≤ b ∨ M b)
theorem add_boxes {N : Nat} : ∀ {ids : List Nat} {ls : List (List Part)} {bs : List Nat} {n : Nat} {μ : Mu} {η : Nat → Value} {q : Mem × Nat} (_ : InvM w0 M S0 μ η S w) (_ : ∀ i, n ≤ i → i < N → μ i = none) (_ : backBoxes n ids ls = some q) (_ : q.2 ≤ N)
    (_ : F2 (BoxR w S (fun k => w0.heap.size ≤ k ∨ M k)) ls bs) (_ : F2 (idsR w0 M S μ η) ids bs) (_ : ids.Nodup)
    (_ : (ownB w ls bs ++ bs).Nodup) (_ : ∀ k ∈ ownB w ls bs ++ bs, ¬ LiveIn μ η k),
    ∃ η', Added w0 M S0 S w μ η q.1 q.2 N (ownB w ls bs ++ bs) η' ∧ n ≤ q.2
  | [], [], bs, n, μ, η, q, hM, hfree, hq, hle, hl, hi, hnd0, hnd, hap => by
    simp only [backBoxes, Option.some.injEq] at hq
    subst hq
    cases hl
    exact ⟨η, Added.zero hM hfree, Nat.le_refl _⟩
  | id :: ids, l :: ls, b :: bs, n, μ, η, q, hM, hfree, hq, hle, .cons ⟨T, cs, hb, hf⟩ hl, .cons ⟨g1, g2, g3, g4⟩ hi, hnd0, hnd, hap => by
    simp only [backBoxes, Option.map_eq_some_iff] at hq
    obtain ⟨q', hq', rfl⟩ := hq
    have hcells : cellsAt w b = cs.toList := by simp [cellsAt, hb]
    have eown : ownB w (l :: ls) (b :: bs) = ownBlks l cs.toList ++ ownB w ls bs := by simp [ownB, hcells]
    rw [eown] at hnd hap ⊢
    -- where the numbers end
    have hle' : q'.2 ≤ N := hle
    -- the numbers in between
    have hq'le : (backs n l).2.2 ≤ q'.2 := by
      have : ∀ (ids : List Nat) (ls : List (List Part)) (n : Nat) (q : Mem × Nat), backBoxes n ids ls = some q → n ≤ q.2 := by
        intro ids
        induction ids with
        | nil =>
          intro ls n q h
          cases ls with
          | nil => simp only [backBoxes, Option.some.injEq] at h; subst h; exact Nat.le_refl _
          | cons _ _ => simp [backBoxes] at h
        | cons i ids ih =>
          intro ls n q h
          cases ls with
          | nil => simp [backBoxes] at h
          | cons l ls =>
            simp only [backBoxes, Option.map_eq_some_iff] at h
            obtain ⟨q', h1, rfl⟩ := h
            exact Nat.le_trans (backs_le l n) (ih ls _ q' h1)
      exact this _ _ _ _ hq'
    have hn1 : (ownBlks l cs.toList).Nodup := by
      rw [List.append_assoc, List.nodup_append] at hnd; exact hnd.1
    obtain ⟨η1, a1, r1⟩ := add_parts (ps := l) (vs := cs.toList) (n := n) hM hfree (Nat.le_trans hq'le hle') hf hn1 (fun k hk => hap k (by simp [hk]))
    have hidout : id < n ∨ (backs n l).2.2 ≤ id := by
      rcases Nat.lt_or_ge id n with h | h
      · exact .inl h
      · rcases Nat.lt_or_ge id (backs n l).2.2 with h' | h'
        · have := hfree id h (by omega)
          rw [this] at g1; cases g1
        · exact .inr h'
    have hgone : muPut μ (backs n l).2.1 id = some .gone := by rw [backs_other l n μ id hidout]; exact g1
    have hηid : η1 id = .pointer (some ⟨b, 0, none⟩) := by rw [a1.stay.η id (by simp [dom, g1])]; exact g2
    have hbout : b ∉ ownBlks l cs.toList ∧ b ∉ ownB w ls bs ∧ b ∉ bs := by
      rw [List.append_assoc, List.nodup_append] at hnd
      obtain ⟨h1, h2, h3⟩ := hnd
      rw [List.nodup_append] at h2
      refine ⟨fun h => h3 b h b (by simp) rfl, fun h => h2.2.2 b h b (by simp) rfl, ?_⟩
      have := h2.2.1
      rw [List.nodup_cons] at this
      exact this.1
    obtain ⟨i2, s2⟩ := inv_box (ls := (backs n l).1) a1.inv (by rw [hgone]; rfl) hηid hb r1 (backs_plain l n) g3 g4 (fun j cj hj hcj hlj hkj => by
      rcases a1.live b ⟨j, cj, hcj, hlj, hkj⟩ with h | h
      · exact hap b (by simp) h
      · exact hbout.1 h)
    have a2 : Added w0 M S0 S w (muPut μ (backs n l).2.1) η1 [(id, .box (backs n l).1)] (backs n l).2.2 N [b] η1 := by
      refine ⟨i2, s2, fun i h1 h2 => ?_, fun k hk => ?_⟩
      · rw [muPut_one]
        have : i ≠ id := by
          intro e; subst e
          have := hfree i (Nat.le_trans (backs_le l n) h1) h2
          rw [this] at g1; cases g1
        simp only [if_neg this]
        exact a1.free i h1 h2
      · rcases live_put rfl (fun _ _ => rfl) hk with h | h
        · exact .inl h
        · right
          have : b = k := by simpa [hηid, blk] using h
          simp [this]
    have a12 := a1.then a2
    have hids : F2 (idsR w0 M S (muPut μ ((backs n l).2.1 ++ [(id, .box (backs n l).1)])) η1) ids bs := by
      have hmem : ∀ (ids' : List Nat) (bs' : List Nat), (∀ i ∈ ids', i ≠ id) → F2 (idsR w0 M S μ η) ids' bs' → F2 (idsR w0 M S (muPut μ ((backs n l).2.1 ++ [(id, .box (backs n l).1)])) η1) ids' bs' := by
        intro ids' bs' hne h
        induction h with
        | nil => exact .nil
        | cons hx _ ih =>
          refine .cons ?_ (ih fun i hi => hne i (List.mem_cons_of_mem _ hi))
          rename_i x y xs ys _
          obtain ⟨e1, e2, e3, e4⟩ := hx
          have hxid : x ≠ id := hne x (by simp)
          have hxout : x < n ∨ (backs n l).2.2 ≤ x := by
            rcases Nat.lt_or_ge x n with h | h
            · exact .inl h
            · rcases Nat.lt_or_ge x (backs n l).2.2 with h' | h'
              · have := hfree x h (by omega)
                rw [this] at e1; cases e1
              · exact .inr h'
          refine ⟨?_, ?_, e3, e4⟩
          · rw [muPut_append, muPut_one]
            simp only [if_neg hxid]
            rw [backs_other l n μ x hxout]; exact e1
          · rw [a1.stay.η x (by simp [dom, e1])]; exact e2
      rw [List.nodup_cons] at hnd0
      exact hmem ids bs (fun i hi e => hnd0.1 (e ▸ hi)) hi
    have hnd2 : (ownB w ls bs ++ bs).Nodup := by
      rw [List.append_assoc, List.nodup_append] at hnd
      have h2 := hnd.2.1
      rw [List.nodup_append] at h2 ⊢
      have h3 := h2.2.1
      rw [List.nodup_cons] at h3
      exact ⟨h2.1, h3.2, fun x hx y hy => h2.2.2 x hx y (by simp [hy])⟩
    obtain ⟨η', a3, hle3⟩ := add_boxes (ids := ids) (ls := ls) (bs := bs) (n := (backs n l).2.2) (q := q') a12.inv a12.free hq' hle' hl hids (List.nodup_cons.1 hnd0).2 hnd2 (fun k hk hlk => by
      rcases a12.live k hlk with h | h
      · refine hap k ?_ h
        rcases List.mem_append.1 hk with h | h <;> simp [h]
      · rcases List.mem_append.1 h with h | h
        · rw [List.append_assoc, List.nodup_append] at hnd
          refine hnd.2.2 k h k ?_ rfl
          rcases List.mem_append.1 hk with h | h <;> simp [h]
        · have hkb : k = b := by simpa using h
          subst hkb
          rcases List.mem_append.1 hk with h | h
          · exact hbout.2.1 h
          · exact hbout.2.2 h)
    have a123 := a12.then a3
    refine ⟨η', ⟨?_, ?_, ?_, fun k hk => ?_⟩, Nat.le_trans (backs_le l n) hq'le⟩
    · have := a123.inv; rwa [List.append_assoc] at this
    · have := a123.stay; rwa [List.append_assoc] at this
    · have := a123.free; rwa [List.append_assoc] at this
    · have hk' : LiveIn (muPut μ ((backs n l).2.1 ++ [(id, .box (backs n l).1)] ++ q'.1)) η' k := by rw [List.append_assoc]; exact hk
      refine (a123.live k hk').imp (fun h => h) fun h => ?_
      simp only [List.mem_append, List.mem_cons, List.not_mem_nil, or_false] at h ⊢
      rcases h with (h | h) | h | h
      · exact .inl (.inl h)
      · exact .inr (.inl h)
      · exact .inl (.inr h)
      · exact .inr (.inr h)

/-! ### what is handed in -/
theorem parts_none {xs : List D} {vs : List Value} (h : F2 (fun (x : D) v => CR w S x.t [v] x.d) xs vs) : F2 (PartD w S) (xs.map fun x => (none, x)) vs := by
  induction h with
  | nil => exact .nil
  | cons h1 _ ih => exact .cons ⟨rfl, h1⟩ ih
theorem PartD_stay {S' : Nat → Prop} (hs : ∀ b, S b → S' b) {p : Part} {v : Value} (h : PartD w S p v) : PartD w S' p v := ⟨h.1, CR_stay hs (fun _ _ => rfl) h.2⟩
theorem BoxD_stay {S' : Nat → Prop} (hs : ∀ b, S b → S' b) {l : List Part} {b : Nat} (h : BoxD w S l b) : BoxD w S' l b := by
  obtain ⟨T, cs, h1, h2⟩ := h
  exact ⟨T, cs, h1, h2.imp fun _ _ => PartD_stay hs⟩
theorem ArgD_stay {S' : Nat → Prop} (hs : ∀ b, S b → S' b) {x : Arg} {v : Value} (h : ArgD w S x v) : ArgD w S' x v := by
  cases x with
  | val r => exact ⟨h.1, h.2.imp fun _ _ => PartD_stay hs⟩
  | box l =>
    obtain ⟨b, h1, h2⟩ := h
    exact ⟨b, h1, BoxD_stay hs h2⟩
  | fn f ls =>
    obtain ⟨bs, h1, h2⟩ := h
    exact ⟨bs, h1, h2.imp fun _ _ => BoxD_stay hs⟩
def boxIs (μ : Mu) (η : Nat → Value) (id b : Nat) : Prop := (∃ ls, μ id = some (.box ls)) ∧ η id = .pointer (some ⟨b, 0, none⟩)
theorem Fz.box {μ μ' : Mu} (h : Fz μ μ') {id : Nat} {ls : List Leaf} (hid : μ id = some (.box ls)) : μ' id = some (.box ls) := by
  rcases h id with h1 | ⟨e, t, xs, h1, _⟩
  · exact h1.trans hid
  · rw [hid] at h1; cases h1
theorem boxesD_is : ∀ {caps : List Nat} {μ' : Mu} {S : Nat → Prop} {ls : List (List Part)} {fz : Mem} (_ : InvM w0 M S0 μ' η S w) (_ : Fz μ μ') (_ : boxesD Δ μ caps = some (ls, fz)),
    ∃ S', InvM w0 M S0 (muPut μ' fz) η S' w ∧ Stay w w S S' (dom μ') (dom (muPut μ' fz)) η η ∧ Fz μ (muPut μ' fz) ∧ ∃ bs : List Nat, F2 (boxIs μ η) caps bs ∧ F2 (BoxD w S') ls bs ∧ caps.map η = bs.map fun b => Value.pointer (some ⟨b, 0, none⟩)
  | [], μ', S, ls, fz, hM, hfz, h => by
    simp only [boxesD, Option.some.injEq, Prod.mk.injEq] at h
    obtain ⟨rfl, rfl⟩ := h
    exact ⟨S, hM, Stay.refl _ _ _ _, hfz, [], .nil, .nil, rfl⟩
  | id :: caps, μ', S, ls, fz, hM, hfz, h => by
    unfold boxesD at h
    split at h
    · rename_i l hid
      simp only [Option.bind_eq_some_iff, Option.map_eq_some_iff, Prod.mk.injEq] at h
      obtain ⟨p, hp, q, hq, rfl, rfl⟩ := h
      obtain ⟨b, T, cs, hη, hb, hf, _⟩ := hM.chunk id _ (hfz.box hid)
      obtain ⟨S1, i1, s1, f1, c1⟩ := leafDs_is hM hfz (show leafDs Δ μ l = some (p.1, p.2) from hp) hf
      obtain ⟨S2, i2, s2, f2, bs, g1, g2, g3⟩ := boxesD_is i1 f1 (show boxesD Δ μ caps = some (q.1, q.2) from hq)
      rw [muPut_append]
      exact ⟨S2, i2, s1.trans s2, f2, b :: bs, .cons ⟨⟨l, hid⟩, hη⟩ g1, .cons (BoxD_stay s2.s ⟨T, cs, hb, parts_none c1⟩) g2, by simp [hη, g3]⟩
    · cases h
theorem toArg_is (hM : InvM w0 M S0 μ' η S w) (hfz : Fz μ μ') {ty : TypeId} {x : AV} {y : Arg} {fz : Mem} {ids : List Nat} (h : toArg Δ μ ty x = some (y, fz, ids)) {v : Value} (hv : AVR w S (dom μ') η x v) :
    ∃ S', InvM w0 M S0 (muPut μ' fz) η S' w ∧ Stay w w S S' (dom μ') (dom (muPut μ' fz)) η η ∧ Fz μ (muPut μ' fz) ∧ ArgD w S' y v ∧ F2 (boxIs μ η) ids (boxBlk y v) := by
  unfold toArg at h
  split at h
  · rename_i id
    split at h
    · rename_i ls hid
      simp only [Option.map_eq_some_iff, Prod.mk.injEq] at h
      obtain ⟨p, hp, rfl, rfl, rfl⟩ := h
      obtain ⟨_, b, hη, rfl⟩ := hv
      obtain ⟨b', T, cs, hη', hb, hf, _⟩ := hM.chunk id _ (hfz.box hid)
      have hbb : b' = b := by rw [hη] at hη'; simpa using hη'.symm
      subst hbb
      obtain ⟨S1, i1, s1, f1, c1⟩ := leafDs_is hM hfz (show leafDs Δ μ ls = some (p.1, p.2) from hp) hf
      exact ⟨S1, i1, s1, f1, ⟨b', rfl, T, cs, hb, parts_none c1⟩, .cons ⟨⟨ls, hid⟩, hη⟩ .nil⟩
    · cases h
  · rename_i f caps
    simp only [Option.map_eq_some_iff, Prod.mk.injEq] at h
    obtain ⟨p, hp, rfl, rfl, rfl⟩ := h
    obtain ⟨S1, i1, s1, f1, bs, g1, g2, g3⟩ := boxesD_is hM hfz (show boxesD Δ μ caps = some (p.1, p.2) from hp)
    have hv : v = .func (.func f) #[] (caps.map η).toArray := hv.2
    rw [g3] at hv
    subst hv
    refine ⟨S1, i1, s1, f1, ⟨bs, rfl, g2⟩, ?_⟩
    show F2 (boxIs μ η) caps _
    simp only [boxBlk]
    rw [ptrBlks]; exact g1
  · rename_i r _ _
    simp only [Option.map_eq_some_iff, Prod.mk.injEq] at h
    obtain ⟨p, hp, rfl, rfl, rfl⟩ := h
    obtain ⟨S1, i1, s1, f1, c1⟩ := regD_is hM hfz (show regD Δ μ ty r = some (p.1, p.2) from hp) (show RegR w S (dom μ') η r v from hv)
    refine ⟨S1, i1, s1, f1, ?_, ?_⟩
    · obtain ⟨ag, ls⟩ := r
      cases ag with
      | true =>
        obtain ⟨cs, rfl, hf⟩ := c1
        refine ⟨fun _ => ⟨cs, rfl⟩, ?_⟩
        have : F2 (fun (x : D) v => CR w S1 x.t [v] x.d) p.1 cs.toList := by
          generalize cs.toList = vs at hf
          generalize p.1 = xs at hf
          clear hp
          induction xs generalizing vs with
          | nil => cases hf; exact .nil
          | cons x xs ih =>
            cases hf with
            | cons h1 h2 => exact .cons h1 (ih _ h2)
        exact parts_none this
      | false =>
        refine ⟨fun h => by simp at h, ?_⟩
        match p, c1 with
        | ([x], fz), c1 => exact .cons ⟨rfl, c1⟩ .nil
    · simp only [boxBlk]; exact .nil
  · cases h
theorem toArgs_is : ∀ {l : List (AV × TypeId)} {μ' : Mu} {S : Nat → Prop} {as : List Arg} {fz : Mem} {ids : List Nat} (_ : InvM w0 M S0 μ' η S w) (_ : Fz μ μ') (_ : toArgs Δ μ l = some (as, fz, ids)) {vs : List Value} (_ : F2 (fun x v => AVR w S (dom μ') η x.1 v) l vs),
    ∃ S', InvM w0 M S0 (muPut μ' fz) η S' w ∧ Stay w w S S' (dom μ') (dom (muPut μ' fz)) η η ∧ Fz μ (muPut μ' fz) ∧ F2 (ArgD w S') as vs ∧ F2 (boxIs μ η) ids (boxBlks as vs)
  | [], μ', S, as, fz, ids, hM, hfz, h, vs, hv => by
    simp only [toArgs, Option.some.injEq, Prod.mk.injEq] at h
    obtain ⟨rfl, rfl, rfl⟩ := h
    cases hv
    exact ⟨S, hM, Stay.refl _ _ _ _, hfz, .nil, .nil⟩
  | x :: l, μ', S, as, fz, ids, hM, hfz, h, vs, hv => by
    simp only [toArgs, Option.bind_eq_some_iff] at h
    obtain ⟨p, hp, q, hq, h⟩ := h
    simp only [Option.some.injEq, Prod.mk.injEq] at h
    obtain ⟨rfl, rfl, rfl⟩ := h
    cases hv with
    | cons h1 h2 =>
      obtain ⟨S1, i1, s1, f1, c1, b1⟩ := toArg_is hM hfz (show toArg Δ μ x.2 x.1 = some (p.1, p.2.1, p.2.2) from hp) h1
      obtain ⟨S2, i2, s2, f2, c2, b2⟩ := toArgs_is i1 f1 (show toArgs Δ μ l = some (q.1, q.2.1, q.2.2) from hq) (h2.imp fun _ _ => AVR_stay s1)
      rw [muPut_append]
      exact ⟨S2, i2, s1.trans s2, f2, .cons (ArgD_stay s2.s c1) c2, b1.append b2⟩

/-! ### rows that are handed over -/
def idBlks (η : Nat → Value) (ids : List Nat) : List Nat := ids.flatMap fun id => (blk (η id)).toList
def liveIds (μ : Mu) (ids : List Nat) : Prop := ∀ id ∈ ids, ∃ c, μ id = some c ∧ c.live = true ∧ ∀ ls, c ≠ .box ls
theorem idBlks_nodup (hM : InvM w0 M S0 μ η S w) : ∀ {ids : List Nat}, ids.Nodup → liveIds μ ids → (idBlks η ids).Nodup
  | [], _, _ => .nil
  | id :: ids, hn, hl => by
    rw [List.nodup_cons] at hn
    simp only [idBlks, List.flatMap_cons]
    rw [List.nodup_append]
    refine ⟨?_, idBlks_nodup hM hn.2 fun i hi => hl i (List.mem_cons_of_mem _ hi), fun x hx y hy e => ?_⟩
    · cases blk (η id) <;> simp
    · subst e
      obtain ⟨i, hi, hix⟩ := List.mem_flatMap.1 hy
      obtain ⟨c1, a1, a2, _⟩ := hl id (by simp)
      obtain ⟨c2, a3, a4, _⟩ := hl i (List.mem_cons_of_mem _ hi)
      simp only [Option.mem_toList, Option.mem_def] at hx hix
      exact hM.apart id i c1 c2 x a1 a3 a2 a4 (fun e => hn.1 (e ▸ hi)) hx hix
theorem idBlks_append (ids ids' : List Nat) : idBlks η (ids ++ ids') = idBlks η ids ++ idBlks η ids' := by simp [idBlks]
theorem liveIds_append {ids ids' : List Nat} (h : liveIds μ ids) (h' : liveIds μ ids') : liveIds μ (ids ++ ids') := fun i hi => (List.mem_append.1 hi).elim (h i) (h' i)
theorem ownBlks_cons (p : Part) (ps : List Part) (v : Value) (vs : List Value) : ownBlks (p :: ps) (v :: vs) = ownBlks [p] [v] ++ ownBlks ps vs := by
  obtain ⟨f, x⟩ := p
  cases f <;> simp [ownBlks]
theorem handOf_is (hM : InvM w0 M S0 μ η S w) {ty : TypeId} {l : Leaf} {p : Part} {ids : List Nat} (h : handOf Δ μ ty l = some (p, ids)) {v : Value} (hv : LR w S (dom μ) η l v) :
    PartR w S (fun _ => True) p v ∧ ownBlks [p] [v] = idBlks η ids ∧ liveIds μ ids := by
  have hdat : ∀ {x : D}, leafD Δ μ ty l = some (x, []) → (none, x) = p → [] = ids → PartR w S (fun _ => True) p v ∧ ownBlks [p] [v] = idBlks η ids ∧ liveIds μ ids := by
    intro x hx hp hi
    subst hp
    subst hi
    have : ∃ S', InvM w0 M S0 μ η S' w ∧ CR w S x.t [v] x.d := by
      unfold leafD at hx
      split at hx
      · simp only [Option.some.injEq, Prod.mk.injEq] at hx
        obtain ⟨rfl, _⟩ := hx
        exact ⟨S, hM, hv⟩
      · rename_i id
        split at hx
        · rename_i e t xs hid
          simp only [Option.some.injEq, Prod.mk.injEq] at hx
          obtain ⟨rfl, _⟩ := hx
          refine ⟨S, hM, ?_⟩
          rw [hv.2.1]; exact hM.chunk id _ hid
        · simp at hx
        · cases hx
      · split at hx
        · rename_i t _
          simp only [Option.some.injEq, Prod.mk.injEq] at hx
          obtain ⟨rfl, _⟩ := hx
          refine ⟨S, hM, none, 0, ?_, Nat.le_refl _, by decide, fun i x hx => by simp at hx⟩
          have hv : v = .slice none 0 0 := hv
          rw [hv]; rfl
        · cases hx
      · simp only [Option.some.injEq, Prod.mk.injEq] at hx
        obtain ⟨rfl, _⟩ := hx
        exact ⟨S, hM, hv.1⟩
      · simp only [Option.some.injEq, Prod.mk.injEq] at hx
        obtain ⟨rfl, _⟩ := hx
        exact ⟨S, hM, hv.1⟩
      · rename_i id sz lo hi pre
        split at hx
        · rename_i e t xs hid
          split at hx
          · rename_i hsz
            simp only [Option.some.injEq, Prod.mk.injEq] at hx
            obtain ⟨rfl, _⟩ := hx
            exact ⟨S, hM, sub_CR hv hsz (hM.chunk id _ hid)⟩
          · cases hx
        · split at hx
          · simp at hx
          · cases hx
        · cases hx
      · cases hx
    obtain ⟨_, _, h3⟩ := this
    exact ⟨h3, by simp [ownBlks, idBlks], fun id hid => by simp at hid⟩
  unfold handOf at h
  split at h
  · rename_i id
    split at h
    · rename_i e t xs hid
      simp only [Option.some.injEq, Prod.mk.injEq] at h
      obtain ⟨rfl, rfl⟩ := h
      obtain ⟨cells, g1, g2, g3⟩ := hM.chunk id _ hid
      have hv2 : v = η id := hv.2.1
      subst hv2
      refine ⟨⟨cells, g1, g2, fun k hk => ⟨(g3 k hk).1, trivial⟩⟩, by simp [ownBlks, idBlks], fun i hi => ?_⟩
      simp only [List.mem_singleton] at hi
      subst hi
      exact ⟨_, hid, rfl, fun ls h => by cases h⟩
    · rename_i e t xs hid
      simp only [Option.some.injEq, Prod.mk.injEq] at h
      obtain ⟨rfl, rfl⟩ := h
      have hch := hM.chunk id _ hid
      have hv2 : v = η id := hv.2.1
      subst hv2
      exact ⟨hch, by simp [ownBlks, idBlks], fun id hid => by simp at hid⟩
    · cases h
  · split at h
    · rename_i x hx
      simp only [Option.some.injEq, Prod.mk.injEq] at h
      exact hdat hx h.1 h.2
    · cases h
theorem handsOf_is (hM : InvM w0 M S0 μ η S w) : ∀ {ls : List Leaf} {ps : List Part} {ids : List Nat} (_ : handsOf Δ μ ls = some (ps, ids)) {vs : List Value} (_ : F2 (LR w S (dom μ) η) ls vs),
    F2 (PartR w S (fun _ => True)) ps vs ∧ ownBlks ps vs = idBlks η ids ∧ liveIds μ ids
  | [], ps, ids, h, vs, hv => by
    simp only [handsOf, Option.some.injEq, Prod.mk.injEq] at h
    obtain ⟨rfl, rfl⟩ := h
    cases hv
    exact ⟨.nil, by simp [ownBlks, idBlks], fun id hid => by simp at hid⟩
  | l :: ls, ps, ids, h, vs, hv => by
    simp only [handsOf, Option.bind_eq_some_iff, Option.some.injEq, Prod.mk.injEq] at h
    obtain ⟨p, h1, q, h2, rfl, rfl⟩ := h
    cases hv with
    | cons g1 g2 =>
      obtain ⟨a1, a2, a3⟩ := handOf_is hM (show handOf Δ μ 0 l = some (p.1, p.2) from h1) g1
      obtain ⟨b1, b2, b3⟩ := handsOf_is hM (show handsOf Δ μ ls = some (q.1, q.2) from h2) g2
      exact ⟨.cons a1 b1, by rw [ownBlks_cons, a2, b2, idBlks_append], liveIds_append a3 b3⟩
theorem boxesO_is (hM : InvM w0 M S0 μ η S w) : ∀ {caps : List Nat} {ls : List (List Part)} {rids : List Nat} (_ : boxesO Δ μ caps = some (ls, rids)),
    ∃ bs : List Nat, F2 (boxIs μ η) caps bs ∧ F2 (BoxR w S (fun _ => True)) ls bs ∧ caps.map η = (bs.map fun b => Value.pointer (some ⟨b, 0, none⟩)) ∧ ownB w ls bs = idBlks η rids ∧ liveIds μ rids
  | [], ls, rids, h => by
    simp only [boxesO, Option.some.injEq, Prod.mk.injEq] at h
    obtain ⟨rfl, rfl⟩ := h
    exact ⟨[], .nil, .nil, rfl, by simp [ownB, idBlks], fun id hid => by simp at hid⟩
  | id :: caps, ls, rids, h => by
    unfold boxesO at h
    split at h
    · rename_i l hid
      simp only [Option.bind_eq_some_iff, Option.map_eq_some_iff, Prod.mk.injEq] at h
      obtain ⟨p, hp, q, hq, rfl, rfl⟩ := h
      obtain ⟨b, T, cs, hη, hb, hf, _⟩ := hM.chunk id _ hid
      obtain ⟨a1, a2, a3⟩ := handsOf_is hM (show handsOf Δ μ l = some (p.1, p.2) from hp) hf
      obtain ⟨bs, g1, g2, g3, g4, g5⟩ := boxesO_is hM (show boxesO Δ μ caps = some (q.1, q.2) from hq)
      have hcells : cellsAt w b = cs.toList := by simp [cellsAt, hb]
      exact ⟨b :: bs, .cons ⟨⟨l, hid⟩, hη⟩ g1, .cons ⟨T, cs, hb, a1⟩ g2, by simp [hη, g3], by simp only [ownB, hcells]; rw [a2, g4, idBlks_append], liveIds_append a3 g5⟩
    · cases h
theorem toArgO_is (hM : InvM w0 M S0 μ η S w) {ty : TypeId} {x : AV} {y : Arg} {ids rids : List Nat} (h : toArgO Δ μ ty x = some (y, ids, rids)) {v : Value} (hv : AVR w S (dom μ) η x v) :
    ArgR w S (fun _ => True) y v ∧ F2 (boxIs μ η) ids (boxBlk y v) ∧ ownA w y v = idBlks η rids ∧ liveIds μ rids := by
  unfold toArgO at h
  split at h
  · rename_i id
    split at h
    · rename_i ls hid
      simp only [Option.map_eq_some_iff, Prod.mk.injEq] at h
      obtain ⟨p, hp, rfl, rfl, rfl⟩ := h
      obtain ⟨_, b, hη, rfl⟩ := hv
      obtain ⟨b', T, cs, hη', hb, hf, _⟩ := hM.chunk id _ hid
      have hbb : b' = b := by rw [hη] at hη'; simpa using hη'.symm
      subst hbb
      obtain ⟨a1, a2, a3⟩ := handsOf_is hM (show handsOf Δ μ ls = some (p.1, p.2) from hp) hf
      have hcells : cellsAt w b' = cs.toList := by simp [cellsAt, hb]
      refine ⟨⟨b', rfl, T, cs, hb, a1⟩, .cons ⟨⟨ls, hid⟩, hη⟩ .nil, ?_, a3⟩
      simp only [ownA, ptrBlk, ownB, hcells, List.append_nil]
      exact a2
    · cases h
  · rename_i f caps
    simp only [Option.map_eq_some_iff, Prod.mk.injEq] at h
    obtain ⟨p, hp, rfl, rfl, rfl⟩ := h
    obtain ⟨bs, g1, g2, g3, g4, g5⟩ := boxesO_is hM (show boxesO Δ μ caps = some (p.1, p.2) from hp)
    have hv : v = .func (.func f) #[] (caps.map η).toArray := hv.2
    rw [g3] at hv
    subst hv
    refine ⟨⟨bs, rfl, g2⟩, ?_, ?_, g5⟩
    · show F2 (boxIs μ η) caps _
      simp only [boxBlk]
      rw [ptrBlks]; exact g1
    · show ownB w p.1 _ = _
      rw [ptrBlks]; exact g4
  · rename_i l _ _
    simp only [Option.map_eq_some_iff, Prod.mk.injEq] at h
    obtain ⟨p, hp, rfl, rfl, rfl⟩ := h
    obtain ⟨a1, a2, a3⟩ := handOf_is hM (show handOf Δ μ ty l = some (p.1, p.2) from hp) (show LR w S (dom μ) η l v from hv)
    exact ⟨⟨fun h => by simp at h, .cons a1 .nil⟩, .nil, a2, a3⟩
  · rename_i ls
    simp only [Option.map_eq_some_iff, Prod.mk.injEq] at h
    obtain ⟨p, hp, rfl, rfl, rfl⟩ := h
    obtain ⟨cs, rfl, hf⟩ := hv
    obtain ⟨a1, a2, a3⟩ := handsOf_is hM (show handsOf Δ μ ls = some (p.1, p.2) from hp) hf
    exact ⟨⟨fun _ => ⟨cs, rfl⟩, a1⟩, .nil, a2, a3⟩
  · cases h
theorem toArgsO_is (hM : InvM w0 M S0 μ η S w) : ∀ {l : List (AV × TypeId)} {as : List Arg} {ids rids : List Nat} (_ : toArgsO Δ μ l = some (as, ids, rids)) {vs : List Value} (_ : F2 (fun x v => AVR w S (dom μ) η x.1 v) l vs),
    F2 (ArgR w S (fun _ => True)) as vs ∧ F2 (boxIs μ η) ids (boxBlks as vs) ∧ ownAs w as vs = idBlks η rids ∧ liveIds μ rids
  | [], as, ids, rids, h, vs, hv => by
    simp only [toArgsO, Option.some.injEq, Prod.mk.injEq] at h
    obtain ⟨rfl, rfl, rfl⟩ := h
    cases hv
    exact ⟨.nil, .nil, by simp [ownAs, idBlks], fun id hid => by simp at hid⟩
  | x :: l, as, ids, rids, h, vs, hv => by
    simp only [toArgsO, Option.bind_eq_some_iff, Option.some.injEq, Prod.mk.injEq] at h
    obtain ⟨p, hp, q, hq, rfl, rfl, rfl⟩ := h
    cases hv with
    | cons h1 h2 =>
      obtain ⟨a1, a2, a3, a4⟩ := toArgO_is hM (show toArgO Δ μ x.2 x.1 = some (p.1, p.2.1, p.2.2) from hp) h1
      obtain ⟨b1, b2, b3, b4⟩ := toArgsO_is hM (show toArgsO Δ μ l = some (q.1, q.2.1, q.2.2) from hq) h2
      exact ⟨.cons a1 b1, a2.append b2, by simp only [ownAs]; rw [a3, b3, idBlks_append], liveIds_append a4 b4⟩
theorem nodupB_is : ∀ {l : List Nat}, nodupB l = true → l.Nodup
  | [], _ => .nil
  | x :: l, h => by
    simp only [nodupB, Bool.and_eq_true, Bool.not_eq_true', List.contains_eq_mem, decide_eq_false_iff_not] at h
    exact List.nodup_cons.2 ⟨h.1, nodupB_is h.2⟩
end
end Go.Ab
