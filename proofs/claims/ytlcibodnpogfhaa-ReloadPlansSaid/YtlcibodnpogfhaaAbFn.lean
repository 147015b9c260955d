/- Functions ('Ab'): a contract out of the interpreter's run of the body. -/
import Derived.Test.YtlcibodnpogfhaaAbSound
import Derived.Tactics
set_option linter.unusedVariables false
set_option linter.unusedSimpArgs false
set_option linter.unnecessarySimpa false
namespace Go.Ab
open Go.RowKit
section
variable {P : Program} {Δ : Tys} {Γ : Env} {w0 w w' : World} {M S0 S : Nat → Prop} {tm : List AV} {μ μ' : Mu} {η η' : Nat → Value} {a : Act} {Z : List (Nat × Value)}

/-! ### coming in -/
theorem dats_args {l : List Part} {vs : List Value} (h : F2 (fun (p : Part) u => p.1 = none ∧ CR w S p.2.t [u] p.2.d) l vs) {Dm : Nat → Prop} : F2 (LR w S Dm η) (l.map fun p => .dat p.2) vs := by
  induction h with
  | nil => exact .nil
  | cons h1 _ ih => exact .cons h1.2 ih
theorem range_get (n k j : Nat) : (List.range' n k)[j]? = if j < k then some (n + j) else none := by
  by_cases h : j < k
  · rw [if_pos h, List.getElem?_range' h, Nat.one_mul]
  · rw [if_neg h]; exact List.getElem?_eq_none (by simpa using h)
theorem enterBoxes_back : ∀ (ls : List (List Part)) (n m : Nat), backBoxes m (List.range' n ls.length) ls = some (enterBoxes n m ls)
  | [], n, m => rfl
  | l :: ls, n, m => by
    have ih := enterBoxes_back ls (n + 1) (backs m l).2.2
    simp only [List.length_cons, List.range'_succ, backBoxes, ih, Option.map_some, enterBoxes]
theorem enterBoxes_le (ls : List (List Part)) (n m : Nat) : m ≤ (enterBoxes n m ls).2 := (backBoxes_keys (enterBoxes_back ls n m)).2
theorem enterBoxes_other (ls : List (List Part)) (n m : Nat) {μ : Mu} {i : Nat} (hm : i < m) (hn : i < n ∨ n + ls.length ≤ i) : muPut μ (enterBoxes n m ls).1 i = μ i := by
  refine muPut_off _ fun p hp e => ?_
  rcases backBoxes_mem (enterBoxes_back ls n m) p hp with h | ⟨j, _, _, h, _⟩
  · omega
  · rw [range_get] at h
    split at h
    · simp only [Option.some.injEq] at h; omega
    · cases h
theorem enterArgs_le : ∀ (as : List Arg) (n m : Nat), m ≤ (enterArgs n m as).2.2
  | [], n, m => Nat.le_refl _
  | .val (ag, l) :: as, n, m => Nat.le_trans (backs_le l m) (enterArgs_le as _ _)
  | .box l :: as, n, m => Nat.le_trans (enterBoxes_le [l] n m) (enterArgs_le as _ _)
  | .fn f ls :: as, n, m => Nat.le_trans (enterBoxes_le ls n m) (enterArgs_le as _ _)
theorem enterBoxes_keys (ls : List (List Part)) (n m j : Nat) (hj : j < ls.length) : n + j ∈ (enterBoxes n m ls).1.map (·.1) :=
  (backBoxes_keys (enterBoxes_back ls n m)).1 (n + j) (List.mem_range'.2 ⟨j, hj, by omega⟩)
theorem enterArgs_keys : ∀ (as : List Arg) (n m j : Nat), j < boxCount as → n + j ∈ (enterArgs n m as).2.1.map (·.1)
  | [], n, m, j, h => by simp [boxCount, boxesIn] at h
  | .val (ag, l) :: as, n, m, j, h => by
    have := enterArgs_keys as n (backs m l).2.2 j h
    simp only [enterArgs, List.map_append, List.mem_append]
    exact .inr this
  | .box l :: as, n, m, j, h => by
    simp only [enterArgs, List.map_append, List.mem_append]
    cases j with
    | zero => exact .inl (enterBoxes_keys [l] n m 0 (by simp))
    | succ j =>
      have := enterArgs_keys as (n + 1) (enterBoxes n m [l]).2 j (by simpa [boxCount, boxesIn] using h)
      rw [show n + 1 + j = n + (j + 1) by omega] at this
      exact .inr this
  | .fn f ls :: as, n, m, j, h => by
    simp only [enterArgs, List.map_append, List.mem_append]
    by_cases hj : j < ls.length
    · exact .inl (enterBoxes_keys ls n m j hj)
    · have := enterArgs_keys as (n + ls.length) (enterBoxes n m ls).2 (j - ls.length) (by simp only [boxCount, boxesIn, List.length_append] at h ⊢; omega)
      rw [show n + ls.length + (j - ls.length) = n + j by omega] at this
      exact .inr this
theorem boxBlks_len {ok : Nat → Prop} : ∀ {as : List Arg} {vs : List Value}, F2 (ArgR w S ok) as vs → (boxBlks as vs).length = boxCount as
  | [], _, .nil => rfl
  | .val r :: as, v :: vs, .cons h1 h2 => by
    have e : boxBlks (.val r :: as) (v :: vs) = boxBlks as vs := by simp [boxBlks, boxBlk]
    rw [e]; exact boxBlks_len h2
  | .box l :: as, v :: vs, .cons h1 h2 => by
    obtain ⟨b, rfl, _⟩ := h1
    have := boxBlks_len h2
    simp only [boxCount] at this
    simp [boxBlks, boxBlk, ptrBlk, boxCount, boxesIn, this]
    try omega
  | .fn f ls :: as, v :: vs, .cons h1 h2 => by
    obtain ⟨bs, rfl, hf⟩ := h1
    have := boxBlks_len h2
    simp only [boxCount] at this
    have hl := hf.length
    simp only [boxBlks, boxBlk, boxCount, boxesIn, List.length_append]
    rw [ptrBlks, this, hl]
theorem F2.split {α β : Type} {R : α → β → Prop} : ∀ {xs xs' : List α} {ys ys' : List β}, F2 R (xs ++ xs') (ys ++ ys') → xs.length = ys.length → F2 R xs ys ∧ F2 R xs' ys'
  | [], xs', [], ys', h, _ => ⟨.nil, h⟩
  | [], _, _ :: _, _, _, hl => by simp at hl
  | _ :: _, _, [], _, _, hl => by simp at hl
  | x :: xs, xs', y :: ys, ys', .cons h1 h2, hl => by
    obtain ⟨a, b⟩ := F2.split h2 (by simpa using hl)
    exact ⟨.cons h1 a, b⟩
theorem nodup_parts {A B A' B' : List Nat} (h : ((A ++ A') ++ (B ++ B')).Nodup) : (A ++ B).Nodup ∧ (A' ++ B').Nodup ∧ ∀ x ∈ A ++ B, x ∉ A' ++ B' := by
  simp only [List.nodup_append, List.mem_append] at h ⊢
  obtain ⟨⟨h1, h2, h3⟩, ⟨h4, h5, h6⟩, h7⟩ := h
  refine ⟨⟨h1, h4, fun x hx y hy => h7 x (.inl hx) y (.inl hy)⟩, ⟨h2, h5, fun x hx y hy => h7 x (.inr hx) y (.inr hy)⟩, fun x hx hx' => ?_⟩
  rcases hx with hx | hx <;> rcases hx' with hx' | hx'
  · exact h3 x hx x hx' rfl
  · exact h7 x (.inl hx) x (.inr hx') rfl
  · exact h7 x (.inr hx') x (.inl hx) rfl
  · exact h6 x hx x hx' rfl
theorem enter_boxes {N : Nat} {ls : List (List Part)} {bs : List Nat} {n m : Nat} {μ : Mu} {η : Nat → Value} (hM : InvM w0 M S0 μ η S w) (hfree : ∀ i, m ≤ i → i < N → μ i = none) (hle : (enterBoxes n m ls).2 ≤ N)
    (hl : F2 (BoxR w S (fun k => w0.heap.size ≤ k ∨ M k)) ls bs) (hi : F2 (idsR w0 M S μ η) (List.range' n ls.length) bs) (hnd : (ownB w ls bs ++ bs).Nodup) (hap : ∀ k ∈ ownB w ls bs ++ bs, ¬ LiveIn μ η k) :
    ∃ η', Added w0 M S0 S w μ η (enterBoxes n m ls).1 (enterBoxes n m ls).2 N (ownB w ls bs ++ bs) η' ∧ ∀ j b, bs[j]? = some b → dom (muPut μ (enterBoxes n m ls).1) (n + j) ∧ η' (n + j) = .pointer (some ⟨b, 0, none⟩) := by
  obtain ⟨η', h1, _⟩ := add_boxes hM hfree (enterBoxes_back ls n m) hle hl hi List.nodup_range' hnd hap
  refine ⟨η', h1, fun j b hj => ?_⟩
  obtain ⟨id, hid, g1, g2, _⟩ := hi.get' j b hj
  rw [range_get] at hid
  split at hid
  · simp only [Option.some.injEq] at hid
    have e : n + j = id := by omega
    subst e
    have hd : dom μ (n + j) := by simp [dom, g1]
    exact ⟨h1.stay.d _ hd, (h1.stay.η _ hd).trans g2⟩
  · cases hid
theorem idsR_stay {mem : Mem} {η' : Nat → Value} {ids bs : List Nat} (hs : Stay w w S S (dom μ) (dom (muPut μ mem)) η η') (ho : ∀ i ∈ ids, muPut μ mem i = μ i) (h : F2 (idsR w0 M S μ η) ids bs) : F2 (idsR w0 M S (muPut μ mem) η') ids bs := by
  induction h with
  | nil => exact .nil
  | cons h1 _ ih =>
    rename_i x y xs ys _
    obtain ⟨a, b, c, d⟩ := h1
    refine .cons ⟨(ho x (by simp)).trans a, (hs.η x (by simp [dom, a])).trans b, c, d⟩ (ih fun i hi => ho i (List.mem_cons_of_mem _ hi))
theorem enter_is {N : Nat} : ∀ {as : List Arg} {vs : List Value} {n m : Nat} {μ : Mu} {η : Nat → Value} (_ : InvM w0 M S0 μ η S w) (_ : ∀ i, m ≤ i → i < N → μ i = none) (_ : (enterArgs n m as).2.2 ≤ N) (_ : n + boxCount as ≤ m)
    (_ : F2 (ArgR w S (fun k => w0.heap.size ≤ k ∨ M k)) as vs) (_ : F2 (idsR w0 M S μ η) (List.range' n (boxCount as)) (boxBlks as vs)) (_ : (ownAs w as vs ++ boxBlks as vs).Nodup) (_ : ∀ k ∈ ownAs w as vs ++ boxBlks as vs, ¬ LiveIn μ η k),
    ∃ η' bs', Added w0 M S0 S w μ η (enterArgs n m as).2.1 (enterArgs n m as).2.2 N bs' η' ∧ F2 (AVR w S (dom (muPut μ (enterArgs n m as).2.1)) η') (enterArgs n m as).1 vs
  | [], vs, n, m, μ, η, hM, hfree, hle, hnm, hv, hi, hnd, hap => by
    cases hv
    exact ⟨η, [], Added.zero hM hfree, .nil⟩
  | .val (ag, l) :: as, v :: vs, n, m, μ, η, hM, hfree, hle, hnm, .cons h1 h2, hi, hnd, hap => by
    have e : boxBlks (.val (ag, l) :: as) (v :: vs) = [] ++ boxBlks as vs := by simp [boxBlks, boxBlk]
    have e2 : ownAs w (.val (ag, l) :: as) (v :: vs) = ownBlks l (partsOf ag v) ++ ownAs w as vs := rfl
    rw [e, e2] at hnd hap
    rw [e, List.nil_append] at hi
    obtain ⟨n1, n2, n3⟩ := nodup_parts hnd
    rw [List.append_nil] at n1
    have hle1 : (backs m l).2.2 ≤ N := Nat.le_trans (enterArgs_le as n _) hle
    obtain ⟨η1, a1, r1⟩ := add_rv (r := (ag, l)) hM hfree hle1 h1 n1 (fun k hk => hap k (by simp only [List.mem_append]; exact .inl (.inl hk)))
    have hids := idsR_stay a1.stay (fun i hi' => backs_other l m μ i (.inl (by
      obtain ⟨j, hj, rfl⟩ := List.mem_range'.1 hi'
      have : boxCount (.val (ag, l) :: as) = boxCount as := rfl
      omega))) hi
    obtain ⟨η2, bs2, a2, r2⟩ := enter_is (as := as) (vs := vs) (n := n) (m := (backs m l).2.2) a1.inv a1.free hle (Nat.le_trans hnm (backs_le l m)) h2 hids n2 (fun k hk hl => by
      rcases a1.live k hl with h | h
      · refine hap k ?_ h
        simp only [List.mem_append] at hk ⊢
        rcases hk with hk | hk
        · exact .inl (.inr hk)
        · exact .inr (.inr hk)
      · exact n3 k (List.mem_append_left _ h) hk)
    refine ⟨η2, _, a1.then a2, ?_⟩
    have e3 : muPut μ (enterArgs n m (.val (ag, l) :: as)).2.1 = muPut (muPut μ (backs m l).2.1) (enterArgs n (backs m l).2.2 as).2.1 := muPut_append _ _ _
    rw [e3]
    exact .cons (RegR_mono a2.stay.d a2.stay.η r1) r2
  | .box l :: as, v :: vs, n, m, μ, η, hM, hfree, hle, hnm, .cons h1 h2, hi, hnd, hap => by
    obtain ⟨b, rfl, hbox⟩ := h1
    have e : boxBlks (.box l :: as) (.pointer (some ⟨b, 0, none⟩) :: vs) = [b] ++ boxBlks as vs := by simp [boxBlks, boxBlk, ptrBlk]
    have e2 : ownAs w (.box l :: as) (.pointer (some ⟨b, 0, none⟩) :: vs) = ownB w [l] [b] ++ ownAs w as vs := rfl
    have e4 : List.range' n (boxCount (.box l :: as)) = List.range' n 1 ++ List.range' (n + 1) (boxCount as) := by
      simp [boxCount, boxesIn, List.range'_succ]
    have hc : boxCount (.box l :: as) = boxCount as + 1 := by simp [boxCount, boxesIn]
    rw [e, e2] at hnd hap
    rw [e, e4] at hi
    obtain ⟨hi1, hi2⟩ := F2.split hi (by simp)
    obtain ⟨n1, n2, n3⟩ := nodup_parts hnd
    have hle1 : (enterBoxes n m [l]).2 ≤ N := Nat.le_trans (enterArgs_le as (n + 1) _) hle
    obtain ⟨η1, a1, r1⟩ := enter_boxes (ls := [l]) (bs := [b]) hM hfree hle1 (.cons hbox .nil) hi1 n1 (fun k hk => hap k (by
      simp only [List.mem_append] at hk ⊢
      rcases hk with hk | hk
      · exact .inl (.inl hk)
      · exact .inr (.inl hk)))
    have hids := idsR_stay a1.stay (fun i hi' => enterBoxes_other [l] n m (by
      obtain ⟨j, hj, rfl⟩ := List.mem_range'.1 hi'
      omega) (by
      obtain ⟨j, hj, rfl⟩ := List.mem_range'.1 hi'
      right
      simp only [List.length_cons, List.length_nil]
      omega)) hi2
    obtain ⟨η2, bs2, a2, r2⟩ := enter_is (as := as) (vs := vs) (n := n + 1) (m := (enterBoxes n m [l]).2) a1.inv a1.free hle (by have := enterBoxes_le [l] n m; omega) h2 hids n2 (fun k hk hl => by
      rcases a1.live k hl with h | h
      · refine hap k ?_ h
        simp only [List.mem_append] at hk ⊢
        rcases hk with hk | hk
        · exact .inl (.inr hk)
        · exact .inr (.inr hk)
      · exact n3 k h hk)
    refine ⟨η2, _, a1.then a2, ?_⟩
    have e3 : muPut μ (enterArgs n m (.box l :: as)).2.1 = muPut (muPut μ (enterBoxes n m [l]).1) (enterArgs (n + 1) (enterBoxes n m [l]).2 as).2.1 := muPut_append _ _ _
    rw [e3]
    obtain ⟨hd, hη⟩ := r1 0 b rfl
    exact .cons ⟨a2.stay.d n hd, b, (a2.stay.η n hd).trans hη, rfl⟩ r2
  | .fn f ls :: as, v :: vs, n, m, μ, η, hM, hfree, hle, hnm, .cons h1 h2, hi, hnd, hap => by
    obtain ⟨bs, rfl, hbox⟩ := h1
    have e0 : (bs.map fun b => Value.pointer (some ⟨b, 0, none⟩)).toArray.toList.flatMap ptrBlk = bs := ptrBlks bs
    have e : boxBlks (.fn f ls :: as) (.func (.func f) #[] (bs.map fun b => Value.pointer (some ⟨b, 0, none⟩)).toArray :: vs) = bs ++ boxBlks as vs := by
      simp only [boxBlks, boxBlk, e0]
    have e2 : ownAs w (.fn f ls :: as) (.func (.func f) #[] (bs.map fun b => Value.pointer (some ⟨b, 0, none⟩)).toArray :: vs) = ownB w ls bs ++ ownAs w as vs := by
      simp only [ownAs, ownA, e0]
    have hc : boxCount (.fn f ls :: as) = ls.length + boxCount as := by simp [boxCount, boxesIn]
    have hlen := hbox.length
    have e4 : List.range' n (boxCount (.fn f ls :: as)) = List.range' n ls.length ++ List.range' (n + ls.length) (boxCount as) := by
      rw [hc, List.range'_append_1]
    rw [e, e2] at hnd hap
    rw [e, e4] at hi
    obtain ⟨hi1, hi2⟩ := F2.split hi (by simp [hlen])
    obtain ⟨n1, n2, n3⟩ := nodup_parts hnd
    have hle1 : (enterBoxes n m ls).2 ≤ N := Nat.le_trans (enterArgs_le as (n + ls.length) _) hle
    obtain ⟨η1, a1, r1⟩ := enter_boxes (ls := ls) (bs := bs) hM hfree hle1 hbox hi1 n1 (fun k hk => hap k (by
      simp only [List.mem_append] at hk ⊢
      rcases hk with hk | hk
      · exact .inl (.inl hk)
      · exact .inr (.inl hk)))
    have hids := idsR_stay a1.stay (fun i hi' => enterBoxes_other ls n m (by
      obtain ⟨j, hj, rfl⟩ := List.mem_range'.1 hi'
      omega) (by
      obtain ⟨j, hj, rfl⟩ := List.mem_range'.1 hi'
      right; omega)) hi2
    obtain ⟨η2, bs2, a2, r2⟩ := enter_is (as := as) (vs := vs) (n := n + ls.length) (m := (enterBoxes n m ls).2) a1.inv a1.free hle (by have := enterBoxes_le ls n m; omega) h2 hids n2 (fun k hk hl => by
      rcases a1.live k hl with h | h
      · refine hap k ?_ h
        simp only [List.mem_append] at hk ⊢
        rcases hk with hk | hk
        · exact .inl (.inr hk)
        · exact .inr (.inr hk)
      · exact n3 k h hk)
    refine ⟨η2, _, a1.then a2, ?_⟩
    have e3 : muPut μ (enterArgs n m (.fn f ls :: as)).2.1 = muPut (muPut μ (enterBoxes n m ls).1) (enterArgs (n + ls.length) (enterBoxes n m ls).2 as).2.1 := muPut_append _ _ _
    rw [e3]
    refine .cons ⟨fun id hid => ?_, ?_⟩ r2
    · obtain ⟨j, hj, rfl⟩ := List.mem_range'.1 hid
      obtain ⟨b, hb⟩ : ∃ b, bs[j]? = some b := ⟨bs[j]'(by omega), List.getElem?_eq_getElem (by omega)⟩
      have := (r1 j b hb).1
      rw [show n + 1 * j = n + j by omega]
      exact a2.stay.d _ this
    · congr 2
      apply List.ext_getElem?
      intro j
      rw [List.getElem?_map, List.getElem?_map, range_get]
      by_cases hj : j < ls.length
      · obtain ⟨b, hb⟩ : ∃ b, bs[j]? = some b := ⟨bs[j]'(by omega), List.getElem?_eq_getElem (by omega)⟩
        obtain ⟨hd, hη⟩ := r1 j b hb
        rw [hb, if_pos hj]
        simp only [Option.map_some, Option.some.injEq]
        exact ((a2.stay.η _ hd).trans hη).symm
      · rw [if_neg hj, List.getElem?_eq_none (by omega)]; rfl

/-! ### going out -/
theorem partOf_is (hM : InvM w0 M S0 μ η S w) {l : Leaf} {p : Part} {ids : List Nat} (h : partOf μ l = some (p, ids)) {v : Value} (hv : LR w S (dom μ) η l v) :
    PartR w S (fun k => w0.heap.size ≤ k ∨ M k) p v ∧ ownBlks [p] [v] = idBlks η ids ∧ liveIds μ ids := by
  unfold partOf at h
  split at h
  · simp only [Option.some.injEq, Prod.mk.injEq] at h
    obtain ⟨rfl, rfl⟩ := h
    exact ⟨hv, by simp [ownBlks, idBlks], fun id hid => by simp at hid⟩
  · simp only [Option.some.injEq, Prod.mk.injEq] at h
    obtain ⟨rfl, rfl⟩ := h
    exact ⟨hv.1, by simp [ownBlks, idBlks], fun id hid => by simp at hid⟩
  · rename_i id
    split at h
    · rename_i e t xs hid
      simp only [Option.some.injEq, Prod.mk.injEq] at h
      obtain ⟨rfl, rfl⟩ := h
      have hch := hM.chunk id _ hid
      have hv2 : v = η id := hv.2.1
      subst hv2
      refine ⟨hch, by simp [ownBlks, idBlks], fun i hi => ?_⟩
      simp only [List.mem_singleton] at hi
      subst hi
      exact ⟨_, hid, rfl, fun ls h => by cases h⟩
    · rename_i e t xs hid
      simp only [Option.some.injEq, Prod.mk.injEq] at h
      obtain ⟨rfl, rfl⟩ := h
      have hch := hM.chunk id _ hid
      have hv2 : v = η id := hv.2.1
      subst hv2
      exact ⟨hch, by simp [ownBlks, idBlks], fun id hid => by simp at hid⟩
    · cases h
  · rename_i id sz lo hi pre
    split at h
    · rename_i e t xs hid
      split at h
      · rename_i hsz
        simp only [Option.some.injEq, Prod.mk.injEq] at h
        obtain ⟨rfl, rfl⟩ := h
        exact ⟨sub_CR hv hsz (hM.chunk id _ hid), by simp [ownBlks, idBlks], fun id hid => by simp at hid⟩
      · cases h
    · rename_i e t xs hid
      split at h
      · rename_i hsz
        obtain ⟨hsz, hpre⟩ := hsz
        simp only [Option.some.injEq, Prod.mk.injEq] at h
        obtain ⟨rfl, rfl⟩ := h
        obtain ⟨hd, h0, hlh, A, n, c, A', c', hη, hhn, hv, hcc, hcc2, hAf, hA, hp⟩ := hv
        obtain ⟨hl0, hA', hc'⟩ := hp hpre
        subst hl0
        subst hA'
        subst hc'
        obtain ⟨A1, c1, h1⟩ := rows_head hM hid
        rw [hη] at h1
        simp only [Value.slice.injEq] at h1
        obtain ⟨rfl, rfl, rfl⟩ := h1
        have hblk : blk v = blk (η id) := by
          rw [hv, hη]
          cases A' <;> rfl
        obtain ⟨cells, hown, ⟨css, rfl, hcss⟩, hb⟩ := hM.chunk id _ hid
        have hhn' : hi.toNat ≤ xs.length := by omega
        have hlt : (xs.take hi.toNat).length = hi.toNat := by rw [List.length_take]; omega
        have htk := (flat_take css hi.toNat (row_len hcss) (by rw [← hcss.length]; exact hhn')).1
        refine ⟨⟨(css.take hi.toNat).flatten, ⟨?_, ?_⟩, ⟨_, rfl, hcss.take hi.toNat⟩, fun k hk => hb k (hblk ▸ hk)⟩, ?_, fun i hi => ?_⟩
        · rw [htk, List.length_take, hown.1, hlt]
          exact Nat.min_eq_left (Nat.mul_le_mul_right _ hhn')
        · rcases hown.2 with ⟨g1, g2⟩ | ⟨g, cap, cur, g1, g2, g3, g4, g5, g6, g7⟩
          · rw [hη] at g1
            simp only [Value.slice.injEq] at g1
            obtain ⟨rfl, _, rfl⟩ := g1
            left
            have : hi.toNat = 0 := by omega
            exact ⟨by rw [hv, this]; rfl, by rw [hlt]; exact this⟩
          · rw [hη] at g1
            simp only [Value.slice.injEq] at g1
            obtain ⟨rfl, _, rfl⟩ := g1
            right
            refine ⟨g, c', cur, by rw [hv, hlt]; simp, g2, g3, by rw [hlt]; omega, g5, g6, ?_⟩
            rw [hlt, htk, ← g7, List.take_take, Nat.min_eq_left (Nat.mul_le_mul_right _ hhn')]
        · simp only [ownBlks, idBlks, List.flatMap_cons, List.flatMap_nil, hblk]
        · simp only [List.mem_singleton] at hi
          subst hi
          exact ⟨_, hid, rfl, fun ls h => by cases h⟩
      · cases h
    · cases h
  · cases h
theorem partsOfL_is (hM : InvM w0 M S0 μ η S w) : ∀ {ls : List Leaf} {ps : List Part} {ids : List Nat} (_ : partsOfL μ ls = some (ps, ids)) {vs : List Value} (_ : F2 (LR w S (dom μ) η) ls vs),
    F2 (PartR w S (fun k => w0.heap.size ≤ k ∨ M k)) ps vs ∧ ownBlks ps vs = idBlks η ids ∧ liveIds μ ids
  | [], ps, ids, h, vs, hv => by
    simp only [partsOfL, Option.some.injEq, Prod.mk.injEq] at h
    obtain ⟨rfl, rfl⟩ := h
    cases hv
    exact ⟨.nil, by simp [ownBlks, idBlks], fun id hid => by simp at hid⟩
  | l :: ls, ps, ids, h, vs, hv => by
    simp only [partsOfL, Option.bind_eq_some_iff, Option.some.injEq, Prod.mk.injEq] at h
    obtain ⟨p, h1, q, h2, rfl, rfl⟩ := h
    cases hv with
    | cons g1 g2 =>
      obtain ⟨a1, a2, a3⟩ := partOf_is hM (show partOf μ l = some (p.1, p.2) from h1) g1
      obtain ⟨b1, b2, b3⟩ := partsOfL_is hM (show partsOfL μ ls = some (q.1, q.2) from h2) g2
      exact ⟨.cons a1 b1, by rw [ownBlks_cons, a2, b2, idBlks_append], liveIds_append a3 b3⟩
theorem rvOf_is (hM : InvM w0 M S0 μ η S w) {r : Reg} {x : RV} {ids : List Nat} (h : rvOf μ r = some (x, ids)) {v : Value} (hv : RegR w S (dom μ) η r v) :
    RVR w S (fun k => w0.heap.size ≤ k ∨ M k) x v ∧ ownBlks x.2 (partsOf x.1 v) = idBlks η ids ∧ liveIds μ ids := by
  unfold rvOf at h
  split at h
  · simp only [Option.map_eq_some_iff, Prod.mk.injEq] at h
    obtain ⟨p, h1, rfl, rfl⟩ := h
    obtain ⟨a1, a2, a3⟩ := partOf_is hM (show partOf μ _ = some (p.1, p.2) from h1) (show LR w S (dom μ) η _ v from hv)
    exact ⟨⟨fun h => by simp at h, .cons a1 .nil⟩, a2, a3⟩
  · simp only [Option.map_eq_some_iff, Prod.mk.injEq] at h
    obtain ⟨p, h1, rfl, rfl⟩ := h
    obtain ⟨cs, rfl, hf⟩ := hv
    obtain ⟨a1, a2, a3⟩ := partsOfL_is hM (show partsOfL μ _ = some (p.1, p.2) from h1) hf
    exact ⟨⟨fun _ => ⟨cs, rfl⟩, a1⟩, a2, a3⟩
  · cases h
def readResult (tmps : Array Value) : ResultVar → Sem Value
  | .tmp t => pure (tmps.getD t undef)
  | .cell a t => do loadVar t (← asAddr (tmps.getD a undef))
theorem getD_tm (hI : InvX w0 M S0 tm μ η S a w) {t : Nat} {x : AV} (h : tm.getD t .any = x) (hx : x ≠ .any) : AVR w S (dom μ) η x (a.tmps.getD t undef) := by
  rw [List.getD_eq_getElem?_getD] at h
  cases hh : tm[t]? with
  | none => rw [hh] at h; exact absurd h.symm hx
  | some y => rw [hh] at h; simp at h; subst h; exact hI.tmp t y hh
theorem resultAt_is (hΔ : TysOk P Δ) {φ : AS} (hI : InvX w0 M S0 φ.tm φ.mem.get η S a w) {rv : ResultVar} {x : RV} {ids : List Nat} (h : resultAt Δ φ rv = some (x, ids)) :
    ∃ v, (readResult a.tmps rv).run P w = .ok v w ∧ RVR w S (fun k => w0.heap.size ≤ k ∨ M k) x v ∧ ownBlks x.2 (partsOf x.1 v) = idBlks η ids ∧ liveIds φ.mem.get ids := by
  unfold resultAt at h
  split at h
  · rename_i t
    split at h
    · rename_i r hr
      have hv := getD_tm hI hr (by intro h; cases h)
      exact ⟨_, rfl, rvOf_is hI.mem h hv⟩
    · cases h
  · rename_i t T
    split at h
    · rename_i id off hr
      have hv := getD_tm hI hr (by intro h; cases h)
      split at h
      · rename_i ls hid
        simp only [Option.bind_eq_some_iff] at h
        obtain ⟨r, hcut, hrv⟩ := h
        obtain ⟨hd, b, hη, hv⟩ := hv
        obtain ⟨b', T', cs, hη', hb, hf, _⟩ := hI.mem.chunk id _ hid
        have hbb : b' = b := by rw [hη] at hη'; simpa using hη'.symm
        subst hbb
        obtain ⟨v, hrun, hreg⟩ := run_loadVar_cut (P := P) hΔ hcut hf (cell_of_box hb)
        rw [Nat.zero_add] at hrun
        refine ⟨v, ?_, rvOf_is hI.mem hrv hreg⟩
        simp [readResult, hv, asAddr, hrun]
      · cases h
    · cases h
theorem resultsAt_is (hΔ : TysOk P Δ) {φ : AS} (hI : InvX w0 M S0 φ.tm φ.mem.get η S a w) : ∀ {rs : List ResultVar} {xs : List RV} {ids : List Nat}, resultsAt Δ φ rs = some (xs, ids) →
    ∃ vs, (rs.mapM (readResult a.tmps)).run P w = .ok vs w ∧ F2 (RVR w S (fun k => w0.heap.size ≤ k ∨ M k)) xs vs ∧ ownT xs vs = idBlks η ids ∧ liveIds φ.mem.get ids
  | [], xs, ids, h => by
    simp only [resultsAt, Option.some.injEq, Prod.mk.injEq] at h
    obtain ⟨rfl, rfl⟩ := h
    exact ⟨[], rfl, .nil, by simp [ownT, idBlks], fun id hid => by simp at hid⟩
  | r :: rs, xs, ids, h => by
    simp only [resultsAt, Option.bind_eq_some_iff, Option.some.injEq, Prod.mk.injEq] at h
    obtain ⟨p, h1, q, h2, rfl, rfl⟩ := h
    obtain ⟨v, a0, a1, a2, a3⟩ := resultAt_is hΔ hI (show resultAt Δ φ r = some (p.1, p.2) from h1)
    obtain ⟨vs, b0, b1, b2, b3⟩ := resultsAt_is hΔ hI (show resultsAt Δ φ rs = some (q.1, q.2) from h2)
    refine ⟨v :: vs, ?_, .cons a1 b1, ?_, liveIds_append a3 b3⟩
    · simp [List.mapM_cons, a0, b0]
    · rw [idBlks_append, ← a2, ← b2]
      rfl
theorem run_results {fn : Func} {tmps : Array Value} {vs : List Value} (h : (fn.results.toList.mapM (readResult tmps)).run P w = .ok vs w) :
    (results fn tmps).run P w = .ok (match vs with | [v] => v | _ => .tuple vs.toArray) w := by
  have e : results fn tmps = (do let vs ← fn.results.mapM (readResult tmps); pure (if h : vs.size = 1 then vs[0] else .tuple vs)) := by
    unfold results
    congr 1
  rw [e, Array.mapM_eq_mapM_toList]
  simp only [Sem.run_bind, Sem.run_map, h, Result.andThen_ok, Sem.run_pure]
  congr 1
  match vs with
  | [] => rfl
  | [v] => rfl
  | _ :: _ :: _ => simp
theorem boxesAt_is (hM : InvM w0 M S0 μ η S w) {φ : AS} (hμ : φ.mem.get = μ) : ∀ {zs : List Nat} {bs : List Nat} {ls : List (List Part)} {ids : List Nat} (_ : boxesAt φ zs = some (ls, ids)) (_ : F2 (fun z b => η z = .pointer (some ⟨b, 0, none⟩)) zs bs),
    F2 (BoxR w S (fun k => w0.heap.size ≤ k ∨ M k)) ls bs ∧ ownB w ls bs = idBlks η ids ∧ liveIds μ ids ∧ (∀ b ∈ bs, ¬ S b) ∧ ∀ b ∈ bs, ∃ id ls, μ id = some (.box ls) ∧ blk (η id) = some b ∧ id ∈ zs
  | [], bs, ls, ids, h, hz => by
    simp only [boxesAt, Option.some.injEq, Prod.mk.injEq] at h
    obtain ⟨rfl, rfl⟩ := h
    cases hz
    exact ⟨.nil, by simp [ownB, idBlks], fun id hid => by simp at hid, fun b hb => by simp at hb, fun b hb => by simp at hb⟩
  | z :: zs, b :: bs, ls, ids, h, .cons hz hzs => by
    simp only [boxesAt, Option.bind_eq_some_iff, Option.some.injEq, Prod.mk.injEq] at h
    obtain ⟨p, h1, q, h2, rfl, rfl⟩ := h
    unfold boxAt at h1
    split at h1
    · rename_i l hl
      rw [hμ] at hl h1
      obtain ⟨b', T, cs, e1, e2, e3, e4, e5, e6⟩ := hM.chunk z _ hl
      have hbb : b' = b := by rw [hz] at e1; simpa using e1.symm
      subst hbb
      obtain ⟨a1, a2, a3⟩ := partsOfL_is hM (show partsOfL μ l = some (p.1, p.2) from h1) e3
      obtain ⟨b1, b2, b3, b4, b5⟩ := boxesAt_is hM hμ (show boxesAt φ zs = some (q.1, q.2) from h2) hzs
      have hcells : cellsAt w b' = cs.toList := by simp [cellsAt, e2]
      refine ⟨.cons ⟨T, cs, e2, a1⟩ b1, ?_, liveIds_append a3 b3, fun k hk => ?_, fun k hk => ?_⟩
      · simp only [ownB, hcells]
        rw [a2, b2, idBlks_append]
      · rcases List.mem_cons.1 hk with rfl | hk
        · exact e5
        · exact b4 k hk
      · rcases List.mem_cons.1 hk with rfl | hk
        · exact ⟨z, l, hl, by simp [hz, blk], by simp⟩
        · obtain ⟨i', l', e1, e2, e3⟩ := b5 k hk
          exact ⟨i', l', e1, e2, List.mem_cons_of_mem _ e3⟩
    · cases h1
theorem PartR_on {ok ok' : Nat → Prop} {p : Part} {v : Value} (hp : PartR w S ok p v) (h : ∀ k ∈ ownBlks [p] [v], ok' k) : PartR w S ok' p v := by
  match p, hp, h with
  | (none, x), hp, _ => exact hp
  | (some e, ⟨.slice t, xs⟩), ⟨cells, h1, h2, h3⟩, h => exact ⟨cells, h1, h2, fun k hk => ⟨(h3 k hk).1, h k (by simp [ownBlks, hk])⟩⟩
theorem parts_on {ok ok' : Nat → Prop} : ∀ {ps : List Part} {vs : List Value}, F2 (PartR w S ok) ps vs → (∀ k ∈ ownBlks ps vs, ok' k) → F2 (PartR w S ok') ps vs
  | [], _, .nil, _ => .nil
  | p :: ps, v :: vs, .cons h1 h2, h => by
    rw [ownBlks_cons] at h
    exact .cons (PartR_on h1 fun k hk => h k (List.mem_append_left _ hk)) (parts_on h2 fun k hk => h k (List.mem_append_right _ hk))
theorem rvs_on {ok ok' : Nat → Prop} : ∀ {xs : List RV} {vs : List Value}, F2 (RVR w S ok) xs vs → (∀ k ∈ ownT xs vs, ok' k) → F2 (RVR w S ok') xs vs
  | [], _, .nil, _ => .nil
  | x :: xs, v :: vs, .cons h1 h2, h => by
    simp only [ownT, List.mem_append] at h
    exact .cons ⟨h1.1, parts_on h1.2 fun k hk => h k (.inl hk)⟩ (rvs_on h2 fun k hk => h k (.inr hk))
theorem boxes_on {ok ok' : Nat → Prop} : ∀ {ls : List (List Part)} {bs : List Nat}, F2 (BoxR w S ok) ls bs → (∀ k ∈ ownB w ls bs, ok' k) →
    F2 (BoxR w S ok') ls bs
  | [], _, .nil, _ => .nil
  | l :: ls, b :: bs, .cons ⟨T, cs, h1, h2⟩ h3, h => by
    have hcells : cellsAt w b = cs.toList := by simp [cellsAt, h1]
    simp only [ownB, hcells, List.mem_append] at h
    exact .cons ⟨T, cs, h1, parts_on h2 fun k hk => h k (.inl hk)⟩ (boxes_on h3 fun k hk => h k (.inr hk))
theorem ret_rows (hΔ : TysOk P Δ) {fn : Func} {bs hs : List Nat} {r : Res} {φ : AS} (hI : Inv ((List.range bs.length).zip (bs.map fun b => .pointer (some ⟨b, 0, none⟩))) w0 (fun k => k ∈ bs ∨ k ∈ hs) S0 φ.tm φ.mem.get a w)
    (h : ((resultsAt Δ φ fn.results.toList).bind fun p => (boxesAt φ (List.range bs.length)).bind fun q =>
      if nodupB (p.2 ++ q.2) = true then some (⟨match p.1 with | [x] => .val x | l => .tup l, q.1⟩ : Res) else none) = some r) : a.defers = [] ∧ ∃ v, (results fn a.tmps).run P w = .ok v w ∧ Back w0 S0 bs hs r v w := by
  obtain ⟨η, S, hI, hZ⟩ := hI
  simp only [Option.bind_eq_some_iff] at h
  obtain ⟨p, hp, q, hq, h⟩ := h
  split at h
  · rename_i hnod
    simp only [Option.some.injEq] at h
    obtain ⟨vs, h0, h1, h2, h3⟩ := resultsAt_is hΔ hI (show resultsAt Δ φ fn.results.toList = some (p.1, p.2) from hp)
    have hzs : F2 (fun z b => η z = .pointer (some ⟨b, 0, none⟩)) (List.range bs.length) bs := by
      have : ∀ (zs bs' : List Nat), zs.length = bs'.length → (∀ z ∈ zs.zip (bs'.map fun b => Value.pointer (some ⟨b, 0, none⟩)), η z.1 = z.2) → F2 (fun z b => η z = .pointer (some ⟨b, 0, none⟩)) zs bs' := by
        intro zs
        induction zs with
        | nil => intro bs' hl _; cases bs' with | nil => exact .nil | cons _ _ => simp at hl
        | cons z zs ih =>
          intro bs' hl hall
          cases bs' with
          | nil => simp at hl
          | cons b bs' =>
            exact .cons (hall (z, _) (by simp)) (ih bs' (by simpa using hl) fun y hy => hall y (by simp only [List.map_cons, List.zip_cons_cons, List.mem_cons]; exact .inr hy))
      exact this _ _ (by simp) fun z hz => (hZ z hz).2
    obtain ⟨b1, b2, b3, b4, b5⟩ := boxesAt_is hI.mem rfl (show boxesAt φ (List.range bs.length) = some (q.1, q.2) from hq) hzs
    have hnd := idBlks_nodup hI.mem (nodupB_is hnod) (liveIds_append h3 b3)
    rw [idBlks_append, ← h2, ← b2] at hnd
    -- rows that go out are new
    have hnew : ∀ k ∈ idBlks η (p.2 ++ q.2), w0.heap.size ≤ k ∨ k ∈ hs := by
      intro k hk
      obtain ⟨id, hid, hkid⟩ := List.mem_flatMap.1 hk
      simp only [Option.mem_toList, Option.mem_def] at hkid
      obtain ⟨c, c1, c2, c3⟩ := liveIds_append h3 b3 id hid
      rcases (live_blk hI.mem c1 c2 hkid).2.2 with h | h | h
      · exact .inl h
      · obtain ⟨i', ls, e1, e2, _⟩ := b5 k h
        have hne : id ≠ i' := fun e => by subst e; rw [c1] at e1; cases e1; exact c3 ls rfl
        exact absurd e2 (hI.mem.apart id i' c _ k c1 e1 c2 rfl hne hkid)
      · exact .inr h
    rw [idBlks_append, ← h2, ← b2] at hnew
    have hfrom : ∀ b, S b → S0 b ∨ w0.heap.size ≤ b ∨ b ∈ hs := by
      intro b hb
      rcases hI.mem.from_ b hb with h | h | h | h
      · exact .inl h
      · exact .inr (.inl h)
      · exact absurd hb (b4 b h)
      · exact .inr (.inr h)
    have houts := rvs_on (ok' := fun k => w0.heap.size ≤ k ∨ k ∈ hs) h1 fun k hk => hnew k (List.mem_append_left _ hk)
    have hboxes := boxes_on (ok' := fun k => w0.heap.size ≤ k ∨ k ∈ hs) b1 fun k hk => hnew k (List.mem_append_right _ hk)
    refine ⟨hI.noDefers, _, run_results h0, S, ?_⟩
    subst h
    obtain ⟨xs, ids⟩ := p
    refine ⟨hI.mem.frame, hI.mem.sub, hI.mem.lt, hfrom, ?_, hboxes, ?_⟩
    · match xs, vs, houts with
      | [], [], _ => exact ⟨#[], rfl, .nil⟩
      | [x], [v], .cons h _ => exact h
      | x :: y :: xs, v :: u :: vs, hh => exact ⟨_, rfl, by simpa using hh⟩
    · match xs, vs, houts, hnd with
      | [], [], _, hnd => simpa [ownOut] using hnd
      | [x], [v], _, hnd => simpa [ownOut, ownT] using hnd
      | x :: y :: xs, v :: u :: vs, _, hnd => simpa [ownOut] using hnd
  · cases h
theorem datsOf_is {Dm : Nat → Prop} : ∀ {ls : List Leaf} {l : List D} {cs : List Value}, datsOf ls = some l → F2 (LR w S Dm η) ls cs → F2 (fun (x : D) u => CR w S x.t [u] x.d) l cs
  | [], l, cs, h, hf => by
    simp only [datsOf, Option.some.injEq] at h
    subst h
    cases hf
    exact .nil
  | .dat x :: ls, l, c :: cs, h, .cons h1 h2 => by
    simp only [datsOf, Option.map_eq_some_iff] at h
    obtain ⟨l', h3, rfl⟩ := h
    exact .cons h1 (datsOf_is h3 h2)
  | .own _ :: _, _, _, h, _ => by simp [datsOf] at h
  | .ptr _ _ :: _, _, _, h, _ => by simp [datsOf] at h
  | .elt _ _ _ _ :: _, _, _, h, _ => by simp [datsOf] at h
  | .dpt _ _ :: _, _, _, h, _ => by simp [datsOf] at h
  | .nils :: _, _, _, h, _ => by simp [datsOf] at h
  | .cl _ :: _, _, _, h, _ => by simp [datsOf] at h
  | .kn _ _ :: _, _, _, h, _ => by simp [datsOf] at h
  | .nilp :: _, _, _, h, _ => by simp [datsOf] at h
  | .fn _ _ :: _, _, _, h, _ => by simp [datsOf] at h
  | .sub _ _ _ _ _ :: _, _, _, h, _ => by simp [datsOf] at h
  | .any :: _, _, _, h, _ => by simp [datsOf] at h
theorem ptrAt_is {zs : List Nat} {φ : AS} {rs : List ResultVar} {l : List D} {id : Nat} (h : ptrAt zs φ rs = some (l, id)) :
    ∃ t ls, rs = [.tmp t] ∧ φ.tm.getD t .any = .val (false, [.ptr id 0]) ∧ φ.mem.get id = some (.box ls) ∧ id ∉ zs ∧ datsOf ls = some l := by
  unfold ptrAt at h
  split at h
  · rename_i t
    split at h
    · rename_i id' h1
      split at h
      · rename_i ls h2
        split at h
        · cases h
        · rename_i h3
          simp only [Option.map_eq_some_iff, Prod.mk.injEq] at h
          obtain ⟨l', h4, rfl, rfl⟩ := h
          exact ⟨t, ls, rfl, h1, h2, by simpa using h3, h4⟩
      · cases h
    · cases h
  · cases h
theorem ret_ptr {fn : Func} {bs hs : List Nat} {r : Res} {φ : AS} (hI : Inv ((List.range bs.length).zip (bs.map fun b => .pointer (some ⟨b, 0, none⟩))) w0 (fun k => k ∈ bs ∨ k ∈ hs) S0 φ.tm φ.mem.get a w)
    {l : List D} {id : Nat} (hp : ptrAt (List.range bs.length) φ fn.results.toList = some (l, id))
    (h : ((boxesAt φ (List.range bs.length)).bind fun q => if nodupB (id :: q.2) = true then some (⟨.ptr l, q.1⟩ : Res) else none) = some r) : a.defers = [] ∧ ∃ v, (results fn a.tmps).run P w = .ok v w ∧ Back w0 S0 bs hs r v w := by
  obtain ⟨η, S, hI, hZ⟩ := hI
  simp only [Option.bind_eq_some_iff] at h
  obtain ⟨q, hq, h⟩ := h
  obtain ⟨t, ls, hrs, htm, hid, hnz, hls⟩ := ptrAt_is hp
  split at h
  · rename_i hnod
    simp only [Option.some.injEq] at h
    have hv := getD_tm hI htm (by intro h; cases h)
    have hv : dom φ.mem.get id ∧ ∃ b, η id = .pointer (some ⟨b, 0, none⟩) ∧ a.tmps.getD t undef = .pointer (some ⟨b, 0, none⟩) := hv
    obtain ⟨_, b, hη, hvv⟩ := hv
    have h0 : (fn.results.toList.mapM (readResult a.tmps)).run P w = .ok [a.tmps.getD t undef] w := by
      rw [hrs]; simp [List.mapM_cons, readResult]
    have hzs : F2 (fun z b => η z = .pointer (some ⟨b, 0, none⟩)) (List.range bs.length) bs := by
      have : ∀ (zs bs' : List Nat), zs.length = bs'.length → (∀ z ∈ zs.zip (bs'.map fun b => Value.pointer (some ⟨b, 0, none⟩)), η z.1 = z.2) → F2 (fun z b => η z = .pointer (some ⟨b, 0, none⟩)) zs bs' := by
        intro zs
        induction zs with
        | nil => intro bs' hl _; cases bs' with | nil => exact .nil | cons _ _ => simp at hl
        | cons z zs ih =>
          intro bs' hl hall
          cases bs' with
          | nil => simp at hl
          | cons b bs' =>
            exact .cons (hall (z, _) (by simp)) (ih bs' (by simpa using hl) fun y hy => hall y (by simp only [List.map_cons, List.zip_cons_cons, List.mem_cons]; exact .inr hy))
      exact this _ _ (by simp) fun z hz => (hZ z hz).2
    obtain ⟨b1, b2, b3, b4, b5⟩ := boxesAt_is hI.mem rfl (show boxesAt φ (List.range bs.length) = some (q.1, q.2) from hq) hzs
    obtain ⟨b', T, cs, hη', hb, hf, _, hSb, hnew⟩ := hI.mem.chunk id _ hid
    have hbb : b' = b := by rw [hη] at hη'; simpa using hη'.symm
    subst hbb
    have hnb : w0.heap.size ≤ b' ∨ b' ∈ hs := by
      rcases hnew with h | h | h
      · exact .inl h
      · obtain ⟨i', ls', e1, e2, e3⟩ := b5 b' h
        have hne : id ≠ i' := fun e => hnz (e ▸ e3)
        exact absurd e2 (hI.mem.apart id i' _ _ b' hid e1 rfl rfl hne (by simp [hη, blk]))
      · exact .inr h
    have hnd2 := nodupB_is hnod
    rw [List.nodup_cons] at hnd2
    have hrows : ∀ k ∈ idBlks η q.2, w0.heap.size ≤ k ∨ k ∈ hs := by
      intro k hk
      obtain ⟨i, hi, hki⟩ := List.mem_flatMap.1 hk
      simp only [Option.mem_toList, Option.mem_def] at hki
      obtain ⟨c, c1, c2, c3⟩ := b3 i hi
      rcases (live_blk hI.mem c1 c2 hki).2.2 with h | h | h
      · exact .inl h
      · obtain ⟨i', ls', e1, e2, _⟩ := b5 k h
        have hne : i ≠ i' := fun e => by subst e; rw [c1] at e1; cases e1; exact c3 ls' rfl
        exact absurd e2 (hI.mem.apart i i' c _ k c1 e1 c2 rfl hne hki)
      · exact .inr h
    have hapart : b' ∉ idBlks η q.2 := by
      intro hk
      obtain ⟨i, hi, hki⟩ := List.mem_flatMap.1 hk
      simp only [Option.mem_toList, Option.mem_def] at hki
      obtain ⟨c, c1, c2, c3⟩ := b3 i hi
      have hne : i ≠ id := fun e => by subst e; rw [c1] at hid; cases hid; exact c3 ls rfl
      exact absurd (show blk (η id) = some b' by simp [hη, blk]) (hI.mem.apart i id c _ b' c1 hid c2 rfl hne hki)
    have hfrom : ∀ b, S b → S0 b ∨ w0.heap.size ≤ b ∨ b ∈ hs := by
      intro b hb
      rcases hI.mem.from_ b hb with h | h | h | h
      · exact .inl h
      · exact .inr (.inl h)
      · exact absurd hb (b4 b h)
      · exact .inr (.inr h)
    have hboxes := boxes_on (ok' := fun k => w0.heap.size ≤ k ∨ k ∈ hs) b1 fun k hk => hrows k (b2 ▸ hk)
    refine ⟨hI.noDefers, _, run_results h0, S, ?_⟩
    subst h
    refine ⟨hI.mem.frame, hI.mem.sub, hI.mem.lt, hfrom, ?_, hboxes, ?_⟩
    · exact ⟨b', T, cs, hvv, hb, datsOf_is hls hf, hSb, hnb⟩
    · show (ownOut (.ptr l) (a.tmps.getD t undef) ++ ownB w q.1 bs).Nodup
      rw [hvv, b2]
      show (b' :: idBlks η q.2).Nodup
      exact List.nodup_cons.2 ⟨hapart, idBlks_nodup hI.mem hnd2.2 b3⟩
  · cases h
/-- What a function's end hands back. -/
theorem ret_is (hΔ : TysOk P Δ) {fn : Func} {bs hs : List Nat} {r : Res} {φ : AS} (hI : Inv ((List.range bs.length).zip (bs.map fun b => .pointer (some ⟨b, 0, none⟩))) w0 (fun k => k ∈ bs ∨ k ∈ hs) S0 φ.tm φ.mem.get a w)
    (h : retAt Δ fn.results.toList (List.range bs.length) φ = some r) : a.defers = [] ∧ ∃ v, (results fn a.tmps).run P w = .ok v w ∧ Back w0 S0 bs hs r v w := by
  unfold retAt at h
  split at h
  · rename_i l id hp
    exact ret_ptr hI hp h
  · exact ret_rows hΔ hI h
theorem frzAt_mem {μ : Mu} : ∀ {ms : List Bool} {ls : List Leaf} {p : Nat × Chunk}, p ∈ frzAt μ ms ls → ∃ e t xs f, μ p.1 = some (.rows e t xs f) ∧ p.2 = .rows e t xs true := by
  intro ms
  induction ms with
  | nil => intro ls p hp; simp [frzAt] at hp
  | cons m ms ih =>
    intro ls p hp
    cases ls with
    | nil => cases m <;> simp [frzAt] at hp
    | cons l ls =>
      have one : ∀ a, p ∈ (match μ a with | some (.rows e t xs false) => [(a, Chunk.rows e t xs true)] | _ => []) → ∃ e t xs f, μ p.1 = some (.rows e t xs f) ∧ p.2 = .rows e t xs true := by
        intro a hp
        split at hp
        · rename_i hm
          simp only [List.mem_singleton] at hp
          subst hp
          exact ⟨_, _, _, _, hm, rfl⟩
        · simp at hp
      cases m with
      | false => cases l <;> exact ih (by simpa [frzAt] using hp)
      | true =>
        cases l with
        | own a =>
          simp only [frzAt, List.mem_append] at hp
          exact hp.elim (one a) ih
        | sub a _ _ _ _ =>
          simp only [frzAt, List.mem_append] at hp
          exact hp.elim (one a) ih
        | _ => exact ih (by simpa [frzAt] using hp)
theorem retFrz_mem {φ : AS} : ∀ {rs : List ResultVar} {ms : List (List Bool)} {p : Nat × Chunk}, p ∈ retFrz Δ φ rs ms → ∃ e t xs f, φ.mem.get p.1 = some (.rows e t xs f) ∧ p.2 = .rows e t xs true
  | [], _, p, hp => by simp [retFrz] at hp
  | _ :: _, [], p, hp => by simp [retFrz] at hp
  | r :: rs, m :: ms, p, hp => by
    simp only [retFrz, List.mem_append] at hp
    exact hp.elim frzAt_mem retFrz_mem
theorem ret_frz {φ : AS} {rs : List ResultVar} {ms : List (List Bool)} (hI : Inv Z w0 M S0 φ.tm φ.mem.get a w) : Inv Z w0 M S0 (φ.frz (retFrz Δ φ rs ms)).tm (φ.frz (retFrz Δ φ rs ms)).mem.get a w := by
  show Inv Z w0 M S0 φ.tm (Mem.get (putM φ.mem (retFrz Δ φ rs ms))) a w
  rw [putM_get]
  exact frz_is (fun p hp => retFrz_mem hp) hI
theorem args_on {ok ok' : Nat → Prop} : ∀ {as : List Arg} {vs : List Value}, F2 (ArgR w S ok) as vs → (∀ k ∈ ownAs w as vs ++ boxBlks as vs, ok' k) → F2 (ArgR w S ok') as vs
  | [], _, .nil, _ => .nil
  | .val r :: as, v :: vs, .cons h1 h2, h => by
    refine .cons ⟨h1.1, parts_on h1.2 fun k hk => h k ?_⟩ (args_on h2 fun k hk => h k ?_)
    · simp only [ownAs, ownA, List.mem_append]; exact .inl (.inl hk)
    · simp only [ownAs, boxBlks, List.mem_append] at hk ⊢; exact hk.elim (fun h => .inl (.inr h)) (fun h => .inr (.inr h))
  | .box l :: as, v :: vs, .cons h1 h2, h => by
    refine .cons ?_ (args_on h2 fun k hk => h k ?_)
    · obtain ⟨b, rfl, hb⟩ := h1
      have := boxes_on (ls := [l]) (bs := [b]) (ok' := ok') (.cons hb .nil) (fun k hk => h k (by simp only [ownAs, List.mem_append]; exact .inl (.inl hk)))
      cases this with
      | cons g _ => exact ⟨b, rfl, g⟩
    · simp only [ownAs, boxBlks, List.mem_append] at hk ⊢; exact hk.elim (fun h => .inl (.inr h)) (fun h => .inr (.inr h))
  | .fn f ls :: as, v :: vs, .cons h1 h2, h => by
    refine .cons ?_ (args_on h2 fun k hk => h k ?_)
    · obtain ⟨bs, rfl, hb⟩ := h1
      refine ⟨bs, rfl, boxes_on hb fun k hk => h k ?_⟩
      have e0 : (bs.map fun b => Value.pointer (some ⟨b, 0, none⟩)).toArray.toList.flatMap ptrBlk = bs := ptrBlks bs
      simp only [ownAs, ownA, e0, List.mem_append]; exact .inl (.inl hk)
    · simp only [ownAs, boxBlks, List.mem_append] at hk ⊢; exact hk.elim (fun h => .inl (.inr h)) (fun h => .inr (.inr h))
/-- A call of a function, by the interpreter's run of its body. -/
theorem calls_of_exec {mask : List (List Bool)} (hmix : P.follows .mixedOrders = true) (hΔ : TysOk P Δ) (hΓ : EnvOk P Γ) {Λ : Nat → Option LoopSpec} {f : FuncId} {fn : Func} {code : Code} (hf : P.funcs[f]? = some fn) (hb : fn.body = some code)
    {as : List Arg} {r : Res} (hex : execF Δ Γ Λ code fn.results fn.ntmps mask as = some r) {w : World} {S : Nat → Prop} {vs : Array Value} (hS : ∀ b, S b → b < w.heap.size) (hargs : F2 (ArgR w S (fun _ => True)) as vs.toList)
    {bs hs : List Nat} (hbs : boxBlks as vs.toList = bs) (hhs : ownAs w as vs.toList = hs) (hnd : (hs ++ bs).Nodup) (hnS : ∀ b ∈ bs, ¬ S b) : Calls P f vs w (fun e w' => ∃ v, e = .returned v ∧ Back w S bs hs r v w') := by
    refine calls_of_wp hf hb ?_
    let M : Nat → Prop := fun k => k ∈ bs ∨ k ∈ hs
    let η0 : Nat → Value := fun i => match bs[i]? with | some b => .pointer (some ⟨b, 0, none⟩) | none => undef
    have hη : ∀ j b, bs[j]? = some b → η0 j = .pointer (some ⟨b, 0, none⟩) := fun j b hj => by simp [η0, hj]
    have e2 : bs.length = boxCount as := by rw [← hbs]; exact boxBlks_len hargs
    let μ0 : Mu := fun i => if i < boxCount as then some .gone else none
    have hμ0 : ∀ i, μ0 i = if i < boxCount as then some .gone else none := fun _ => rfl
    have hM0 : InvM w M S μ0 η0 S w := by
      refine ⟨Frame0.refl _ w, fun _ h => h, hS, fun b hb => .inl hb, fun id c hg => ?_, fun i j ci cj k hi hj hli hlj hij hki hkj => ?_⟩
      · rw [hμ0] at hg
        split at hg
        · simp only [Option.some.injEq] at hg; subst hg; trivial
        · cases hg
      · rw [hμ0] at hi
        split at hi
        · simp only [Option.some.injEq] at hi; subst hi; simp [Chunk.live] at hli
        · cases hi
    have hnl : ∀ k, ¬ LiveIn μ0 η0 k := by
      rintro k ⟨j, cj, hj, hl, _⟩
      rw [hμ0] at hj
      split at hj
      · simp only [Option.some.injEq] at hj; subst hj; simp [Chunk.live] at hl
      · cases hj
    have hargs' : F2 (ArgR w S (fun k => w.heap.size ≤ k ∨ M k)) as vs.toList := args_on hargs (fun k hk => .inr (by rw [hbs, hhs] at hk; exact (List.mem_append.1 hk).elim .inr .inl))
    have hidsR : F2 (idsR w M S μ0 η0) (List.range' 0 (boxCount as)) (boxBlks as vs.toList) := by
      rw [hbs]
      have : ∀ (l : List Nat) (n : Nat), (∀ j b, l[j]? = some b → bs[n + j]? = some b) → F2 (idsR w M S μ0 η0) (List.range' n l.length) l := by
        intro l
        induction l with
        | nil => intro n _; exact .nil
        | cons b l ih =>
          intro n hl
          have h0 := hl 0 b rfl
          have hlt : n < bs.length := (List.getElem?_eq_some_iff.1 h0).1
          rw [List.length_cons, List.range'_succ]
          refine .cons ⟨by rw [hμ0, if_pos (by omega)], hη n b h0, hnS b (List.mem_of_getElem? h0), .inr (.inl (List.mem_of_getElem? h0))⟩ (ih (n + 1) fun j b' hj => ?_)
          have := hl (j + 1) b' (by simpa using hj)
          rwa [show n + (j + 1) = n + 1 + j by omega] at this
      have := this bs 0 (fun j b hj => by simpa using hj)
      rwa [e2] at this
    obtain ⟨η, bs', hA, e1⟩ := enter_is (N := (enterArgs 0 (boxCount as) as).2.2) (as := as) (n := 0) (m := boxCount as) hM0 (fun i h1 _ => by rw [hμ0, if_neg (by omega)]) (Nat.le_refl _) (by omega) hargs' hidsR (by rw [hhs, hbs]; exact hnd) (fun k _ => hnl k)
    have hmem : Mem.get (putM [] (enterArgs 0 (boxCount as) as).2.1) = muPut μ0 (enterArgs 0 (boxCount as) as).2.1 := by
      rw [putM_get]
      refine muPut_over _ fun i hi => ?_
      have hlt : i < boxCount as := by
        refine Classical.byContradiction fun h => hi ?_
        rw [hμ0, if_neg h]; rfl
      have := enterArgs_keys as 0 (boxCount as) i hlt
      rwa [Nat.zero_add] at this
    have hlen : (enterArgs 0 (boxCount as) as).1.length = vs.size := by rw [e1.length]; simp
    have hlenas : as.length = vs.size := by rw [hargs.length]; simp
    have hI : Inv ((List.range bs.length).zip (bs.map fun b => .pointer (some ⟨b, 0, none⟩))) w (fun k => k ∈ bs ∨ k ∈ hs) S ((enterArgs 0 (boxCount as) as).1 ++ List.replicate (fn.ntmps - as.length) .any) (Mem.get (putM [] (enterArgs 0 (boxCount as) as).2.1))
        { tmps := vs ++ Array.replicate (fn.ntmps - vs.size) undef, defers := [] } w := by
      rw [hmem]
      refine ⟨η, S, ⟨hA.inv, ?_, fun t x ht => ?_, rfl⟩, fun z hz => ?_⟩
      · simp [hlen, hlenas]
      · rw [Array.getD_eq_getD_getElem?, Array.getElem?_append]
        rw [List.getElem?_append] at ht
        rw [hlen] at ht
        split at ht
        · rename_i hlt
          rw [if_pos hlt]
          obtain ⟨v, g1, g2⟩ := e1.get t x ht
          rw [Array.getElem?_toList] at g1
          rw [g1]; exact g2
        · rw [List.getElem?_replicate] at ht
          split at ht
          · simp only [Option.some.injEq] at ht
            subst ht
            trivial
          · cases ht
      · obtain ⟨i, hi⟩ := List.getElem?_of_mem hz
        rw [List.getElem?_zip_eq_some] at hi
        obtain ⟨h1, h2⟩ := hi
        have hib : i < bs.length := by
          have := (List.getElem?_eq_some_iff.1 h1).1
          simpa using this
        rw [List.getElem?_range hib] at h1
        simp only [Option.some.injEq] at h1
        rw [List.getElem?_map, Option.map_eq_some_iff] at h2
        obtain ⟨b, g1, g2⟩ := h2
        rw [← h1, ← g2]
        have hd : dom μ0 i := by unfold dom; rw [hμ0, if_pos (by omega)]; rfl
        exact ⟨hA.stay.d i hd, (hA.stay.η i hd).trans (hη i b g1)⟩
    have hz : ∀ z ∈ (List.range bs.length).zip (bs.map fun b => Value.pointer (some ⟨b, 0, none⟩)), z.1 ∈ List.range (boxCount as) := fun z hz => by
      rw [← e2]
      exact (List.of_mem_zip (a := z.1) (b := z.2) hz).1
    refine wp_mono (exec_sound (Λ := Λ) hmix hΔ hΓ hz code 0 _ _ _ w hex hI) fun e a' w' hp => ?_
    have hret : ∀ (φ : AS), Inv ((List.range bs.length).zip (bs.map fun b => .pointer (some ⟨b, 0, none⟩))) w (fun k => k ∈ bs ∨ k ∈ hs) S φ.tm φ.mem.get a' w' → retAt Δ fn.results.toList (List.range (boxCount as)) φ = some r →
        a'.defers = [] ∧ ∃ v, (results fn a'.tmps).run P w' = .ok v w' ∧ ∃ v', Ending.returned v = .returned v' ∧ Back w S bs hs r v' w' := fun φ hIφ hr => by
      rw [← e2] at hr
      obtain ⟨g1, v, g2, g3⟩ := ret_is hΔ hIφ hr
      exact ⟨g1, v, g2, v, rfl, g3⟩
    cases e with
    | normal => obtain ⟨φ, hIφ, hr⟩ := hp; exact hret _ (ret_frz hIφ) hr
    | ret => obtain ⟨φ, hIφ, hr⟩ := hp; exact hret _ (ret_frz hIφ) hr
    | panic c => exact hp.elim
    | outgrown => exact hp.elim
    | exit i => obtain ⟨φ, _, hr⟩ := hp; simp [retK] at hr
    | goto l => obtain ⟨φ, _, hr⟩ := hp; simp [retK] at hr
/-- A call whose arguments are known more closely. -/
theorem calls_of_avs (hmix : P.follows .mixedOrders = true) (hΔ : TysOk P Δ) (hΓ : EnvOk P Γ) {Λ : Nat → Option LoopSpec} {f : FuncId} {fn : Func} {code : Code} (hf : P.funcs[f]? = some fn) (hb : fn.body = some code)
    {avs : List AV} {r : Res} (hex : exec Δ Γ Λ [] 0 code ⟨avs ++ List.replicate (fn.ntmps - avs.length) .any, []⟩ (retK Δ fn.results.toList [] []) = some r) {w : World} {S : Nat → Prop} {vs : Array Value} (hS : ∀ b, S b → b < w.heap.size)
    (hargs : F2 (AVR w S (dom (Mem.get [])) (fun _ => undef)) avs vs.toList) : Calls P f vs w (fun e w' => ∃ v, e = .returned v ∧ Back w S [] [] r v w') := by
  refine calls_of_wp hf hb ?_
  have hlen : avs.length = vs.size := by rw [hargs.length]; simp
  have hI : Inv [] w (fun k => k ∈ ([] : List Nat) ∨ k ∈ ([] : List Nat)) S (avs ++ List.replicate (fn.ntmps - avs.length) .any) (Mem.get []) { tmps := vs ++ Array.replicate (fn.ntmps - vs.size) undef, defers := [] } w := by
    refine ⟨fun _ => undef, S, ⟨⟨Frame0.refl _ w, fun _ h => h, hS, fun b hb => .inl hb, fun id c hg => by simp [Mem.get] at hg, fun i j ci cj k hi => by simp [Mem.get] at hi⟩, ?_, fun t x ht => ?_, rfl⟩, fun z hz => by simp at hz⟩
    · simp [hlen]
    · rw [Array.getD_eq_getD_getElem?, Array.getElem?_append]
      rw [List.getElem?_append, hlen] at ht
      split at ht
      · rename_i hlt
        rw [if_pos hlt]
        obtain ⟨v, g1, g2⟩ := hargs.get t x ht
        rw [Array.getElem?_toList] at g1
        rw [g1]; exact g2
      · rw [List.getElem?_replicate] at ht
        split at ht
        · simp only [Option.some.injEq] at ht
          subst ht
          trivial
        · cases ht
  refine wp_mono (exec_sound (Z := []) (Λ := Λ) hmix hΔ hΓ (by simp) code 0 _ _ _ w hex hI) fun e a' w' hp => ?_
  have hret : ∀ (φ : AS), Inv [] w (fun k => k ∈ ([] : List Nat) ∨ k ∈ ([] : List Nat)) S φ.tm φ.mem.get a' w' → retAt Δ fn.results.toList [] φ = some r →
      a'.defers = [] ∧ ∃ v, (results fn a'.tmps).run P w' = .ok v w' ∧ ∃ v', Ending.returned v = .returned v' ∧ Back w S [] [] r v' w' := fun φ hIφ hr => by
    obtain ⟨g1, v, g2, g3⟩ := ret_is (bs := []) (hs := []) hΔ hIφ hr
    exact ⟨g1, v, g2, v, rfl, g3⟩
  cases e with
  | normal => obtain ⟨φ, hIφ, hr⟩ := hp; exact hret _ (ret_frz hIφ) hr
  | ret => obtain ⟨φ, hIφ, hr⟩ := hp; exact hret _ (ret_frz hIφ) hr
  | panic c => exact hp.elim
  | outgrown => exact hp.elim
  | exit i => obtain ⟨φ, _, hr⟩ := hp; simp [retK] at hr
  | goto l => obtain ⟨φ, _, hr⟩ := hp; simp [retK] at hr
/-- A function of one slice that asks whether it is nil: the same answer either way. -/
theorem callOk_nilness (hmix : P.follows .mixedOrders = true) (hΔ : TysOk P Δ) (hΓ : EnvOk P Γ) {Λ : Nat → Option LoopSpec} {f : FuncId} {fn : Func} {code : Code} (hf : P.funcs[f]? = some fn) (hb : fn.body = some code)
    (hname : (fn.name == "runtime.NumGoroutine") = false) {G : Spec} (h : ∀ as c dc r, G as = .yes c dc r → c → ∃ t xs, as = [.val (false, [(none, ⟨.slice t, xs⟩)])] ∧
      (xs = [] → exec Δ Γ Λ [] 0 code ⟨lv (.kn ⟨.slice t, []⟩ true) :: List.replicate (fn.ntmps - 1) .any, []⟩ (retK Δ fn.results.toList [] []) = some r) ∧
      exec Δ Γ Λ [] 0 code ⟨lv (.kn ⟨.slice t, xs⟩ false) :: List.replicate (fn.ntmps - 1) .any, []⟩ (retK Δ fn.results.toList [] []) = some r) : CallOk P f G := by
  intro as c dc r hG hc w S vs hS hargs hnd hnS
  obtain ⟨t, xs, rfl, h1, h2⟩ := h as c dc r hG hc
  have hn : fn.name ≠ "runtime.NumGoroutine" := by simpa using hname
  intro o a next Q hnext
  have hcf : (callFunc f vs).run P w = .ok (.enter f vs) w := by simp [callFunc, hf, hn, hb]
  rw [hcf, Oper.upon_enter]
  obtain ⟨v, hvs, hcr⟩ : ∃ v, vs.toList = [v] ∧ CR w S (.slice t) [v] xs := by
    generalize vs.toList = l at hargs
    cases hargs with
    | cons a b =>
      cases b
      rename_i v
      refine ⟨v, rfl, ?_⟩
      obtain ⟨_, h4⟩ := a
      cases h4 with
      | cons c d => exact c
  have hbs : boxBlks [.val (false, [(none, (⟨.slice t, xs⟩ : D))])] vs.toList = [] := by rw [hvs]; rfl
  have hos : ownAs w [.val (false, [(none, (⟨.slice t, xs⟩ : D))])] vs.toList = [] := by rw [hvs]; rfl
  obtain ⟨A, n, hv, hle, hmx, hrow⟩ := hcr
  simp only [List.cons.injEq, and_true] at hv
  have hback : Calls P f vs w (fun e w' => ∃ v, e = .returned v ∧ Back w S [] [] r v w') := by
    cases hA : A.isNone with
    | true =>
      have hx : xs = [] := by
        cases xs with
        | nil => rfl
        | cons x l =>
          obtain ⟨b, oo, cs, hA', _⟩ := hrow 0 x rfl
          rw [hA'] at hA; cases hA
      subst hx
      refine calls_of_avs (avs := [lv (.kn ⟨.slice t, []⟩ true)]) hmix hΔ hΓ hf hb (h1 rfl) hS ?_
      rw [hvs]
      exact .cons ⟨⟨A, n, by rw [hv], hle, hmx, hrow⟩, A, _, n, hv, hA⟩ .nil
    | false =>
      refine calls_of_avs (avs := [lv (.kn ⟨.slice t, xs⟩ false)]) hmix hΔ hΓ hf hb h2 hS ?_
      rw [hvs]
      exact .cons ⟨⟨A, n, by rw [hv], hle, hmx, hrow⟩, A, _, n, hv, hA⟩ .nil
  refine hback.mono fun e w' he => ?_
  obtain ⟨v', rfl, hback⟩ := he
  exact hnext v' w' (by rw [hbs, hos]; exact hback)
/-- A CONTRACT: what the interpreter's run of the body comes to is what the function's calls come to. -/
theorem callOk_of_exec {mask : List (List Bool)} (hmix : P.follows .mixedOrders = true) (hΔ : TysOk P Δ) (hΓ : EnvOk P Γ) {Λ : Nat → Option LoopSpec} {f : FuncId} {fn : Func} {code : Code} (hf : P.funcs[f]? = some fn) (hb : fn.body = some code)
    (hname : (fn.name == "runtime.NumGoroutine") = false) {G : Spec} (h : ∀ as c dc r, G as = .yes c dc r → c → execF Δ Γ Λ code fn.results fn.ntmps mask as = some (r.full as)) : CallOk P f G := by
  intro as c dc r hG hc w S vs hS hargs hnd hnS
  have hex := h as c dc r hG hc
  have hn : fn.name ≠ "runtime.NumGoroutine" := by simpa using hname
  intro o a next Q hnext
  have hcf : (callFunc f vs).run P w = .ok (.enter f vs) w := by simp [callFunc, hf, hn, hb]
  rw [hcf, Oper.upon_enter]
  refine (calls_of_exec hmix hΔ hΓ hf hb hex hS hargs rfl rfl hnd hnS).mono fun e w' he => ?_
  obtain ⟨v, rfl, hback⟩ := he
  exact hnext v w' hback
/-- A law's call: it answers 'true' and changes nothing that was there. -/
theorem law_of_exec {mask : List (List Bool)} (hmix : P.follows .mixedOrders = true) (hΔ : TysOk P Δ) (hΓ : EnvOk P Γ) {Λ : Nat → Option LoopSpec} {f : FuncId} {fn : Func} {code : Code} (hf : P.funcs[f]? = some fn) (hb : fn.body = some code)
    {as : List Arg} (hex : execF Δ Γ Λ code fn.results fn.ntmps mask as = some ⟨.val (false, [(none, ⟨.bool, true⟩)]), []⟩) {w : World} {S : Nat → Prop} {vs : Array Value} (hS : ∀ b, S b → b < w.heap.size) (hargs : F2 (ArgD w S) as vs.toList)
    (hbs : boxBlks as vs.toList = []) : Calls P f vs w (fun e w' => e = .returned (.bool true) ∧ Below w.heap.size w w') := by
  refine (calls_of_exec hmix hΔ hΓ hf hb hex hS (hargs.imp fun _ _ => ArgD.arg) hbs (ArgsD.blks hargs) .nil (fun b hb => by simp at hb)).mono fun e w' he => ?_
  obtain ⟨v, rfl, S', hback⟩ := he
  have hv : v = .bool true := by
    obtain ⟨_, h2⟩ := hback.out
    cases h2 with
    | cons h3 _ => simpa [PartR, CR] using h3
  subst hv
  exact ⟨rfl, hback.frame.os, hback.frame.tape, hback.frame.output, hback.frame.size, fun k hk => hback.frame.block k hk (by simp)⟩
theorem flatParts_is : ∀ {fs : List (Option TypeId)} {l : List Part} {ds : List D}, flatParts fs l = some ds → ∀ rest, packParts fs (ds ++ rest) = (l, rest)
  | [], [], ds, h, rest => by simp only [flatParts, Option.some.injEq] at h; subst h; rfl
  | f :: fs, p :: ps, ds, h, rest => by
    unfold flatParts at h
    split at h
    · rename_i hp
      simp only [Option.map_eq_some_iff] at h
      obtain ⟨l, h1, rfl⟩ := h
      have ih := flatParts_is h1 rest
      simp only [List.cons_append, packParts, ih]
      rw [← hp]
    · cases h
  | [], _ :: _, _, h, _ => by simp [flatParts] at h
  | _ :: _, [], _, h, _ => by simp [flatParts] at h
theorem flatBoxes_is : ∀ {fss : List (List (Option TypeId))} {ls : List (List Part)} {ds : List D}, flatBoxes fss ls = some ds → ∀ rest, packBoxes fss (ds ++ rest) = (ls, rest)
  | [], [], ds, h, rest => by simp only [flatBoxes, Option.some.injEq] at h; subst h; rfl
  | fs :: fss, l :: ls, ds, h, rest => by
    simp only [flatBoxes, Option.bind_eq_some_iff, Option.map_eq_some_iff] at h
    obtain ⟨x, h1, y, h2, rfl⟩ := h
    simp only [packBoxes, List.append_assoc, flatParts_is h1, flatBoxes_is h2 rest]
  | [], _ :: _, _, h, _ => by simp [flatBoxes] at h
  | _ :: _, [], _, h, _ => by simp [flatBoxes] at h
theorem flatArg_is {k : AK} {a : Arg} {ds : List D} (h : flatArg k a = some ds) (rest : List D) : packArg k (ds ++ rest) = (a, rest) := by
  unfold flatArg at h
  split at h
  · split at h
    · rename_i e; subst e; simp only [packArg, flatParts_is h]
    · cases h
  · simp only [packArg, flatParts_is h]
  · split at h
    · rename_i e; subst e; simp only [packArg, flatBoxes_is h]
    · cases h
  · cases h
theorem flatArgs_is : ∀ {ks : List AK} {as : List Arg} {ds : List D}, flatArgs ks as = some ds → packArgs ks ds = as
  | [], [], ds, h => rfl
  | k :: ks, a :: as, ds, h => by
    simp only [flatArgs, Option.bind_eq_some_iff, Option.map_eq_some_iff] at h
    obtain ⟨x, h1, y, h2, rfl⟩ := h
    simp only [packArgs, flatArg_is h1, flatArgs_is h2]
  | [], _ :: _, _, h => by simp [flatArgs] at h
  | _ :: _, [], _, h => by simp [flatArgs] at h
theorem unpack_is {ks : List AK} {tys : List Ty} {as : List Arg} {d : Tup tys} (h : unpack ks tys as = some d) : as = packArgs ks (Tup.list tys d) := by
  simp only [unpack, Option.bind_eq_some_iff] at h
  obtain ⟨l, h1, h2⟩ := h
  rw [tup_of h2]; exact (flatArgs_is h1).symm
theorem int_arg {w : World} {S : Nat → Prop} (k : IntKind) (n : Int) : ArgD w S (.val (false, [(none, ⟨.int k, n⟩)])) (.int k n) := ⟨fun h => by simp at h, .cons ⟨rfl, rfl⟩ .nil⟩
theorem bool_arg {w : World} {S : Nat → Prop} (b : Bool) : ArgD w S (.val (false, [(none, ⟨.bool, b⟩)])) (.bool b) := ⟨fun h => by simp at h, .cons ⟨rfl, rfl⟩ .nil⟩
theorem str_arg {w : World} {S : Nat → Prop} (b : ByteArray) : ArgD w S (.val (false, [(none, ⟨.str, b⟩)])) (.string b) := ⟨fun h => by simp at h, .cons ⟨rfl, rfl⟩ .nil⟩
/-- A function without a body that only answers. -/
theorem callOk_value {f : FuncId} {G : Spec} (h : ∀ as c dc r, G as = .yes c dc r → c → ∀ (w : World) (S : Nat → Prop) (vs : Array Value), F2 (ArgR w S (fun _ => True)) as vs.toList →
    ∃ v, (callFunc f vs).run P w = .ok (.value v) w ∧ OutR w S (fun k => w.heap.size ≤ k) r.out v ∧ r.boxes = [] ∧ boxBlks as vs.toList = [] ∧ ownOut r.out v = []) : CallOk P f G := by
  intro as c dc r hG hc w S vs hS hargs hnd hnS o a next Q hnext
  obtain ⟨v, h1, h2, h3, h4, h5⟩ := h as c dc r hG hc w S vs hargs
  rw [h1, Oper.upon_value]
  have e : (r.full as).boxes = [] := by show fullB as r.boxes = []; rw [h3]; exact fullB_nil as
  have h2' : OutR w S (fun k => w.heap.size ≤ k ∨ k ∈ ownAs w as vs.toList) r.out v := by
    cases hr : r.out with
    | val x => rw [hr] at h2; exact RVR_mono (fun _ => .inl) h2
    | tup l =>
      rw [hr] at h2
      obtain ⟨vs, g1, g2⟩ := h2
      exact ⟨vs, g1, g2.imp fun _ _ => RVR_mono fun _ => .inl⟩
    | ptr l =>
      rw [hr] at h2
      obtain ⟨b, T, cs, g1, g2, g3, g4, g5⟩ := h2
      exact ⟨b, T, cs, g1, g2, g3, g4, .inl g5⟩
  refine hnext v w ⟨S, Frame0.refl _ w, fun _ h => h, hS, fun b hb => .inl hb, h2', ?_, ?_⟩
  · rw [e, h4]; exact .nil
  · rw [e, h4]; show (ownOut r.out v ++ _).Nodup; rw [h5]; exact .nil
end
end Go.Ab
