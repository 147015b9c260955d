/- The step of any operation ('Ab'), and what it depends on. -/
import Derived.Test.YtlcibodnpogfhaaAbOps7
set_option linter.unusedVariables false
set_option linter.unusedSimpArgs false
set_option linter.unnecessarySimpa false
namespace Go.Ab
open Go.RowKit
section
variable {P : Program} {Δ : Tys} {Γ : Env} {w0 w w' : World} {M S0 S : Nat → Prop} {tm : List AV} {μ μ' : Mu} {η η' : Nat → Value} {a : Act} {o : Oper}
theorem tys_kind_str (hΔ : TysOk P Δ) {T : TypeId} (h : kindOf Δ T = some .str) : P.underlying T = some .string := by
  unfold kindOf at h
  cases hg : Δ.get T with
  | none => rw [hg] at h; simp at h
  | some i =>
    rw [hg] at h
    simp at h
    obtain ⟨d, hd, hk⟩ := (hΔ T i hg).und
    rw [h] at hk
    cases d <;> simp [descOk] at hk
    exact hd
theorem comp_told (hI : InvX w0 M S0 tm μ η S a w) (hΔ : TysOk P Δ) (hΓ : EnvOk P Γ) {new : Nat} (hfree : ∀ i, new ≤ i → i < new + 16 → μ i = none) :
    Told w0 M S0 μ η S P o a w (comp Δ Γ new o (evalA tm) μ) := by
  have hM := hI.mem
  have hρ : ∀ x, AVR w S (dom μ) η (evalA tm x) (a.eval x) := fun x => evalA_is hI x
  have hnew : μ new = none := hfree new (Nat.le_refl _) (by omega)
  unfold comp
  split
  · rename_i x ho; exact told_moveAny hM hnew x (.inl ho) (hρ x)
  · rename_i x ho; exact told_moveAny hM hnew x (.inr ho) (hρ x)
  · rename_i c x y ho
    split
    · rename_i t ht; exact told_pick hM c x y ho (hρ c) ht (hρ x) (hρ y)
    · exact .no
  · rename_i op T x y U ho
    split
    · rename_i hn; exact told_binNil hM hΔ op T U x y ho (hρ x) (hρ y) hn
    · exact told_bin hM op T U x y ho (hρ x) (hρ y) hΔ
  · rename_i op T x ho; exact told_un hM op T x ho (hρ x)
  · rename_i s d x ho
    unfold cConvAny
    split
    · rename_i hd; exact told_toStr hM hΔ s d x ho (kind_str hΔ hd) (hρ x)
    · rename_i e hd
      split
      · exact told_toBytes hM hΔ s d e x ho (kind_slice hΔ hd) (hρ x)
      · exact told_mark hM hΔ s d x ho (hρ x)
    · split
      · rename_i hs
        obtain ⟨i, hi⟩ := Option.isSome_iff_exists.1 hs
        obtain ⟨u, hu, _⟩ := (hΔ s i hi).und
        exact told_conv hM hΔ s d x ho (by rw [hu]; rfl) (hρ x)
      · exact .no
  · rename_i x j ho; exact told_extract hM x j ho (hρ x)
  · rename_i T ho; exact told_alloc hM hΔ hfree T ho
  · rename_i T x ho; exact told_box hM hnew T x ho (hρ x)
  · rename_i T x ho; exact told_load hM hΔ T x ho (hρ x)
  · rename_i T x y ho; exact told_store hM hΔ T x y ho (hρ x) (hρ y)
  · rename_i x ho; exact told_nil hM x ho (hρ x)
  · rename_i T x j ho; exact told_fieldAddr hM hΔ T x j ho (hρ x)
  · rename_i T x j ho; exact told_field hM hΔ T x j ho (hρ x)
  · rename_i T x j ho; exact told_indexAddr hM hΔ T x j ho (hρ x) (hρ j)
  · rename_i fn first captured ho
    split
    · rename_i f hfirst
      have hf0 : first = #[] := Array.ext' hfirst
      subst hf0
      exact told_makeFunc hM f captured ho hρ
    · exact .no
  · rename_i T x j ho
    split
    · rename_i hk; exact told_index hM T x j ho (tys_kind_str hΔ hk) (hρ x) (hρ j)
    · exact .no
  · rename_i T ps ho; exact told_build hM hΔ hfree T ps ho hρ
  · rename_i T n ps ho; exact told_buildSlice hM hΔ hnew T n ps ho hρ
  · rename_i T x y ho; exact told_makeSlice hM hΔ hnew T x y ho (hρ x) (hρ y)
  · rename_i T x lo hi mx ho; exact told_sliceAny hM hΔ T x lo hi mx ho hρ
  · rename_i c ho
    split
    · rename_i hc
      split
      · rename_i x T h1 h2
        exact told_len hM hΔ T x c ho hc (Array.ext' h1) (Array.ext' h2) (hρ x)
      · exact .no
    · rename_i hc; exact told_min hM c ho hc hρ
    · rename_i hc; exact told_max hM c ho hc hρ
    · rename_i hc
      split
      · rename_i x T h1 h2
        exact told_clear hM hΔ T x c ho hc (Array.ext' h1) (Array.ext' h2) (hρ x)
      · exact .no
    · rename_i hc
      split
      · rename_i x y T U h1 h2
        unfold cAppendAny
        split
        · rename_i hTU
          subst hTU
          split
          · exact told_append_cl hM hΔ T x y c ho hc (Array.ext' h1) (Array.ext' h2) (hρ x) (hρ y)
          · exact told_append hM hΔ hnew T x y c ho hc (Array.ext' h1) (Array.ext' h2) (hρ x) (hρ y)
        · exact told_append_str hM hΔ hnew T U x y c ho hc (Array.ext' h1) (Array.ext' h2) (hρ x) (hρ y)
      · exact .no
    · rename_i f' hc
      split
      · rename_i f caps hf
        split
        · rename_i G hG
          split
          · rename_i hlen
            exact told_call hM hfree c ho f' hc f _ (hΓ f G hG) hρ hf hlen.1 hlen.2
          · exact .no
        · exact .no
      · exact .no
    · exact .no
  · exact .no

/-! ### what a step depends on -/
theorem leafD_congr {ty : TypeId} {l : Leaf} (h : ∀ id ∈ leafIds l, μ id = μ' id) : leafD Δ μ ty l = leafD Δ μ' ty l := by
  cases l <;> simp only [leafD]
  · rename_i id
    rw [h id (by simp [leafIds])]
  · rename_i id sz lo hi pre
    rw [h id (by simp [leafIds])]
theorem leafDs_congr : ∀ {ls : List Leaf}, (∀ id ∈ ls.flatMap leafIds, μ id = μ' id) → leafDs Δ μ ls = leafDs Δ μ' ls
  | [], _ => rfl
  | l :: ls, h => by
    simp only [leafDs]
    rw [leafD_congr (fun id hid => h id (by simp [hid])), leafDs_congr (fun id hid => h id (by simp only [List.flatMap_cons, List.mem_append]; exact .inr hid))]
theorem sliceOf_congr {l : Leaf} (h : ∀ id ∈ leafIds l, μ id = μ' id) : sliceOf μ l = sliceOf μ' l := by
  unfold sliceOf
  split
  · rfl
  · rfl
  · rfl
  · rename_i id; rw [h id (by simp [leafIds])]
  · rename_i id _ _ _ _; rw [h id (by simp [leafIds])]
  · rfl
theorem regD_congr {ty : TypeId} {r : Reg} (h : ∀ id ∈ regIds r, μ id = μ' id) : regD Δ μ ty r = regD Δ μ' ty r := by
  unfold regD
  split
  · rename_i l; rw [leafD_congr (fun id hid => h id (by simpa [regIds] using hid))]
  · rename_i ls; rw [leafDs_congr (fun id hid => h id (by simpa [regIds] using hid))]
  · rfl
theorem avIds_one {l : Leaf} {id : Nat} (h : id ∈ leafIds l) : id ∈ avIds (.val (false, [l])) := by simpa [avIds, regIds] using h
theorem cLoad_congr {T : TypeId} {x : AV} (h : ∀ id ∈ avIds x, μ id = μ' id) : cLoad Δ μ T x = cLoad Δ μ' T x := by
  unfold cLoad
  split
  · rename_i id off; rw [h id (avIds_one (by simp [leafIds]))]
  · rfl
  · rename_i id sz i off; rw [h id (avIds_one (by simp [leafIds]))]
  · rfl
theorem cStore_congr {T : TypeId} {x v : AV} (h : ∀ id ∈ avIds x, μ id = μ' id) (h' : ∀ id ∈ avIds v, μ id = μ' id) : cStore Δ μ T x v = cStore Δ μ' T x v := by
  unfold cStore
  split
  · rename_i id sz i off
    unfold cStoreElt
    split
    · rename_i r ti _
      rw [regD_congr (r := r) h', h id (avIds_one (by simp [leafIds]))]
    · rfl
  · unfold cStoreBox
    split
    · rename_i id off vs i _ _ _; rw [h id (avIds_one (by simp [leafIds]))]
    · rfl
theorem cIndexAddr_congr {T : TypeId} {x j : AV} (h : ∀ id ∈ avIds x, μ id = μ' id) : cIndexAddr Δ μ T x j = cIndexAddr Δ μ' T x j := by
  unfold cIndexAddr
  split
  · rename_i e _ _ _ l k i _ _
    rw [sliceOf_congr (fun id hid => h id (avIds_one hid))]
  · rfl
  · rfl
theorem cSlice_congr {T : TypeId} {x : AV} {lo hi mx : Option AV} (h : ∀ id ∈ avIds x, μ id = μ' id) : cSlice Δ μ T x lo hi mx = cSlice Δ μ' T x lo hi mx := by
  unfold cSlice
  split
  · split
    · rename_i e _ _ _ l _
      rw [leafD_congr (fun id hid => h id (avIds_one hid))]
    · rfl
  · split
    · rename_i e _ _ _ l _
      rw [leafD_congr (fun id hid => h id (avIds_one hid))]
    · rfl
    · rfl
theorem cSliceAny_congr {T : TypeId} {x : AV} {lo hi mx : Option AV} (h : ∀ id ∈ avIds x, μ id = μ' id) : cSliceAny Δ μ T x lo hi mx = cSliceAny Δ μ' T x lo hi mx := by
  unfold cSliceAny
  split
  · exact cSlice_congr h
  · split
    · rename_i id
      have e := h id (avIds_one (by simp [leafIds]))
      have e1 : isOwnRow μ id = isOwnRow μ' id := by unfold isOwnRow; rw [e]
      have e2 : cSliceOwn Δ μ T id lo hi = cSliceOwn Δ μ' T id lo hi := by unfold cSliceOwn; rw [e]
      rw [e1, e2, cSlice_congr h]
    · rfl
    · exact cSlice_congr h
theorem cClear_congr {T : TypeId} {x : AV} (h : ∀ id ∈ avIds x, μ id = μ' id) : cClear Δ μ T x = cClear Δ μ' T x := by
  unfold cClear
  split
  · rename_i id _ _ _ _ _; rw [h id (avIds_one (by simp [leafIds]))]
  · rfl
theorem cLen_congr {T : TypeId} {x : AV} (h : ∀ id ∈ avIds x, μ id = μ' id) : cLen Δ μ T x = cLen Δ μ' T x := by
  unfold cLen
  split
  · rfl
  · rename_i e _ _ _ l _
    rw [sliceOf_congr (fun id hid => h id (avIds_one hid))]
  · rfl
theorem cAppend_congr {new : Nat} {T : TypeId} {x y : AV} (h : ∀ id ∈ avIds x, μ id = μ' id) (h' : ∀ id ∈ avIds y, μ id = μ' id) : cAppend Δ μ new T x y = cAppend Δ μ' new T x y := by
  unfold cAppend
  split
  · rename_i id l e _ _ _ _
    rw [sliceOf_congr (fun i hid => h' i (avIds_one hid)), h id (avIds_one (by simp [leafIds]))]
  · rfl
theorem cAppendCl_congr {T : TypeId} {x y : AV} (h' : ∀ id ∈ avIds y, μ id = μ' id) : cAppendCl Δ μ T x y = cAppendCl Δ μ' T x y := by
  unfold cAppendCl
  split
  · rw [sliceOf_congr (fun i hid => h' i (avIds_one hid))]
  · rfl
theorem cAppendStr_congr {new : Nat} {T U : TypeId} {x y : AV} (h : ∀ id ∈ avIds x, μ id = μ' id) : cAppendStr Δ μ new T U x y = cAppendStr Δ μ' new T U x y := by
  unfold cAppendStr
  split
  · rw [h _ (avIds_one (by simp [leafIds]))]
  · rfl
theorem cAppendAny_congr {new : Nat} {T U : TypeId} {x y : AV} (h : ∀ id ∈ avIds x, μ id = μ' id) (h' : ∀ id ∈ avIds y, μ id = μ' id) : cAppendAny Δ μ new T U x y = cAppendAny Δ μ' new T U x y := by
  unfold cAppendAny
  rw [cAppendCl_congr h', cAppend_congr h h', cAppendStr_congr h]
theorem cMoveAny_congr {new : Nat} {ty : TypeId} {x : AV} (h : ∀ id ∈ avIds x, μ id = μ' id) : cMoveAny Δ μ new ty x = cMoveAny Δ μ' new ty x := by
  have e : cMoveRo Δ μ new ty x = cMoveRo Δ μ' new ty x := by
    unfold cMoveRo
    split
    · rfl
    · rw [leafD_congr (fun i hid => h i (avIds_one hid))]
    · rfl
  unfold cMoveAny
  rw [e]
theorem cConvAny_congr {s t : TypeId} {x : AV} (h : ∀ id ∈ avIds x, μ id = μ' id) : cConvAny Δ μ s t x = cConvAny Δ μ' s t x := by
  have e : cToStr Δ μ s x = cToStr Δ μ' s x := by
    unfold cToStr
    split
    · rw [sliceOf_congr (fun i hid => h i (avIds_one hid))]
    · rfl
  have e2 : cMark Δ μ s t x = cMark Δ μ' s t x := by
    unfold cMark
    split
    · rw [h _ (avIds_one (by simp [leafIds]))]
    · rfl
  unfold cConvAny
  rw [e, e2]
theorem boxesD_congr : ∀ {caps : List Nat}, (∀ id ∈ reachIds μ caps, μ id = μ' id) → boxesD Δ μ caps = boxesD Δ μ' caps
  | [], _ => rfl
  | id :: caps, h => by
    have h0 : μ id = μ' id := h id (List.mem_append_left _ (by simp))
    have ih : boxesD Δ μ caps = boxesD Δ μ' caps := boxesD_congr fun i hi => h i (by
      rcases List.mem_append.1 hi with hi | hi
      · exact List.mem_append_left _ (by simp [hi])
      · exact List.mem_append_right _ (by simp only [List.flatMap_cons, List.mem_append]; exact .inr hi))
    unfold boxesD
    rw [ih, ← h0]
    cases hid : μ id with
    | none => rfl
    | some c =>
      cases c with
      | box ls =>
        simp only
        rw [leafDs_congr (fun i hi => h i (List.mem_append_right _ (List.mem_flatMap.2 ⟨id, by simp, by rw [hid]; exact hi⟩)))]
      | rows => rfl
      | gone => rfl
theorem handOf_congr {ty : TypeId} {l : Leaf} (h : ∀ id ∈ leafIds l, μ id = μ' id) : handOf Δ μ ty l = handOf Δ μ' ty l := by
  unfold handOf
  split
  · rename_i id; rw [h id (by simp [leafIds])]
  · rw [leafD_congr h]
theorem handsOf_congr : ∀ {ls : List Leaf}, (∀ id ∈ ls.flatMap leafIds, μ id = μ' id) → handsOf Δ μ ls = handsOf Δ μ' ls
  | [], _ => rfl
  | l :: ls, h => by
    simp only [handsOf]
    rw [handOf_congr (fun id hid => h id (by simp [hid])), handsOf_congr (fun id hid => h id (by simp only [List.flatMap_cons, List.mem_append]; exact .inr hid))]
theorem boxesO_congr : ∀ {caps : List Nat}, (∀ id ∈ reachIds μ caps, μ id = μ' id) → boxesO Δ μ caps = boxesO Δ μ' caps
  | [], _ => rfl
  | id :: caps, h => by
    have h0 : μ id = μ' id := h id (List.mem_append_left _ (by simp))
    have ih : boxesO Δ μ caps = boxesO Δ μ' caps := boxesO_congr fun i hi => h i (by
      rcases List.mem_append.1 hi with hi | hi
      · exact List.mem_append_left _ (by simp [hi])
      · exact List.mem_append_right _ (by simp only [List.flatMap_cons, List.mem_append]; exact .inr hi))
    unfold boxesO
    rw [ih, ← h0]
    cases hid : μ id with
    | none => rfl
    | some c =>
      cases c with
      | box ls =>
        simp only
        rw [handsOf_congr (fun i hi => h i (List.mem_append_right _ (List.mem_flatMap.2 ⟨id, by simp, by rw [hid]; exact hi⟩)))]
      | rows => rfl
      | gone => rfl
theorem toArgO_congr {ty : TypeId} {x : AV} (h : ∀ id ∈ reachIds μ (avIds x), μ id = μ' id) : toArgO Δ μ ty x = toArgO Δ μ' ty x := by
  have h0 : ∀ id ∈ avIds x, μ id = μ' id := fun id hid => h id (List.mem_append_left _ hid)
  unfold toArgO
  split
  · rename_i id
    have e := h0 id (avIds_one (by simp [leafIds]))
    rw [← e]
    cases hid : μ id with
    | none => rfl
    | some c =>
      cases c with
      | box ls =>
        simp only
        rw [handsOf_congr (fun i hi => h i (List.mem_append_right _ (List.mem_flatMap.2 ⟨id, avIds_one (by simp [leafIds]), by rw [hid]; exact hi⟩)))]
      | rows => rfl
      | gone => rfl
  · rename_i f caps
    rw [boxesO_congr (fun id hid => h id (by simpa [avIds, regIds, leafIds] using hid))]
  · rename_i l _ _; rw [handOf_congr (fun id hid => h0 id (avIds_one hid))]
  · rename_i ls; rw [handsOf_congr (fun id hid => h0 id (by simpa [avIds, regIds] using hid))]
  · rfl
theorem toArgsO_congr : ∀ {l : List (AV × TypeId)}, (∀ x ∈ l, ∀ id ∈ reachIds μ (avIds x.1), μ id = μ' id) → toArgsO Δ μ l = toArgsO Δ μ' l
  | [], _ => rfl
  | x :: l, h => by
    simp only [toArgsO]
    rw [toArgO_congr (h x (by simp)), toArgsO_congr (fun y hy => h y (by simp [hy]))]
theorem toArgsO_ids : ∀ {l : List (AV × TypeId)} {as : List Arg} {ids rids : List Nat}, toArgsO Δ μ l = some (as, ids, rids) → ∀ id ∈ ids, ∃ x ∈ l, id ∈ avIds x.1
  | [], as, ids, rids, h, id, hid => by
    simp only [toArgsO, Option.some.injEq, Prod.mk.injEq] at h
    obtain ⟨_, rfl, _⟩ := h
    simp at hid
  | x :: l, as, ids, rids, h, id, hid => by
    simp only [toArgsO, Option.bind_eq_some_iff, Option.some.injEq, Prod.mk.injEq] at h
    obtain ⟨p, hp, q, hq, _, rfl, _⟩ := h
    rcases List.mem_append.1 hid with hid | hid
    · refine ⟨x, by simp, ?_⟩
      unfold toArgO at hp
      split at hp
      · rename_i id0 hx
        split at hp
        · simp only [Option.map_eq_some_iff] at hp
          obtain ⟨d, _, rfl⟩ := hp
          simp only [List.mem_singleton] at hid
          subst hid
          rw [hx]; exact avIds_one (by simp [leafIds])
        · cases hp
      · rename_i f caps hx
        simp only [Option.map_eq_some_iff] at hp
        obtain ⟨d, _, rfl⟩ := hp
        rw [hx]; exact avIds_one (by simpa [leafIds] using hid)
      · simp only [Option.map_eq_some_iff] at hp
        obtain ⟨d, _, rfl⟩ := hp
        simp at hid
      · simp only [Option.map_eq_some_iff] at hp
        obtain ⟨d, _, rfl⟩ := hp
        simp at hid
      · cases hp
    · obtain ⟨y, hy, h2⟩ := toArgsO_ids (show toArgsO Δ μ l = some (q.1, q.2.1, q.2.2) from hq) id hid
      exact ⟨y, List.mem_cons_of_mem _ hy, h2⟩
theorem toArg_congr {ty : TypeId} {x : AV} (h : ∀ id ∈ reachIds μ (avIds x), μ id = μ' id) : toArg Δ μ ty x = toArg Δ μ' ty x := by
  have h0 : ∀ id ∈ avIds x, μ id = μ' id := fun id hid => h id (List.mem_append_left _ hid)
  unfold toArg
  split
  · rename_i id
    have e := h0 id (avIds_one (by simp [leafIds]))
    rw [← e]
    cases hid : μ id with
    | none => rfl
    | some c =>
      cases c with
      | box ls =>
        simp only
        rw [leafDs_congr (fun i hi => h i (List.mem_append_right _ (List.mem_flatMap.2 ⟨id, avIds_one (by simp [leafIds]), by rw [hid]; exact hi⟩)))]
      | rows => rfl
      | gone => rfl
  · rename_i f caps
    rw [boxesD_congr (fun id hid => h id (by simpa [avIds, regIds, leafIds] using hid))]
  · rename_i r _ _; rw [regD_congr (fun id hid => h0 id hid)]
  · rfl
theorem toArgs_congr : ∀ {l : List (AV × TypeId)}, (∀ x ∈ l, ∀ id ∈ reachIds μ (avIds x.1), μ id = μ' id) → toArgs Δ μ l = toArgs Δ μ' l
  | [], _ => rfl
  | x :: l, h => by
    simp only [toArgs]
    rw [toArg_congr (h x (by simp)), toArgs_congr (fun y hy => h y (by simp [hy]))]
theorem toArgs_ids : ∀ {l : List (AV × TypeId)} {as : List Arg} {fz : Mem} {ids : List Nat}, toArgs Δ μ l = some (as, fz, ids) → ∀ id ∈ ids, ∃ x ∈ l, id ∈ avIds x.1
  | [], as, fz, ids, h, id, hid => by
    simp only [toArgs, Option.some.injEq, Prod.mk.injEq] at h
    obtain ⟨_, _, rfl⟩ := h
    simp at hid
  | x :: l, as, fz, ids, h, id, hid => by
    simp only [toArgs, Option.bind_eq_some_iff, Option.some.injEq, Prod.mk.injEq] at h
    obtain ⟨p, hp, q, hq, _, _, rfl⟩ := h
    rcases List.mem_append.1 hid with hid | hid
    · refine ⟨x, by simp, ?_⟩
      unfold toArg at hp
      split at hp
      · rename_i id0 hx
        split at hp
        · simp only [Option.map_eq_some_iff] at hp
          obtain ⟨d, _, rfl⟩ := hp
          simp only [List.mem_singleton] at hid
          subst hid
          rw [hx]; exact avIds_one (by simp [leafIds])
        · cases hp
      · rename_i f caps hx
        simp only [Option.map_eq_some_iff] at hp
        obtain ⟨d, _, rfl⟩ := hp
        rw [hx]; exact avIds_one (by simpa [leafIds] using hid)
      · simp only [Option.map_eq_some_iff] at hp
        obtain ⟨d, _, rfl⟩ := hp
        simp at hid
      · cases hp
    · obtain ⟨y, hy, h2⟩ := toArgs_ids (show toArgs Δ μ l = some (q.1, q.2.1, q.2.2) from hq) id hid
      exact ⟨y, List.mem_cons_of_mem _ hy, h2⟩
theorem keptB_congr : ∀ {ids : List Nat} {bs : List (List Part)}, (∀ id ∈ ids, μ id = μ' id) → keptB μ ids bs = keptB μ' ids bs
  | [], bs, _ => by cases bs <;> rfl
  | id :: ids, [], _ => rfl
  | id :: ids, [] :: bs, h => by
    unfold keptB
    rw [keptB_congr fun i hi => h i (List.mem_cons_of_mem _ hi)]
    have : datBox μ id = datBox μ' id := by unfold datBox; rw [h id (by simp)]
    rw [this]
  | id :: ids, (_ :: _) :: bs, h => by
    unfold keptB
    rw [keptB_congr fun i hi => h i (List.mem_cons_of_mem _ hi)]
theorem cCall_congr {G : Spec} {new : Nat} {L : List (AV × TypeId)} (h : ∀ x ∈ L, ∀ id ∈ reachIds μ (avIds x.1), μ id = μ' id) : cCall Δ G μ new L = cCall Δ G μ' new L := by
  have e1 : cCallD Δ G μ new L = cCallD Δ G μ' new L := by
    unfold cCallD
    rw [← toArgs_congr h]
    split
    · rename_i as fz ids hto
      have : ∀ bs, keptB μ ids bs = keptB μ' ids bs := fun bs => keptB_congr fun id hid => by
        obtain ⟨x, hx, hi⟩ := toArgs_ids hto id hid
        exact h x hx id (List.mem_append_left _ hi)
      simp only [cBack, this]
    · rfl
  have e2 : cCallO Δ G μ new L = cCallO Δ G μ' new L := by
    unfold cCallO
    rw [← toArgsO_congr h]
    split
    · rename_i as ids rids hto
      have : ∀ bs, keptB μ ids bs = keptB μ' ids bs := fun bs => keptB_congr fun id hid => by
        obtain ⟨x, hx, hi⟩ := toArgsO_ids hto id hid
        exact h x hx id (List.mem_append_left _ hi)
      simp only [cBack, this]
    · rfl
  unfold cCall
  rw [e1, e2]
theorem cBuildSlice_congr {new : Nat} {T : TypeId} {n : Nat} {ps : List (Nat × AV)} (h : ∀ p ∈ ps, ∀ id ∈ reachIds μ (avIds p.2), μ id = μ' id) : cBuildSlice Δ μ new T n ps = cBuildSlice Δ μ' new T n ps := by
  have h1 : ∀ e : TypeId, toArgs Δ μ (ps.map fun p => (p.2, e)) = toArgs Δ μ' (ps.map fun p => (p.2, e)) := fun e => toArgs_congr fun x hx => by
    obtain ⟨p, hp, rfl⟩ := List.mem_map.1 hx
    exact h p hp
  unfold cBuildSlice
  simp only [h1]
theorem reach_of {ids ids' : List Nat} (h : ∀ i ∈ ids, i ∈ ids') : ∀ i ∈ reachIds μ ids, i ∈ reachIds μ ids' := by
  intro i hi
  rcases List.mem_append.1 hi with hi | hi
  · exact List.mem_append_left _ (h i hi)
  · obtain ⟨j, hj, hij⟩ := List.mem_flatMap.1 hi
    exact List.mem_append_right _ (List.mem_flatMap.2 ⟨j, h j hj, hij⟩)
theorem comp_reach {new : Nat} {ρ : Operand → AV} (h : ∀ id ∈ reachIds μ (opIds o ρ), μ id = μ' id) : comp Δ Γ new o ρ μ = comp Δ Γ new o ρ μ' := by
  have hx : ∀ x ∈ o.op.operands, ∀ id ∈ avIds (ρ x), id ∈ opIds o ρ := fun x hx id hid => List.mem_flatMap.2 ⟨x, by simpa using hx, hid⟩
  have h0 : ∀ x ∈ o.op.operands, ∀ id ∈ avIds (ρ x), μ id = μ' id := fun x hm id hid => h id (List.mem_append_left _ (hx x hm id hid))
  unfold comp
  split <;> try rfl
  · rename_i x ho; exact cMoveAny_congr (h0 x (by simp [ho, Op.operands]))
  · rename_i x ho; exact cMoveAny_congr (h0 x (by simp [ho, Op.operands]))
  · rename_i s t x ho; exact cConvAny_congr (h0 x (by simp [ho, Op.operands]))
  · rename_i T x ho; exact cLoad_congr (h0 x (by simp [ho, Op.operands]))
  · rename_i T x y ho; exact cStore_congr (h0 x (by simp [ho, Op.operands])) (h0 y (by simp [ho, Op.operands]))
  · rename_i T x j ho; exact cIndexAddr_congr (h0 x (by simp [ho, Op.operands]))
  · rename_i T n ps ho
    refine cBuildSlice_congr fun p hp id hid => h id (reach_of (fun i hi => ?_) id hid)
    obtain ⟨q, hq, rfl⟩ := List.mem_map.1 hp
    exact hx q.2 (by simp only [ho, Op.operands]; simpa using ⟨q.1, by simpa using hq⟩) i hi
  · rename_i T x lo hi mx ho; exact cSliceAny_congr (h0 x (by simp [ho, Op.operands]))
  · rename_i c ho
    split
    · split
      · rename_i x T h1 h2
        exact cLen_congr (h0 x (by simp [ho, Op.operands, Call.operands, ← Array.mem_toList_iff, h1]))
      · rfl
    · rfl
    · rfl
    · split
      · rename_i x T h1 h2
        exact cClear_congr (h0 x (by simp [ho, Op.operands, Call.operands, ← Array.mem_toList_iff, h1]))
      · rfl
    · split
      · rename_i x y T U h1 h2
        exact cAppendAny_congr (h0 x (by simp [ho, Op.operands, Call.operands, ← Array.mem_toList_iff, h1])) (h0 y (by simp [ho, Op.operands, Call.operands, ← Array.mem_toList_iff, h1]))
      · rfl
    · rename_i f' hcf
      split
      · rename_i f caps hfv
        have hfm : f' ∈ o.op.operands := by simp [ho, Op.operands, Call.operands, hcf]
        have hcap : ∀ id ∈ caps, id ∈ avIds (ρ f') := fun id hid => by rw [hfv]; exact avIds_one (by simpa [leafIds] using hid)
        have hcm : capsOk μ caps = capsOk μ' caps := by
          unfold capsOk
          rw [Bool.eq_iff_iff, List.all_eq_true, List.all_eq_true]
          constructor
          · intro hh id hid; rw [← h0 f' hfm id (hcap id hid)]; exact hh id hid
          · intro hh id hid; rw [h0 f' hfm id (hcap id hid)]; exact hh id hid
        rw [hcm]
        split
        · split
          · refine cCall_congr fun x hxm id hid => h id (reach_of (fun i hi => ?_) id hid)
            rcases List.mem_append.1 hxm with hxm | hxm
            · have h1 : x.1 ∈ c.args.toList.map ρ := (List.of_mem_zip (a := x.1) (b := x.2) hxm).1
              obtain ⟨y, hy, hyx⟩ := List.mem_map.1 h1
              exact hx y (by simp only [ho, Op.operands, Call.operands, Array.mem_append]; exact .inr (by simpa using hy)) i (by rw [hyx]; exact hi)
            · obtain ⟨id', hid', rfl⟩ := List.mem_map.1 hxm
              have : i = id' := by simpa [avIds, regIds, lv, leafIds] using hi
              subst this
              exact hx f' hfm i (hcap i hid')
          · rfl
        · rfl
      · rfl
    · rfl
theorem opIds_congr {ρ ρ' : Operand → AV} (h : ∀ x ∈ o.op.operands, ρ x = ρ' x) : opIds o ρ = opIds o ρ' := by
  unfold opIds
  have : ∀ (l : List Operand), (∀ x ∈ l, ρ x = ρ' x) → l.flatMap (fun x => avIds (ρ x)) = l.flatMap (fun x => avIds (ρ' x)) := by
    intro l
    induction l with
    | nil => intro _; rfl
    | cons x l ih => intro hl; simp only [List.flatMap_cons]; rw [hl x (by simp), ih fun y hy => hl y (by simp [hy])]
  exact this _ fun x hx => h x (by simpa using hx)
theorem comp_mu {new : Nat} {ρ : Operand → AV} (h : ∀ id ∈ lookIds μ o ρ, μ id = μ' id) : comp Δ Γ new o ρ μ = comp Δ Γ new o ρ μ' := by
  unfold lookIds at h
  split at h
  · rename_i x ho
    split at h
    · rename_i id off hx
      unfold comp
      rw [ho]
      simp only [hx, cMoveAny, cMoveRo, leafD]
    · exact comp_reach h
  · exact comp_reach h
theorem map_congr' {ρ ρ' : Operand → AV} {l : List Operand} (h : ∀ x ∈ l, ρ x = ρ' x) : l.map ρ = l.map ρ' := List.map_congr_left h
theorem comp_rho {new : Nat} {ρ ρ' : Operand → AV} (h : ∀ x ∈ o.op.operands, ρ x = ρ' x) : comp Δ Γ new o ρ μ = comp Δ Γ new o ρ' μ := by
  unfold comp
  split
  · rename_i x ho; rw [h x (by simp [ho, Op.operands])]
  · rename_i x ho; rw [h x (by simp [ho, Op.operands])]
  · rename_i c x y ho; rw [h c (by simp [ho, Op.operands]), h x (by simp [ho, Op.operands]), h y (by simp [ho, Op.operands])]
  · rename_i op T x y U ho; rw [h x (by simp [ho, Op.operands]), h y (by simp [ho, Op.operands])]
  · rename_i op T x ho; rw [h x (by simp [ho, Op.operands])]
  · rename_i s d x ho; rw [h x (by simp [ho, Op.operands])]
  · rename_i x j ho; rw [h x (by simp [ho, Op.operands])]
  · rfl
  · rename_i T x ho; rw [h x (by simp [ho, Op.operands])]
  · rename_i T x ho; rw [h x (by simp [ho, Op.operands])]
  · rename_i T x y ho; rw [h x (by simp [ho, Op.operands]), h y (by simp [ho, Op.operands])]
  · rename_i x ho; rw [h x (by simp [ho, Op.operands])]
  · rename_i T x j ho; rw [h x (by simp [ho, Op.operands])]
  · rename_i T x j ho; rw [h x (by simp [ho, Op.operands])]
  · rename_i T x j ho; rw [h x (by simp [ho, Op.operands]), h j (by simp [ho, Op.operands])]
  · rename_i fn first captured ho
    rw [map_congr' (ρ := ρ) (ρ' := ρ') (l := captured.toList) fun x hx => h x (by simp only [ho, Op.operands, Array.mem_append]; exact .inr (by simpa using hx))]
  · rename_i T x j ho; rw [h x (by simp [ho, Op.operands]), h j (by simp [ho, Op.operands])]
  · rename_i T ps ho
    rw [show (ps.toList.map fun p => (p.1, ρ p.2)) = ps.toList.map fun p => (p.1, ρ' p.2) from List.map_congr_left fun q hq => by rw [h q.2 (by simp only [ho, Op.operands]; simpa using ⟨q.1, by simpa using hq⟩)]]
  · rename_i T n ps ho
    rw [show (ps.toList.map fun p => (p.1, ρ p.2)) = ps.toList.map fun p => (p.1, ρ' p.2) from List.map_congr_left fun q hq => by rw [h q.2 (by simp only [ho, Op.operands]; simpa using ⟨q.1, by simpa using hq⟩)]]
  · rename_i T x y ho; rw [h x (by simp [ho, Op.operands]), h y (by simp [ho, Op.operands])]
  · rename_i T x lo hi mx ho
    have h1 : lo.map ρ = lo.map ρ' := by cases lo with | none => rfl | some y => simp [h y (by simp [ho, Op.operands])]
    have h2 : hi.map ρ = hi.map ρ' := by cases hi with | none => rfl | some y => simp [h y (by simp [ho, Op.operands])]
    have h3 : mx.map ρ = mx.map ρ' := by cases mx with | none => rfl | some y => simp [h y (by simp [ho, Op.operands])]
    rw [h x (by simp [ho, Op.operands]), h1, h2, h3]
  · rename_i c ho
    have hargs : ∀ x ∈ c.args.toList, ρ x = ρ' x := fun x hx => h x (by simp only [ho, Op.operands, Call.operands, Array.mem_append]; exact .inr (by simpa using hx))
    split
    · split
      · rename_i x T h1 h2; rw [hargs x (by simp [h1])]
      · rfl
    · rw [map_congr' hargs]
    · rw [map_congr' hargs]
    · split
      · rename_i x T h1 h2; rw [hargs x (by simp [h1])]
      · rfl
    · split
      · rename_i x y T U h1 h2; rw [hargs x (by simp [h1]), hargs y (by simp [h1])]
      · rfl
    · rename_i f' hc
      rw [h f' (by simp [ho, Op.operands, Call.operands, hc]), map_congr' hargs]
    · rfl
  · rfl
end
end Go.Ab
