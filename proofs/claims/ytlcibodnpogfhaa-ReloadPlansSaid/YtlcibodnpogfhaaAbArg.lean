/- What comes in ('Ab'): data of a law's arguments, out of the row's reading; and the arguments as they are behind it. -/
import Derived.Test.YtlcibodnpogfhaaAbFn
import Derived.Test.YtlcibodnpogfhaaAbPure
import Derived.OpenShut
import Derived.SizedLaws
import Derived.Carry
import Derived.ChangeOld
set_option linter.unusedVariables false
set_option linter.unusedSimpArgs false
set_option linter.unnecessarySimpa false
namespace Go.Ab
open Go.RowKit Go.ChangeShapes

/-! ### a type of the program, and what it is as a type of data -/
def tyFs (P : Program) (f : TypeId → Ty → Bool) : Nat → List Field → Ty → Bool
  | _, [], .unit => true
  | off, x :: l, .pair a b => x.offset == off && P.cellsOf x.type == a.size && f x.type a && tyFs P f (off + a.size) l b
  | _, _, _ => false
def tyEs (f : Ty → Bool) (c : Nat) : Nat → Ty → Bool
  | 0, .unit => true
  | n + 1, .pair a b => a.size == c && f a && tyEs f c n b
  | _, _ => false
def tyB (P : Program) : Nat → TypeId → Ty → Bool
  | 0, _, _ => false
  | n + 1, t, ty => match P.underlying t with
    | some (.int k) => match ty with | .int k' => decide (k = k') | _ => false
    | some .bool => match ty with | .bool => true | _ => false
    | some .string => match ty with | .str => true | _ => false
    | some (.slice e) => match ty with | .slice e' => P.cellsOf e == e'.size && Nat.blt 0 e'.size && Nat.blt 0 (P.bytesOf e) && tyB P n e e' | _ => false
    | some (.struct fs) => P.cellsOf t == ty.size && tyFs P (tyB P n) 0 fs.toList ty
    | some (.array m e) => P.cellsOf t == ty.size && tyEs (tyB P n e) (P.cellsOf e) m ty
    | _ => false
section
variable {H : Type} {enc : TypeId × Value → H} {P : Program} {w : World} {spare : Nat → Bool} {held : Bool}
abbrev lowS (w : World) : Nat → Prop := fun b => b < w.heap.size
theorem weights_all_mem {e : TypeId} : ∀ {l : List (DataW H)} {d : DataW H}, d ∈ l → ∀ n ∈ d.weights P e, n ∈ DataW.weightsAll P e l
  | [], _, h, _, _ => by simp at h
  | x :: l, d, h, n, hn => by
    simp only [DataW.weightsAll, List.mem_append]
    rcases List.mem_cons.1 h with rfl | h
    · exact .inl hn
    · exact .inr (weights_all_mem h n hn)
theorem rows_of {t : Ty} : ∀ {l : List (List Value)} (_ : ∀ cs ∈ l, ∃ d : t.den, CR w (lowS w) t cs d ∧ Wf t d), ∃ ds : List t.den, F2 (fun d cs => CR w (lowS w) t cs d) ds l ∧ ∀ d ∈ ds, Wf t d
  | [], _ => ⟨[], .nil, by simp⟩
  | cs :: l, h => by
    obtain ⟨d, h1, h2⟩ := h cs (by simp)
    obtain ⟨ds, h3, h4⟩ := rows_of (l := l) fun c hc => h c (List.mem_cons_of_mem _ hc)
    exact ⟨d :: ds, .cons h1 h3, fun x hx => by rcases List.mem_cons.1 hx with rfl | hx; exact h2; exact h4 x hx⟩
theorem spot_none {a : Addr} {u : Value} (h : w.cell? a = some u) : a.spot = none := by
  unfold World.cell? at h
  split at h
  · split at h
    · cases h
    · rename_i hs; simpa using hs
  · cases h
theorem add2 (b o i j : Nat) : ((⟨b, o, none⟩ : Addr).add i).add j = ⟨b, o + (i + j), none⟩ := by
  unfold Addr.add
  by_cases hi : i = 0 <;> by_cases hj : j = 0 <;> simp [hi, hj, Nat.add_assoc]
theorem fs_data {f : TypeId → Ty → Bool} {m : Nat} {cs : List Value}
    (hf : ∀ {t : TypeId} {ty : Ty} {cs : List Value} {x : DataW H × List MemPlace}, f t ty = true → DataW.trod enc P w 0 spare held m t cs = some x → (∀ k ∈ x.1.weights P t, k ≤ reachBytes) → ∃ d : ty.den, CR w (lowS w) ty cs d ∧ Wf ty d) :
    ∀ (l : List Field) (off : Nat) (ty : Ty) (xs : List (DataW H × List MemPlace)), tyFs P f off l ty = true → cs.length = off + ty.size →
      (∀ (i : Nat) (fl : Field), l[i]? = some fl → DataW.trod enc P w 0 spare held m fl.type ((cs.drop fl.offset).take (P.cellsOf fl.type)) = xs[i]?) → l.length = xs.length →
      (∀ k ∈ DataW.weightsEach P (l.map (·.type)) (xs.map (·.1)), k ≤ reachBytes) → ∃ d : ty.den, CR w (lowS w) ty (cs.drop off) d ∧ Wf ty d
  | [], off, ty, xs, hB, hl, _, _, _ => by
    cases ty <;> simp only [tyFs, Bool.false_eq_true] at hB
    refine ⟨(), ?_, trivial⟩
    show cs.drop off = []
    rw [List.drop_eq_nil_iff]
    simp [Ty.size] at hl
    omega
  | x :: l, off, ty, xs, hB, hl, hx, hn, hw => by
    cases ty <;> simp only [tyFs, Bool.false_eq_true] at hB
    rename_i a b
    simp only [Bool.and_eq_true, beq_iff_eq] at hB
    obtain ⟨⟨⟨h1, h2⟩, h3⟩, h4⟩ := hB
    match xs, hn with
    | y :: ys, hn =>
      have h5 := hx 0 x rfl
      simp only [List.getElem?_cons_zero] at h5
      rw [h1, h2] at h5
      simp only [List.map_cons, DataW.weightsEach, List.mem_append] at hw
      simp only [Ty.size] at hl
      obtain ⟨d1, g1, g2⟩ := hf h3 h5 fun k hk => hw k (.inl hk)
      obtain ⟨d2, g3, g4⟩ := fs_data (cs := cs) hf l (off + a.size) b ys h4 (by omega) (fun i fl hi => by have := hx (i + 1) fl (by simpa using hi); simpa using this) (by simpa using hn) fun k hk => hw k (.inr hk)
      refine ⟨(d1, d2), ⟨_, _, ?_, g1, g3⟩, g2, g4⟩
      rw [← List.drop_drop, List.take_append_drop]
theorem es_data {f : Ty → Bool} {m : Nat} {t : TypeId} {cs : List Value}
    (hf : ∀ {ty : Ty} {cs : List Value} {x : DataW H × List MemPlace}, f ty = true → DataW.trod enc P w 0 spare held m t cs = some x → (∀ k ∈ x.1.weights P t, k ≤ reachBytes) → ∃ d : ty.den, CR w (lowS w) ty cs d ∧ Wf ty d) :
    ∀ (n i0 : Nat) (ty : Ty) (xs : List (DataW H × List MemPlace)), tyEs f (P.cellsOf t) n ty = true → cs.length = i0 * P.cellsOf t + ty.size →
      (∀ i, i < n → DataW.trod enc P w 0 spare held m t ((cs.drop ((i0 + i) * P.cellsOf t)).take (P.cellsOf t)) = xs[i]?) → n = xs.length →
      (∀ k ∈ DataW.weightsAll P t (xs.map (·.1)), k ≤ reachBytes) → ∃ d : ty.den, CR w (lowS w) ty (cs.drop (i0 * P.cellsOf t)) d ∧ Wf ty d
  | 0, i0, ty, xs, hB, hl, _, _, _ => by
    cases ty <;> simp only [tyEs, Bool.false_eq_true] at hB
    refine ⟨(), ?_, trivial⟩
    show cs.drop _ = []
    rw [List.drop_eq_nil_iff]
    simp [Ty.size] at hl
    omega
  | n + 1, i0, ty, xs, hB, hl, hx, hn, hw => by
    cases ty <;> simp only [tyEs, Bool.false_eq_true] at hB
    rename_i a b
    simp only [Bool.and_eq_true, beq_iff_eq] at hB
    obtain ⟨⟨h2, h3⟩, h4⟩ := hB
    match xs, hn with
    | y :: ys, hn =>
      have h5 := hx 0 (by omega)
      simp only [List.getElem?_cons_zero, Nat.add_zero] at h5
      simp only [List.map_cons, DataW.weightsAll, List.mem_append] at hw
      simp only [Ty.size] at hl
      have hsucc : (i0 + 1) * P.cellsOf t = i0 * P.cellsOf t + P.cellsOf t := Nat.succ_mul _ _
      obtain ⟨d1, g1, g2⟩ := hf h3 h5 fun k hk => hw k (.inl hk)
      obtain ⟨d2, g3, g4⟩ := es_data (cs := cs) hf n (i0 + 1) b ys h4 (by rw [hsucc]; omega) (fun i hi => by have := hx (i + 1) (by omega); rw [show i0 + 1 + i = i0 + (i + 1) by omega]; simpa using this) (by simpa using hn) fun k hk => hw k (.inr hk)
      refine ⟨(d1, d2), ⟨_, _, ?_, g1, g3⟩, g2, g4⟩
      rw [hsucc, ← List.drop_drop, List.take_append_drop]
/-- WHAT COMES IN. -/
theorem open_data : ∀ (n : Nat) {fuel : Nat} {t : TypeId} {ty : Ty} {cs : List Value} {x : DataW H × List MemPlace}, tyB P n t ty = true → DataW.trod enc P w 0 spare held fuel t cs = some x →
    (∀ k ∈ x.1.weights P t, k ≤ reachBytes) → ∃ d : ty.den, CR w (lowS w) ty cs d ∧ Wf ty d
  | 0, _, _, _, _, _, h, _, _ => by simp [tyB] at h
  | n + 1, fuel, t, ty, cs, x, hB, hx, hw => by
    unfold tyB at hB
    split at hB
    · rename_i k hu
      split at hB
      · rename_i k'
        have := of_decide_eq_true hB
        subst this
        obtain ⟨m, rfl, rfl, h⟩ := DataW.trod_int hu hx
        exact ⟨m, rfl, h⟩
      · cases hB
    · rename_i hu
      split at hB
      · obtain ⟨b, rfl, rfl⟩ := DataW.trod_bool hu hx
        exact ⟨b, rfl, trivial⟩
      · cases hB
    · rename_i hu
      split at hB
      · obtain ⟨s, rfl, rfl, h⟩ := DataW.trod_string hu hx
        refine ⟨s, rfl, ?_⟩
        have := hw s.data.toList.length (by simp [DataW.weights])
        simpa [Wf, reachBytes] using this
      · cases hB
    · rename_i e hu
      split at hB
      · rename_i e'
        simp only [Bool.and_eq_true, beq_iff_eq] at hB
        obtain ⟨⟨⟨hc, hsz⟩, hpos⟩, hE⟩ := hB
        have hsz : 0 < e'.size := by simpa using hsz
        have hpos : 0 < P.bytesOf e := by simpa using hpos
        rcases DataW.trod_slice hu hx with ⟨rfl, rfl⟩ | ⟨a, len, cap, elems, rest, m, rfl, rfl, rfl, hb, hl, hm, hlen, hel, _, _⟩
        · exact ⟨([] : List e'.den), ⟨none, 0, rfl, Nat.le_refl _, by decide, fun i x hx => by simp at hx⟩, by simp, by simp⟩
        · have hw0 : (elems.length + rest.length) * P.bytesOf e ≤ reachBytes := by
            have := hw ((elems.length + rest.length) * P.bytesOf e) (by simp [DataW.weights, hu])
            exact this
          have hcell : ∀ i, i < len → ∃ cs' y, elems[i]? = some y ∧ w.cells? 0 (a.add (i * P.cellsOf e)) (P.cellsOf e) = some cs' ∧ DataW.trod enc P w 0 spare held m e cs' = some y := by
            intro i hi
            have h1 := hel i hi
            rw [List.getElem?_eq_getElem (by omega)] at h1
            obtain ⟨cs', h2, h3⟩ := Option.bind_eq_some_iff.1 h1
            exact ⟨cs', _, List.getElem?_eq_getElem (by omega), h2, h3⟩
          let f (i : Nat) : List Value := (w.cells? 0 (a.add (i * P.cellsOf e)) (P.cellsOf e)).getD []
          have hall : ∀ cs ∈ (List.range len).map f, ∃ d : e'.den, CR w (lowS w) e' cs d ∧ Wf e' d := by
            intro c hcm
            obtain ⟨i, hi, rfl⟩ := List.mem_map.1 hcm
            have hi := List.mem_range.1 hi
            obtain ⟨cs', y, h1, h2, h3⟩ := hcell i hi
            have : f i = cs' := by simp [f, h2]
            rw [this]
            refine open_data n hE h3 fun k hk => hw k ?_
            simp only [DataW.weights, hu, List.mem_cons, List.mem_append]
            exact .inr (.inl (weights_all_mem (List.mem_map.2 ⟨y, List.mem_of_getElem? h1, rfl⟩) k hk))
          obtain ⟨ds, h1, h2⟩ := rows_of hall
          have hdl : ds.length = len := by rw [h1.length]; simp
          refine ⟨ds, ⟨some a, cap, by rw [hdl], by omega, hm, ?_⟩, ?_, h2⟩
          · intro i d hd
            obtain ⟨c, h3, h4⟩ := h1.get i d hd
            have hi : i < len := by rw [← hdl]; exact (List.getElem?_eq_some_iff.1 hd).1
            rw [List.getElem?_map, List.getElem?_range hi] at h3
            simp only [Option.map_some, Option.some.injEq] at h3
            subst h3
            obtain ⟨cs', y, g1, g2, g3⟩ := hcell i hi
            have hfi : f i = cs' := by simp [f, g2]
            rw [hfi] at h4
            obtain ⟨_, g5, g6⟩ := World.cells?_some g2
            have hspot : a.spot = none := by
              obtain ⟨c0, y0, _, k2, _⟩ := hcell 0 (by omega)
              obtain ⟨_, k5, k6⟩ := World.cells?_some k2
              have := k6 0 (by omega)
              rw [List.getElem?_eq_getElem (by omega), Nat.zero_mul] at this
              exact spot_none this
            obtain ⟨b, o, sp⟩ := a
            subst hspot
            have hadd : ∀ j, j < P.cellsOf e → w.cell? ⟨b, o + (i * P.cellsOf e + j), none⟩ = cs'[j]? := fun j hj => by
              have := g6 j hj
              rwa [add2] at this
            refine ⟨b, o, cs', rfl, ?_, h4, by rw [g5, hc], fun j u hu => ?_⟩
            · have := hadd 0 (by omega)
              rw [List.getElem?_eq_getElem (by omega)] at this
              exact World.block_lt_of_cell? (a := ⟨b, _, none⟩) w this
            · have hj : j < cs'.length := (List.getElem?_eq_some_iff.1 hu).1
              rw [← hc, hadd j (by omega), hu]
          · rw [hdl]
            have : elems.length ≤ (elems.length + rest.length) * P.bytesOf e := Nat.le_trans (Nat.le_add_right _ rest.length) (Nat.le_mul_of_pos_right _ hpos)
            rw [hlen] at this hw0
            simp only [reachBytes] at hw0
            omega
      · cases hB
    · rename_i fs hu
      simp only [Bool.and_eq_true, beq_iff_eq] at hB
      obtain ⟨xs, m, rfl, rfl, h1, h2, h3⟩ := DataW.trod_struct hu hx
      have := fs_data (f := tyB P n) (cs := cs) (fun a b c => open_data n a b c) fs.toList 0 ty xs hB.2 (by rw [h1, hB.1]; omega) (fun i fl hi => h3 i fl (by simpa using hi)) (by simpa using h2.symm) (fun k hk => hw k (by simpa [DataW.weights, hu] using hk))
      simpa using this
    · rename_i m e hu
      simp only [Bool.and_eq_true, beq_iff_eq] at hB
      obtain ⟨xs, q, rfl, rfl, h1, h2, h3⟩ := DataW.trod_array hu hx
      have := es_data (f := tyB P n e) (cs := cs) (t := e) (fun a b c => open_data n a b c) m 0 ty xs hB.2 (by rw [h1, hB.1]; omega) (fun i hi => by rw [Nat.zero_add]; exact h3 i hi) h2.symm (fun k hk => hw k (by simpa [DataW.weights, hu] using hk))
      simpa using this
    · cases hB
/-! ### arguments -/
def aggTy (P : Program) (t : TypeId) : Bool := match P.underlying t with
  | some (.struct _) | some (.array ..) => true
  | _ => false
def argOf (ag : Bool) (ty : Ty) (x : ty.den) : Arg := .val (ag, (parts ty x).map fun d => (none, d))
theorem parts_args {ty : Ty} {cs : List Value} {d : ty.den} {S : Nat → Prop} (h : CR w S ty cs d) : F2 (PartD w S) ((parts ty d).map fun d => (none, d)) cs :=
  F2.map_left ((CR_parts h).imp fun _ _ h => ⟨rfl, h⟩)
theorem open_arg {W : World} {base : Nat} {t : TypeId} {ty : Ty} {v : Value} {d : DataW H} {p : List MemPlace} (hB : tyB P 30 t ty = true) (hval : Value.okWide P W .any base t v) (h : DataW.Trod enc P W 0 spare held t v d p)
    (hw : ∀ k ∈ d.weights P t, k ≤ reachBytes) : ∃ x : ty.den, ArgD W (lowS W) (argOf (aggTy P t) ty x) v ∧ boxBlk (argOf (aggTy P t) ty x) v = [] ∧ Wf ty x := by
  obtain ⟨fuel, hf⟩ := h
  obtain ⟨x, h1, h2⟩ := open_data 30 hB hf hw
  refine ⟨x, ?_, rfl, h2⟩
  have hP := parts_args h1
  cases hag : aggTy P t with
  | true =>
    unfold aggTy at hag
    unfold Value.okWide at hval
    split at hag
    · rename_i hu
      rw [hu] at hval
      obtain ⟨cs, rfl, _⟩ := hval
      exact ⟨fun _ => ⟨_, rfl⟩, hP⟩
    · rename_i hu
      rw [hu] at hval
      obtain ⟨cs, rfl, _⟩ := hval
      exact ⟨fun _ => ⟨_, rfl⟩, hP⟩
    · cases hag
  | false =>
    refine ⟨fun h => (by cases h), ?_⟩
    have hv : v.cells.toList = [v] := by
      cases v with
      | agg cs =>
        exfalso
        unfold aggTy at hag
        unfold Value.okWide at hval
        unfold tyB at hB
        cases hu : P.underlying t with
        | none => rw [hu] at hB; cases hB
        | some u => rw [hu] at hB hval hag; cases u <;> simp_all [Cell.okWide, Cell.ok]
      | _ => rfl
    rw [hv] at hP
    exact hP
/-- Arguments that come in, all of them. -/
def ArgTys (P : Program) : List TypeId → List Ty → Bool
  | [], [] => true
  | t :: ts, ty :: tys => tyB P 30 t ty && (P.readableRec t && Nat.blt t P.types.size) && ArgTys P ts tys
  | _, _ => false
def argsT : (tys : List Ty) → List Bool → Tup tys → List Arg
  | t :: ts, b :: bs, d => argOf b t d.1 :: argsT ts bs d.2
  | _, _, _ => []
theorem open_args {W : World} {base : Nat} : ∀ {ts : List TypeId} {tys : List Ty} {vs : List Value} {ds : List (DataW H)} {p : List MemPlace}, ArgTys P ts tys = true → (∀ (j : Nat) t v, ts[j]? = some t → vs[j]? = some v → Value.okWide P W .any base t v) →
    DataW.TrodAll enc P W 0 spare held ts vs ds p → (∀ k ∈ DataW.weightsEach P ts ds, k ≤ reachBytes) → ∃ x : Tup tys, F2 (ArgD W (lowS W)) (argsT tys (ts.map (aggTy P)) x) vs ∧ boxBlks (argsT tys (ts.map (aggTy P)) x) vs = [] ∧ WfT tys x
  | [], [], vs, ds, p, _, _, h, _ => by
    obtain ⟨rfl, rfl, rfl⟩ := trodAll_nil h
    exact ⟨(), .nil, rfl, trivial⟩
  | [], _ :: _, _, _, _, h, _, _, _ => by simp [ArgTys] at h
  | _ :: _, [], _, _, _, h, _, _, _ => by simp [ArgTys] at h
  | t :: ts, ty :: tys, vs, ds, p, hB, hval, h, hw => by
    obtain ⟨v, vs', d, ds', p', q, rfl, rfl, rfl, h1, h2⟩ := trodAll_cons h
    simp only [ArgTys, Bool.and_eq_true] at hB
    simp only [DataW.weightsEach, List.mem_append] at hw
    obtain ⟨x, g1, g2, g3⟩ := open_arg hB.1.1 (hval 0 t v rfl rfl) h1 fun k hk => hw k (.inl hk)
    obtain ⟨y, g4, g5, g6⟩ := open_args hB.2 (fun j t v a b => hval (j + 1) t v (by simpa using a) (by simpa using b)) h2 fun k hk => hw k (.inr hk)
    refine ⟨(x, y), .cons g1 g4, ?_, g3, g6⟩
    show boxBlk _ _ ++ boxBlks _ _ = []
    rw [g2]
    exact g5
/-- .. and as they are behind the call. -/
theorem shut_args (hl : laidOutB P = true) {W W' : World} (bel : Below W.heap.size W W') : ∀ {ts : List TypeId} {tys : List Ty} {vs : List Value} {ds : List (DataW H)} {p : List MemPlace}, ArgTys P ts tys = true →
    DataW.TrodAll enc P W 0 (fun _ => true) true ts vs ds p → DataW.TrodAll enc P W' 0 (fun b => decide (b < W.heap.size)) true ts vs ds p
  | [], tys, vs, ds, p, _, h => by
    obtain ⟨rfl, rfl, rfl⟩ := trodAll_nil h
    exact h
  | _ :: _, [], _, _, _, h, _ => by simp [ArgTys] at h
  | t :: ts, ty :: tys, vs, ds, p, hB, h => by
    obtain ⟨v, vs', d, ds', p', q, rfl, rfl, rfl, h1, h2⟩ := trodAll_cons h
    simp only [ArgTys, Bool.and_eq_true] at hB
    have lt : ∀ x ∈ p', x.block < W.heap.size := by obtain ⟨m, hm⟩ := h1; exact DataW.trod_lt m _ _ _ hm
    exact trodAll_cons_mk (Below.trod hl hB.1.2.1 (by simpa using hB.1.2.2) h1 bel lt) (shut_args hl bel hB.2 h2)
end
end Go.Ab
