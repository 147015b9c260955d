/- One operation at a time ('Ab'): rows: looked at from now on, sliced, appended to. -/
import Derived.Test.YtlcibodnpogfhaaAbOps3
set_option linter.unusedVariables false
set_option linter.unusedSimpArgs false
set_option linter.unnecessarySimpa false
namespace Go.Ab
open Go.RowKit
section
variable {P : Program} {Δ : Tys} {w0 w w' : World} {M S0 S : Nat → Prop} {tm : List AV} {μ μ' : Mu} {η η' : Nat → Value} {a : Act} {o : Oper}

/-- A row of the call's own that is only read from now on. -/
theorem inv_freeze (hM : InvM w0 M S0 μ η S w) {id : Nat} {e : TypeId} {t : Ty} {xs : List t.den} {f : Bool} (hid : μ id = some (.rows e t xs f)) :
    ∃ S', InvM w0 M S0 (muPut μ [(id, .rows e t xs true)]) η S' w ∧ Stay w w S S' (dom μ) (dom (muPut μ [(id, .rows e t xs true)])) η η ∧ CR w S' (.slice t) [η id] xs := by
  cases f with
  | true =>
    have : muPut μ [(id, .rows e t xs true)] = μ := by
      rw [muPut_one]; funext i
      by_cases h : i = id
      · subst h; simp [hid]
      · simp [h]
    rw [this]
    exact ⟨S, hM, Stay.refl _ _ _ _, hM.chunk id _ hid⟩
  | false =>
    let S' : Nat → Prop := fun b => S b ∨ blk (η id) = some b
    have hst : Stay w w S S' (dom μ) (dom (muPut μ [(id, .rows e t xs true)])) η η := ⟨fun _ h => .inl h, fun _ _ => rfl, dom_put _, fun _ _ => rfl⟩
    have hch : CR w S' (.slice t) [η id] xs := by
      obtain ⟨cells, hown, hrows, hb⟩ := hM.chunk id _ hid
      rcases hown.2 with ⟨h1, h2⟩ | ⟨g, cap, cur, h1, _, hg, hnc, hcm, hcs, htake⟩
      · refine ⟨none, 0, by rw [h1, h2], by omega, by decide, fun i x hx => ?_⟩
        have := (List.getElem?_eq_some_iff.1 hx).1
        omega
      · refine ⟨some ⟨g, 0, none⟩, cap, by rw [h1], hnc, hcm, fun i x hx => ?_⟩
        obtain ⟨cs, hcr, hcell⟩ := rows_at hrows hx
        refine ⟨g, 0, cs, rfl, .inr (by simp [h1, blk]), CR_stay (fun _ h => .inl h) (fun _ _ => rfl) hcr, CR_len hcr, fun j u hu => ?_⟩
        have := hown.cells (g := g) (by simp [h1, Value.ownBlock]) _ u (hcell j u hu)
        rwa [Addr.add_lit] at this
    refine ⟨S', ⟨hM.frame, fun b hb => .inl (hM.sub b hb), fun b hb => ?_, fun b hb => ?_, fun i c hi => ?_, fun i j ci cj k hi hj hli hlj hij hki hkj => ?_⟩, hst, hch⟩
    · rcases hb with hb | hb
      · exact hM.lt b hb
      · exact (live_blk hM hid rfl hb).1
    · rcases hb with hb | hb
      · exact hM.from_ b hb
      · exact .inr (live_blk hM hid rfl hb).2.2
    · rw [muPut_one] at hi
      by_cases he : i = id
      · subst he
        simp only [if_true, Option.some.injEq] at hi
        subst hi
        exact hch
      · simp only [if_neg he] at hi
        refine ChunkR_stay hst (show dom μ i by simp [dom, hi]) (fun _ _ _ => rfl) (fun hl k hk hs => ?_) (hM.chunk i c hi)
        rcases hs with hs | hs
        · exact (live_blk hM hi hl hk).2.1 hs
        · exact hM.apart i id c _ k hi hid hl rfl he hk hs
    · rw [muPut_one] at hi hj
      by_cases hei : i = id
      · subst hei
        simp only [if_true, Option.some.injEq] at hi
        subst hi
        simp [Chunk.live] at hli
      · by_cases hej : j = id
        · subst hej
          simp only [if_true, Option.some.injEq] at hj
          subst hj
          simp [Chunk.live] at hlj
        · simp only [if_neg hei] at hi
          simp only [if_neg hej] at hj
          exact hM.apart i j ci cj k hi hj hli hlj hij hki hkj
/-- Rows are the same, but some may not be written any more. -/
def Fz (μ μ' : Mu) : Prop := ∀ id, μ' id = μ id ∨ ∃ e t xs, μ id = some (.rows e t xs false) ∧ μ' id = some (.rows e t xs true)
theorem Fz.refl (μ : Mu) : Fz μ μ := fun _ => .inl rfl
theorem Fz.put {μ μ' : Mu} (h : Fz μ μ') {id : Nat} {e : TypeId} {t : Ty} {xs : List t.den} {f : Bool} (hid : μ id = some (.rows e t xs f)) : Fz μ (muPut μ' [(id, .rows e t xs true)]) := by
  intro i
  rw [muPut_one]
  by_cases he : i = id
  · subst he
    cases f with
    | true => exact .inl (by simp [hid])
    | false => exact .inr ⟨e, t, xs, hid, by simp⟩
  · simp only [if_neg he]; exact h i
theorem Fz.rows {μ μ' : Mu} (h : Fz μ μ') {id : Nat} {e : TypeId} {t : Ty} {xs : List t.den} {f : Bool} (hid : μ id = some (.rows e t xs f)) : ∃ f', μ' id = some (.rows e t xs f') := by
  rcases h id with h1 | ⟨e', t', xs', h1, h2⟩
  · exact ⟨f, h1.trans hid⟩
  · rw [hid] at h1
    cases h1
    exact ⟨true, h2⟩
theorem muPut_append (μ : Mu) : ∀ (l l' : Mem), muPut μ (l ++ l') = muPut (muPut μ l) l'
  | [], _ => rfl
  | _ :: l, l' => muPut_append _ l l'
theorem Stay.trans {w'' : World} {S S' S'' Dm Dm' Dm'' : Nat → Prop} {η η' η'' : Nat → Value} (h : Stay w w' S S' Dm Dm' η η') (h' : Stay w' w'' S' S'' Dm' Dm'' η' η'') : Stay w w'' S S'' Dm Dm'' η η'' :=
  ⟨fun b hb => h'.s b (h.s b hb), fun b hb => (h'.w b (h.s b hb)).trans (h.w b hb), fun i hi => h'.d i (h.d i hi), fun i hi => (h'.η i (h.d i hi)).trans (h.η i hi)⟩
theorem getElem?_take_drop {α : Type} (xs : List α) (l h i : Nat) (x : α) (hx : ((xs.take h).drop l)[i]? = some x) : xs[l + i]? = some x ∧ l + i < h := by
  rw [List.getElem?_drop, List.getElem?_take] at hx
  split at hx
  · exact ⟨hx, by assumption⟩
  · cases hx
theorem row_sub {w : World} {S : Nat → Prop} {t : Ty} {A : Option Addr} {xs : List t.den} (hr : Row w S (CR w S t) t.size A xs) (l h m : Nat) (hm : m ≠ l) :
    Row w S (CR w S t) t.size (if m = l then A else A.map (·.add (l * t.size))) ((xs.take h).drop l) := by
  intro i x hx
  obtain ⟨h1, h2⟩ := getElem?_take_drop xs l h i x hx
  obtain ⟨b, o, cs, hA, hS, hcr, hlen, hcell⟩ := hr (l + i) x h1
  refine ⟨b, o + l * t.size, cs, by rw [if_neg hm, hA]; simp [Addr.add_lit], hS, hcr, hlen, fun j u hu => ?_⟩
  have := hcell j u hu
  rw [Nat.add_mul] at this
  rw [show o + l * t.size + (i * t.size + j) = o + (l * t.size + i * t.size + j) by omega]
  exact this
/-- A part of a row, as a datum. -/
theorem sub_CR {Dm S' : Nat → Prop} {id sz : Nat} {lo hi : Int} {pre : Bool} {v : Value} (hv : LR w S Dm η (.sub id sz lo hi pre) v) {t : Ty} {xs : List t.den} (hsz : t.size = sz) (hch : CR w S' (.slice t) [η id] xs) :
    CR w S' (.slice t) [v] ((xs.take hi.toNat).drop lo.toNat) := by
  obtain ⟨_, h0, hlh, A, n, c, A', c', hη, hhn, hv, hcc, hcc2, _, hA, _⟩ := hv
  obtain ⟨B, d, f1, f2, f3, f4⟩ := hch
  rw [hη] at f1
  simp only [List.cons.injEq, Value.slice.injEq, and_true] at f1
  obtain ⟨rfl, rfl, rfl⟩ := f1
  have hlen : ((xs.take hi.toNat).drop lo.toNat).length = hi.toNat - lo.toNat := by simp only [List.length_drop, List.length_take]; omega
  refine ⟨A', c', by rw [hv, hlen], by rw [hlen]; exact hcc, Nat.le_trans hcc2 f3, ?_⟩
  by_cases hl : lo < hi
  · obtain ⟨b, oo, rfl, rfl⟩ := hA hl
    have := row_sub f4 lo.toNat hi.toNat (lo.toNat + 1) (by omega)
    rw [if_neg (by omega)] at this
    simp only [Option.map_some, Addr.add_lit] at this
    rw [hsz] at this ⊢
    exact this
  · intro i y hy
    have h3 : i < ((xs.take hi.toNat).drop lo.toNat).length := (List.getElem?_eq_some_iff.1 hy).1
    rw [hlen] at h3
    omega
theorem leafD_is (hM : InvM w0 M S0 μ' η S w) (hfz : Fz μ μ') {ty : TypeId} {l : Leaf} {x : D} {fz : Mem} (h : leafD Δ μ ty l = some (x, fz)) {v : Value} (hv : LR w S (dom μ') η l v) :
    ∃ S', InvM w0 M S0 (muPut μ' fz) η S' w ∧ Stay w w S S' (dom μ') (dom (muPut μ' fz)) η η ∧ Fz μ (muPut μ' fz) ∧ CR w S' x.t [v] x.d := by
  unfold leafD at h
  split at h
  · simp only [Option.some.injEq, Prod.mk.injEq] at h
    obtain ⟨rfl, rfl⟩ := h
    exact ⟨S, hM, Stay.refl _ _ _ _, hfz, hv⟩
  · rename_i id
    split at h
    · rename_i e t xs hid
      simp only [Option.some.injEq, Prod.mk.injEq] at h
      obtain ⟨rfl, rfl⟩ := h
      obtain ⟨f', hid'⟩ := hfz.rows hid
      have hf : f' = true := by
        rcases hfz id with h1 | ⟨e', t', xs', h1, _⟩
        · rw [hid', hid] at h1; cases h1; rfl
        · rw [hid] at h1; cases h1
      subst hf
      refine ⟨S, hM, Stay.refl _ _ _ _, hfz, ?_⟩
      rw [hv.2.1]; exact hM.chunk id _ hid'
    · rename_i e t xs hid
      simp only [Option.some.injEq, Prod.mk.injEq] at h
      obtain ⟨rfl, rfl⟩ := h
      obtain ⟨f', hid'⟩ := hfz.rows hid
      obtain ⟨S', h1, h2, h3⟩ := inv_freeze hM hid'
      refine ⟨S', h1, h2, hfz.put hid, ?_⟩
      rw [hv.2.1]; exact h3
    · cases h
  · split at h
    · rename_i t _
      simp only [Option.some.injEq, Prod.mk.injEq] at h
      obtain ⟨rfl, rfl⟩ := h
      refine ⟨S, hM, Stay.refl _ _ _ _, hfz, none, 0, ?_, Nat.le_refl _, by decide, fun i x hx => by simp at hx⟩
      have hv : v = .slice none 0 0 := hv
      rw [hv]; rfl
    · cases h
  · simp only [Option.some.injEq, Prod.mk.injEq] at h
    obtain ⟨rfl, rfl⟩ := h
    exact ⟨S, hM, Stay.refl _ _ _ _, hfz, hv.1⟩
  · simp only [Option.some.injEq, Prod.mk.injEq] at h
    obtain ⟨rfl, rfl⟩ := h
    exact ⟨S, hM, Stay.refl _ _ _ _, hfz, hv.1⟩
  · rename_i id sz lo hi pre
    split at h
    · rename_i e t xs hid
      split at h
      · rename_i hsz
        simp only [Option.some.injEq, Prod.mk.injEq] at h
        obtain ⟨rfl, rfl⟩ := h
        obtain ⟨f', hid'⟩ := hfz.rows hid
        have hf : f' = true := by
          rcases hfz id with h1 | ⟨e', t', xs', h1, _⟩
          · rw [hid', hid] at h1; cases h1; rfl
          · rw [hid] at h1; cases h1
        subst hf
        exact ⟨S, hM, Stay.refl _ _ _ _, hfz, sub_CR hv hsz (hM.chunk id _ hid')⟩
      · cases h
    · rename_i e t xs hid
      split at h
      · rename_i hsz
        simp only [Option.some.injEq, Prod.mk.injEq] at h
        obtain ⟨rfl, rfl⟩ := h
        obtain ⟨f', hid'⟩ := hfz.rows hid
        obtain ⟨S', h1, h2, h3⟩ := inv_freeze hM hid'
        exact ⟨S', h1, h2, hfz.put hid, sub_CR hv hsz h3⟩
      · cases h
    · cases h
  · cases h
theorem leafDs_is : ∀ {ls : List Leaf} {μ' : Mu} {S : Nat → Prop} (_ : InvM w0 M S0 μ' η S w) (_ : Fz μ μ') {xs : List D} {fz : Mem} (_ : leafDs Δ μ ls = some (xs, fz)) {vs : List Value} (_ : F2 (LR w S (dom μ') η) ls vs),
    ∃ S', InvM w0 M S0 (muPut μ' fz) η S' w ∧ Stay w w S S' (dom μ') (dom (muPut μ' fz)) η η ∧ Fz μ (muPut μ' fz) ∧ F2 (fun (x : D) v => CR w S' x.t [v] x.d) xs vs
  | [], μ', S, hM, hfz, xs, fz, h, vs, hv => by
    simp only [leafDs, Option.some.injEq, Prod.mk.injEq] at h
    obtain ⟨rfl, rfl⟩ := h
    cases hv
    exact ⟨S, hM, Stay.refl _ _ _ _, hfz, .nil⟩
  | l :: ls, μ', S, hM, hfz, xs, fz, h, vs, hv => by
    simp only [leafDs, Option.bind_eq_some_iff] at h
    obtain ⟨p, hp, q, hq, h⟩ := h
    simp only [Option.some.injEq, Prod.mk.injEq] at h
    obtain ⟨rfl, rfl⟩ := h
    cases hv with
    | cons h1 h2 =>
      obtain ⟨S1, i1, s1, f1, c1⟩ := leafD_is hM hfz (show leafD Δ μ 0 l = some (p.1, p.2) from hp) h1
      obtain ⟨S2, i2, s2, f2, c2⟩ := leafDs_is i1 f1 hq (h2.imp fun _ _ => LR_stay s1)
      rw [muPut_append]
      exact ⟨S2, i2, s1.trans s2, f2, .cons (CR_stay s2.s s2.w c1) c2⟩
/-- A register as data. -/
theorem regD_is (hM : InvM w0 M S0 μ' η S w) (hfz : Fz μ μ') {ty : TypeId} {r : Reg} {xs : List D} {fz : Mem} (h : regD Δ μ ty r = some (xs, fz)) {v : Value} (hv : RegR w S (dom μ') η r v) :
    ∃ S', InvM w0 M S0 (muPut μ' fz) η S' w ∧ Stay w w S S' (dom μ') (dom (muPut μ' fz)) η η ∧ Fz μ (muPut μ' fz) ∧ RegR w S' (dom (muPut μ' fz)) η (r.1, xs.map .dat) v := by
  unfold regD at h
  split at h
  · rename_i l
    simp only [Option.map_eq_some_iff] at h
    obtain ⟨p, hp, h⟩ := h
    simp only [Prod.mk.injEq] at h
    obtain ⟨rfl, rfl⟩ := h
    obtain ⟨S1, i1, s1, f1, c1⟩ := leafD_is hM hfz (show leafD Δ μ ty l = some (p.1, p.2) from hp) (show LR w S (dom μ') η l v from hv)
    exact ⟨S1, i1, s1, f1, c1⟩
  · rename_i ls
    obtain ⟨cs, hcs, hf⟩ := hv
    obtain ⟨S1, i1, s1, f1, c1⟩ := leafDs_is hM hfz h hf
    exact ⟨S1, i1, s1, f1, cs, hcs, F2.map_left c1⟩
  · cases h

/-! ### slicing -/
theorem bound_is {ρ : Operand → AV} (hρ : ∀ x, AVR w S (dom μ) η (ρ x) (a.eval x)) {q : Option Operand} {d n : Int} (h : cBound (q.map ρ) d = some n) :
    (q = none ∧ n = d) ∨ ∃ (y : Operand) (k : IntKind), q = some y ∧ a.eval y = .int k n := by
  cases q with
  | none => exact .inl ⟨rfl, by simpa [cBound] using h.symm⟩
  | some y =>
    simp only [cBound, Option.map_some, Option.map_eq_some_iff] at h
    obtain ⟨p, hp, rfl⟩ := h
    exact .inr ⟨y, p.1, rfl, isInt_is (show isInt (ρ y) = some (p.1, p.2) from hp) (hρ y)⟩
theorem run_bounds {ρ : Operand → AV} (hρ : ∀ x, AVR w S (dom μ) η (ρ x) (a.eval x)) {lo hi : Option Operand} {n c : Nat} {L H : Int} (b : Bool) (hn : n ≤ c)
    (h1 : cBound (lo.map ρ) 0 = some L) (h2 : cBound (hi.map ρ) n = some H) (h0 : 0 ≤ L) (hlh : L ≤ H) (hh : H ≤ n) :
    (Instr.sliceBounds b n c (lo.map a.eval) (hi.map a.eval) none).run P w = .ok (L.toNat, H.toNat, c) w := by
  have e3 : (H.toNat : Int) = H := by omega
  rcases bound_is hρ h1 with ⟨rfl, rfl⟩ | ⟨y1, k1, rfl, v1⟩ <;> rcases bound_is hρ h2 with ⟨rfl, rfl⟩ | ⟨y2, k2, rfl, v2⟩
  · simp [Instr.sliceBounds]
  · simp [Instr.sliceBounds, v2, run_sliceBound, show H ≤ (c : Int) by omega, hlh]
  · simp [Instr.sliceBounds, v1, run_sliceBound, hlh, h0]
  · simp [Instr.sliceBounds, v1, v2, run_sliceBound, show H ≤ (c : Int) by omega, show (0 : Int) ≤ H by omega, h0, e3, hlh]
theorem told_slice (hM : InvM w0 M S0 μ η S w) (hΔ : TysOk P Δ) (T : TypeId) (x : Operand) (lo hi mx : Option Operand) (ho : o.op = .slice T x lo hi mx)
    {ρ : Operand → AV} (hρ : ∀ x, AVR w S (dom μ) η (ρ x) (a.eval x)) : Told w0 M S0 μ η S P o a w (cSlice Δ μ T (ρ x) (lo.map ρ) (hi.map ρ) (mx.map ρ)) := by
  have hx := hρ x
  unfold cSlice
  split
  · rename_i m hm
    obtain ⟨mo, rfl, hmo⟩ : ∃ mo, mx = some mo ∧ ρ mo = m := by
      cases mx with
      | none => cases hm
      | some mo => exact ⟨mo, rfl, by simpa using hm⟩
    split
    · rename_i e _ _ _ l hT hxa
      split
      · rename_i t xs fz ei hl hei
        split
        · rename_i L k1 H k2 Mx hL hH hMx
          split
          · rename_i hsz
            refine .ok fun hc => ?_
            obtain ⟨h0, h1, hHM, h2⟩ := hc
            subst hHM
            rw [hxa] at hx
            obtain ⟨S', i1, s1, f1, c1⟩ := leafD_is hM (Fz.refl μ) hl (show LR w S (dom μ) η l (a.eval x) from hx)
            obtain ⟨A, c, hcs, hlc, hmax, hrow⟩ := c1
            simp only [List.cons.injEq, and_true] at hcs
            have hlc : xs.length ≤ c := hlc
            obtain ⟨ho1, rfl, hh1⟩ : ∃ ho1, hi = some ho1 ∧ isInt (ρ ho1) = some (k1, H) := by
              cases hi with
              | none => simp at hH
              | some ho1 => exact ⟨ho1, rfl, by simpa using hH⟩
            have e1 : a.eval ho1 = .int k1 H := isInt_is hh1 (hρ ho1)
            have e2 : a.eval mo = .int k2 H := isInt_is (by rw [hmo]; exact hMx) (hρ mo)
            have hrun : (Instr.sliceBounds true xs.length c (lo.map a.eval) (some (a.eval ho1)) (some (a.eval mo))).run P w = .ok (L.toNat, H.toNat, H.toNat) w := by
              obtain ⟨Hn, rfl⟩ : ∃ n : Nat, H = n := ⟨H.toNat, by omega⟩
              have q1 : Hn ≤ c := by omega
              cases lo with
              | none =>
                simp only [Option.map_none, cBound, Option.some.injEq] at hL
                subst hL
                simp [Instr.sliceBounds, Instr.sliceBound, e1, e2, asIntOf, q1]
              | some lo1 =>
                obtain ⟨p, hp1, hp2⟩ := Option.map_eq_some_iff.1 (show (isInt (ρ lo1)).map (·.2) = some L from hL)
                obtain ⟨kk, LL⟩ := p
                simp only at hp2
                subst hp2
                have e3 : a.eval lo1 = .int kk LL := isInt_is hp1 (hρ lo1)
                obtain ⟨Ln, rfl⟩ : ∃ n : Nat, LL = n := ⟨LL.toNat, by omega⟩
                have q3 : Ln ≤ Hn := by omega
                simp [Instr.sliceBounds, Instr.sliceBound, e1, e2, e3, asIntOf, q1, q3]
            refine goes_value (v := .slice (if H.toNat = L.toNat then A else A.map (·.add (L.toNat * t.size))) (H.toNat - L.toNat) (H.toNat - L.toNat)) (w' := w) ?_ ⟨η, S', i1, s1, ?_⟩
            · simp only [execOp, ho, hcs, Option.map_some, Instr.sliceAt, Instr.slice, Sem.run_bind, run_underlying (tys_slice hΔ hT), Result.andThen_ok, hrun, run_sizeOf (hΔ e ei hei), hsz, Sem.run_pure]
            · have hlen : ((xs.take H.toNat).drop L.toNat).length = H.toNat - L.toNat := by simp; omega
              refine ⟨⟨(if H.toNat = L.toNat then A else A.map (·.add (L.toNat * t.size))), H.toNat - L.toNat, by rw [hlen], by rw [hlen]; omega, by omega, ?_⟩, _, _, rfl⟩
              by_cases hcl : H.toNat = L.toNat
              · intro i y hy
                have h3 : i < ((xs.take H.toNat).drop L.toNat).length := (List.getElem?_eq_some_iff.1 hy).1
                rw [hlen] at h3
                omega
              · have := row_sub hrow L.toNat H.toNat H.toNat hcl
                exact this
          · exact .no
        · exact .no
      · exact .no
    · exact .no
  · rename_i hmx
    have hmx' : mx = none := by simpa using hmx
    subst hmx'
    split
    · rename_i e _ _ _ l hT hxa
      split
      · rename_i t xs fz ei hl hei
        split
        · rename_i L H hL hH
          split
          · rename_i hsz
            refine .ok fun hc => ?_
            obtain ⟨h0, h1, h2⟩ := hc
            rw [hxa] at hx
            obtain ⟨S', i1, s1, f1, c1⟩ := leafD_is hM (Fz.refl μ) hl (show LR w S (dom μ) η l (a.eval x) from hx)
            obtain ⟨A, c, hcs, hlc, hmax, hrow⟩ := c1
            simp only [List.cons.injEq, and_true] at hcs
            have hlc : xs.length ≤ c := hlc
            have hrun := run_bounds (P := P) hρ true hlc hL hH h0 h1 h2
            refine goes_value (v := .slice (if c = L.toNat then A else A.map (·.add (L.toNat * t.size))) (H.toNat - L.toNat) (c - L.toNat)) (w' := w) ?_ ⟨η, S', i1, s1, ?_⟩
            · simp only [execOp, ho, hcs, Option.map_none, Instr.sliceAt, Instr.slice, Sem.run_bind, run_underlying (tys_slice hΔ hT), Result.andThen_ok, hrun, run_sizeOf (hΔ e ei hei), hsz, Sem.run_pure]
            · have hlen : ((xs.take H.toNat).drop L.toNat).length = H.toNat - L.toNat := by simp; omega
              refine ⟨(if c = L.toNat then A else A.map (·.add (L.toNat * t.size))), c - L.toNat, by rw [hlen], by rw [hlen]; omega, by omega, ?_⟩
              by_cases hcl : c = L.toNat
              · intro i y hy
                have h3 : i < ((xs.take H.toNat).drop L.toNat).length := (List.getElem?_eq_some_iff.1 hy).1
                rw [hlen] at h3
                omega
              · exact row_sub hrow L.toNat H.toNat c hcl
          · exact .no
        · exact .no
      · exact .no
    · rename_i hT
      split
      · rename_i s hs
        split
        · rename_i L H hL hH
          refine .ok fun hc => ?_
          obtain ⟨h0, h1, h2⟩ := hc
          have hv := isStr_is hs hx
          have hrun := run_bounds (P := P) hρ false (Nat.le_refl s.size) hL hH h0 h1 h2
          refine goes_pure hM (v := .string (s.extract L.toNat H.toNat)) ?_ (avr_str _)
          have hn : (none : Option Value).isSome = false := rfl
          simp only [execOp, ho, hv, Option.map_none, Instr.sliceAt, Instr.slice, Sem.run_bind, run_underlying (tys_str hΔ hT), Result.andThen_ok, hrun, Sem.run_pure, hn, Bool.false_eq_true, if_false]
        · exact .no
      · exact .no
    · exact .no

theorem told_sliceOwn (hM : InvM w0 M S0 μ η S w) (hΔ : TysOk P Δ) (T : TypeId) (x : Operand) (lo hi : Option Operand) (ho : o.op = .slice T x lo hi none)
    {ρ : Operand → AV} (hρ : ∀ x, AVR w S (dom μ) η (ρ x) (a.eval x)) {id : Nat} (hxa : ρ x = .val (false, [.own id])) : Told w0 M S0 μ η S P o a w (cSliceOwn Δ μ T id (lo.map ρ) (hi.map ρ)) := by
  have hx := hρ x
  rw [hxa] at hx
  unfold cSliceOwn
  split
  · rename_i e _ _ _ e' t xs hT hid
    split
    · rename_i L H ei hL hH hei
      split
      · rename_i hsz
        refine .ok fun hc => ?_
        obtain ⟨h0, h1, h2⟩ : 0 ≤ L ∧ L ≤ H ∧ H ≤ xs.length := hc
        obtain ⟨hd, hv, _⟩ : dom μ id ∧ a.eval x = η id ∧ (a.eval x).oneCell' = true := hx
        obtain ⟨cells, hown, _, hbl⟩ := hM.chunk id _ hid
        have hform : ∃ A c, η id = .slice A xs.length c ∧ xs.length ≤ c ∧ (0 < xs.length → ∃ g, A = some ⟨g, 0, none⟩) ∧ (∀ ad, A = some ad → ∃ b o, ad = ⟨b, o, none⟩) := by
          rcases hown.2 with ⟨h3, h4⟩ | ⟨g, cap, cur, h3, _, _, h4, _⟩
          · exact ⟨none, 0, by rw [h3, h4], by omega, fun h => by omega, fun ad h => by cases h⟩
          · exact ⟨_, cap, h3, h4, fun _ => ⟨g, rfl⟩, fun ad h => by cases h; exact ⟨g, 0, rfl⟩⟩
        obtain ⟨A, c, hη, hlc, hA, hAf⟩ := hform
        have hrun := run_bounds (P := P) (w := w) hρ true hlc hL hH h0 h1 h2
        refine goes_pure hM (v := .slice (if c = L.toNat then A else A.map (·.add (L.toNat * t.size))) (H.toNat - L.toNat) (c - L.toNat)) ?_ ⟨hd, h0, h1, A, xs.length, c, (if c = L.toNat then A else A.map (·.add (L.toNat * t.size))), c - L.toNat, hη, h2, rfl, by omega, by omega, hAf, fun hl => ?_, fun hp => ?_⟩
        · simp only [execOp, ho, hv, hη, Option.map_none, Instr.sliceAt, Instr.slice, Sem.run_bind, run_underlying (tys_slice hΔ hT), Result.andThen_ok, hrun, run_sizeOf (hΔ e ei hei), hsz, Sem.run_pure]
        · obtain ⟨g, rfl⟩ := hA (by omega)
          refine ⟨g, 0, rfl, ?_⟩
          rw [if_neg (by omega)]
          simp [Addr.add_lit]
        · have hl0 : L = 0 := by
            cases lo with
            | none => simpa [cBound] using hL.symm
            | some y => simp at hp
          subst hl0
          refine ⟨rfl, ?_, by simp⟩
          cases A with
          | none => simp
          | some ad =>
            obtain ⟨b, oo, rfl⟩ := hAf ad rfl
            simp [Addr.add_lit]
      · exact .no
    · exact .no
  · exact .no
theorem told_sliceSub (hM : InvM w0 M S0 μ η S w) (hΔ : TysOk P Δ) (T : TypeId) (x : Operand) (lo hi : Option Operand) (ho : o.op = .slice T x lo hi none)
    {ρ : Operand → AV} (hρ : ∀ x, AVR w S (dom μ) η (ρ x) (a.eval x)) {id sz : Nat} {l0 h0 : Int} {pre : Bool} (hxa : ρ x = .val (false, [.sub id sz l0 h0 pre])) : Told w0 M S0 μ η S P o a w (cSliceSub Δ T id sz l0 h0 pre (lo.map ρ) (hi.map ρ)) := by
  have hx := hρ x
  rw [hxa] at hx
  unfold cSliceSub
  split
  · rename_i e _ _ _ hT
    split
    · rename_i L H ei hL hH hei
      split
      · rename_i hsz
        refine .ok fun hc => ?_
        obtain ⟨h1, h2, h3⟩ : 0 ≤ L ∧ L ≤ H ∧ H ≤ h0 - l0 := hc
        obtain ⟨hd, g0, g1, A, n, c, A', c', hη, hhn, hv, hcc, hcc2, hAf, hA, hpre⟩ := hx
        have hH' : cBound (hi.map ρ) ((h0.toNat - l0.toNat : Nat) : Int) = some H := by
          rw [← hH]; congr 1; omega
        have hrun := run_bounds (P := P) (w := w) hρ true hcc hL hH' h1 h2 (by omega)
        refine goes_pure hM (v := .slice (if c' = L.toNat then A' else A'.map (·.add (L.toNat * sz))) (H.toNat - L.toNat) (c' - L.toNat)) ?_ ⟨hd, by omega, by omega, A, n, c, (if c' = L.toNat then A' else A'.map (·.add (L.toNat * sz))), c' - L.toNat, hη, by omega, ?_, by omega, by omega, hAf, fun hl => ?_, fun hp => ?_⟩
        · simp only [execOp, ho, hv, Option.map_none, Instr.sliceAt, Instr.slice, Sem.run_bind, run_underlying (tys_slice hΔ hT), Result.andThen_ok, hrun, run_sizeOf (hΔ e ei hei), hsz, Sem.run_pure]
        · congr 1; omega
        · obtain ⟨b, oo, rfl, rfl⟩ := hA (by omega)
          refine ⟨b, oo, rfl, ?_⟩
          rw [if_neg (by omega)]
          have : (l0 + L).toNat = l0.toNat + L.toNat := by omega
          simp [Addr.add_lit, this, Nat.add_mul, Nat.add_assoc]
        · simp only [Bool.and_eq_true] at hp
          obtain ⟨q1, q2, q3⟩ := hpre hp.1
          have hl0 : L = 0 := by
            cases lo with
            | none => simpa [cBound] using hL.symm
            | some y => simp at hp
          subst hl0
          subst q1
          subst q2
          subst q3
          refine ⟨rfl, ?_, by simp⟩
          cases A' with
          | none => simp
          | some ad =>
            obtain ⟨b, oo, rfl⟩ := hAf ad rfl
            simp [Addr.add_lit]
      · exact .no
    · exact .no
  · exact .no
theorem told_sliceAny (hM : InvM w0 M S0 μ η S w) (hΔ : TysOk P Δ) (T : TypeId) (x : Operand) (lo hi mx : Option Operand) (ho : o.op = .slice T x lo hi mx)
    {ρ : Operand → AV} (hρ : ∀ x, AVR w S (dom μ) η (ρ x) (a.eval x)) : Told w0 M S0 μ η S P o a w (cSliceAny Δ μ T (ρ x) (lo.map ρ) (hi.map ρ) (mx.map ρ)) := by
  have key := told_slice hM hΔ T x lo hi mx ho hρ
  unfold cSliceAny
  split
  · rename_i m hm
    rw [hm] at key
    exact key
  · rename_i hm
    have hmx : mx = none := by simpa using hm
    subst hmx
    split
    · rename_i id hxa
      split
      · exact told_sliceOwn hM hΔ T x lo hi ho hρ hxa
      · exact key
    · rename_i id sz l0 h0 pre hxa
      exact told_sliceSub hM hΔ T x lo hi ho hρ hxa
    · exact key

/-! ### appending -/
/-- Elements that lie one behind the other: their cells. -/
theorem elems_cells {α : Type} {R : List Value → α → Prop} {sz : Nat} {f : Nat → Option Value} : ∀ (xs : List α) (k : Nat), (∀ (i : Nat) (x : α), xs[i]? = some x → ∃ cs, R cs x ∧ cs.length = sz ∧ ∀ (j : Nat) (u : Value), cs[j]? = some u → f (k + (i * sz + j)) = some u) →
    ∃ css : List (List Value), F2 (fun x cs => R cs x) xs css ∧ css.flatten.length = xs.length * sz ∧ ∀ (j : Nat) (u : Value), css.flatten[j]? = some u → f (k + j) = some u
  | [], _, _ => ⟨[], .nil, by simp, fun j u h => by simp at h⟩
  | x :: xs, k, h => by
    obtain ⟨cs, h1, h2, h3⟩ := h 0 x rfl
    obtain ⟨css, g1, g2, g3⟩ := elems_cells (f := f) (R := R) (sz := sz) xs (k + sz) fun i y hy => by
      obtain ⟨cs', e1, e2, e3⟩ := h (i + 1) y (by simpa using hy)
      exact ⟨cs', e1, e2, fun j u hu => by rw [← e3 j u hu, Nat.add_mul]; congr 1; omega⟩
    refine ⟨cs :: css, .cons h1 g1, by simp [h2, g2, Nat.add_mul]; omega, fun j u hu => ?_⟩
    rw [List.flatten_cons, List.getElem?_append] at hu
    split at hu
    · have := h3 j u hu
      simpa using this
    · rename_i hj
      have := g3 (j - cs.length) u hu
      rw [← this]; congr 1; omega
theorem flat_sub {α : Type} {sz : Nat} (css : List (List α)) (l h j : Nat) (u : α) (hall : ∀ c ∈ css, c.length = sz) (hu : ((css.take h).drop l).flatten[j]? = some u) : css.flatten[l * sz + j]? = some u := by
  have hlen : ∀ m : List (List α), (∀ c ∈ m, c.length = sz) → m.flatten.length = m.length * sz := by
    intro m
    induction m with
    | nil => intro _; simp
    | cons a m ih => intro h; rw [List.flatten_cons, List.length_append, h a (by simp), ih fun c hc => h c (List.mem_cons_of_mem _ hc), List.length_cons, Nat.succ_mul]; omega
  by_cases hl : l ≤ (css.take h).length
  · have e : css = (css.take h).take l ++ ((css.take h).drop l ++ css.drop h) := by rw [← List.append_assoc, List.take_append_drop, List.take_append_drop]
    have h1 : ((css.take h).take l).flatten.length = l * sz := by
      rw [hlen _ fun c hc => hall c (List.mem_of_mem_take (List.mem_of_mem_take hc)), List.length_take, Nat.min_eq_left hl]
    rw [e, List.flatten_append, List.getElem?_append_right (by rw [h1]; omega), h1, Nat.add_sub_cancel_left, List.flatten_append]
    have := (List.getElem?_eq_some_iff.1 hu).1
    rw [List.getElem?_append_left this]
    exact hu
  · rw [List.drop_eq_nil_of_le (by omega)] at hu
    simp at hu
/-- What is appended: its header, and its cells. -/
theorem sliceOf_cells (hM : InvM w0 M S0 μ η S w) {l : Leaf} {t : Ty} {ys : List t.den} (h : sliceOf μ l = some ⟨.slice t, ys⟩) {v : Value} (hv : LR w S (dom μ) η l v) :
    ∃ A c css, v = .slice A ys.length c ∧ F2 (fun x cs => CR w S t cs x) ys css ∧ css.flatten.length = ys.length * t.size ∧ (A = none → ys = []) ∧ ∀ ad, A = some ad → ∀ (j : Nat) (u : Value), css.flatten[j]? = some u → w.cell? (ad.add j) = some u := by
  have fromRow : ∀ {A : Option Addr} {c : Nat}, Row w S (CR w S t) t.size A ys → ∃ css, F2 (fun x cs => CR w S t cs x) ys css ∧ css.flatten.length = ys.length * t.size ∧ (A = none → ys = []) ∧ ∀ ad, A = some ad → ∀ (j : Nat) (u : Value), css.flatten[j]? = some u → w.cell? (ad.add j) = some u := by
    intro A c hrow
    cases hys : ys with
    | nil => exact ⟨[], .nil, by simp, fun _ => rfl, fun ad _ j u hu => by simp at hu⟩
    | cons y0 rest =>
      rw [← hys]
      obtain ⟨b, o, _, hA, _⟩ := hrow 0 y0 (by rw [hys]; rfl)
      obtain ⟨css, h1, h2, h3⟩ := elems_cells (R := CR w S t) (sz := t.size) (f := fun j => w.cell? ⟨b, o + j, none⟩) ys 0 fun i x hx => by
        obtain ⟨b', o', cs, hA', hS, hcr, hlen, hcell⟩ := hrow i x hx
        rw [hA] at hA'
        simp only [Option.some.injEq, Addr.mk.injEq, and_true] at hA'
        obtain ⟨rfl, rfl⟩ := hA'
        exact ⟨cs, hcr, hlen, fun j u hu => by rw [Nat.zero_add]; exact hcell j u hu⟩
      refine ⟨css, h1, h2, fun hn => (by rw [hA] at hn; cases hn), fun ad had j u hu => ?_⟩
      rw [hA] at had
      cases had
      rw [Addr.add_lit]
      have := h3 j u hu
      rwa [Nat.zero_add] at this
  unfold sliceOf at h
  split at h
  · rename_i t' xs'
    simp only [Option.some.injEq, D.mk.injEq, Ty.slice.injEq] at h
    obtain ⟨rfl, h⟩ := h
    have := eq_of_heq h
    subst this
    obtain ⟨A, c, h1, _, _, hrow⟩ := hv
    simp only [List.cons.injEq, and_true] at h1
    obtain ⟨css, g⟩ := fromRow (c := c) hrow
    exact ⟨A, c, css, h1, g⟩
  · rename_i t' xs'
    simp only [Option.some.injEq, D.mk.injEq, Ty.slice.injEq] at h
    obtain ⟨rfl, h⟩ := h
    have := eq_of_heq h
    subst this
    obtain ⟨A, c, h1, _, _, hrow⟩ := hv.1
    simp only [List.cons.injEq, and_true] at h1
    obtain ⟨css, g⟩ := fromRow (c := c) hrow
    exact ⟨A, c, css, h1, g⟩
  · rename_i t' xs' _
    simp only [Option.some.injEq, D.mk.injEq, Ty.slice.injEq] at h
    obtain ⟨rfl, h⟩ := h
    have := eq_of_heq h
    subst this
    obtain ⟨A, c, h1, _, _, hrow⟩ := hv.1
    simp only [List.cons.injEq, and_true] at h1
    obtain ⟨css, g⟩ := fromRow (c := c) hrow
    exact ⟨A, c, css, h1, g⟩
  · rename_i id
    split at h
    · rename_i e t' xs' fz hid
      simp only [Option.some.injEq, D.mk.injEq, Ty.slice.injEq] at h
      obtain ⟨rfl, h⟩ := h
      have := eq_of_heq h
      subst this
      have hch := hM.chunk id _ hid
      rw [hv.2.1]
      cases fz with
      | true =>
        obtain ⟨A, c, h1, _, _, hrow⟩ := hch
        simp only [List.cons.injEq, and_true] at h1
        obtain ⟨css, g⟩ := fromRow (c := c) hrow
        exact ⟨A, c, css, h1, g⟩
      | false =>
        obtain ⟨cells, hown, ⟨css, rfl, hf⟩, _⟩ := hch
        rcases hown.2 with ⟨h1, h2⟩ | ⟨g, cap, cur, h1, hrest⟩
        · exact ⟨none, 0, css, by rw [h1, h2], hf, hown.1, fun _ => List.length_eq_zero_iff.1 h2, fun ad had => by cases had⟩
        · refine ⟨_, cap, css, h1, hf, hown.1, fun hn => (by cases hn), fun ad had j u hu => ?_⟩
          cases had
          exact hown.cells (g := g) (by simp [h1, Value.ownBlock]) j u hu
    · cases h
  · rename_i id sz lo hi pre
    split at h
    · rename_i e t' xs' fz hid
      split at h
      · rename_i hsz
        simp only [Option.some.injEq, D.mk.injEq, Ty.slice.injEq] at h
        obtain ⟨rfl, h⟩ := h
        have := eq_of_heq h
        subst this
        have hch := hM.chunk id _ hid
        cases fz with
        | true =>
          obtain ⟨A, c, h1, _, _, hrow⟩ := sub_CR hv hsz hch
          simp only [List.cons.injEq, and_true] at h1
          obtain ⟨css, g⟩ := fromRow (c := c) hrow
          exact ⟨A, c, css, h1, g⟩
        | false =>
          obtain ⟨_, h0, hlh, A, n, c, A', c', hη, hhn, hv, hcc, hcc2, _, hA, _⟩ := hv
          obtain ⟨A1, c1, h1⟩ := rows_head hM hid
          rw [hη] at h1
          simp only [Value.slice.injEq] at h1
          obtain ⟨rfl, rfl, rfl⟩ := h1
          have hlen : ((xs'.take hi.toNat).drop lo.toNat).length = hi.toNat - lo.toNat := by simp only [List.length_drop, List.length_take]; omega
          obtain ⟨cells, hown, ⟨css, rfl, hf⟩, _⟩ := hch
          have hall : ∀ c ∈ css, c.length = t'.size := fun c hc => by
            obtain ⟨q, hq⟩ := List.getElem?_of_mem hc
            obtain ⟨y, _, hyr⟩ := hf.get' q c hq
            exact CR_len hyr
          have hf2 := (hf.take hi.toNat).drop lo.toNat
          have hflen : ((css.take hi.toNat).drop lo.toNat).flatten.length = ((xs'.take hi.toNat).drop lo.toNat).length * t'.size := by
            rw [hf2.length]
            have : ∀ l : List (List Value), (∀ c ∈ l, c.length = t'.size) → l.flatten.length = l.length * t'.size := by
              intro l
              induction l with
              | nil => intro _; simp
              | cons a l ih => intro h; rw [List.flatten_cons, List.length_append, h a (by simp), ih fun c hc => h c (List.mem_cons_of_mem _ hc), List.length_cons, Nat.succ_mul]; omega
            exact this _ fun c hc => hall c (List.mem_of_mem_take (List.mem_of_mem_drop hc))
          refine ⟨A', c', _, by rw [hv, hlen], hf2, hflen, fun hn => ?_, fun ad had j u hu => ?_⟩
          · by_cases hl : lo < hi
            · obtain ⟨b, oo, _, h6⟩ := hA hl
              rw [h6] at hn; cases hn
            · exact List.length_eq_zero_iff.1 (by rw [hlen]; omega)
          · have hl : lo < hi := by
              have h5 := (List.getElem?_eq_some_iff.1 hu).1
              rw [hflen, hlen] at h5
              refine Classical.byContradiction fun h => ?_
              rw [show hi.toNat - lo.toNat = 0 by omega] at h5
              simp at h5
            obtain ⟨b, oo, h5, h6⟩ := hA hl
            rw [h6] at had
            cases had
            have hb : oo = 0 := by
              rcases hown.2 with ⟨h7, _⟩ | ⟨g, cap, cur, h7, _⟩
              · rw [hη, h5] at h7; simp at h7
              · rw [hη, h5] at h7
                simp only [Value.slice.injEq, Option.some.injEq, Addr.mk.injEq] at h7
                exact h7.1.2.1
            subst hb
            have hj : css.flatten[lo.toNat * t'.size + j]? = some u := flat_sub css lo.toNat hi.toNat j u hall hu
            have := hown.cells (g := b) (by simp [hη, h5, Value.ownBlock]) _ u hj
            rw [Addr.add_lit] at this ⊢
            rw [← hsz, Nat.add_assoc]
            exact this
      · cases h
    · cases h
  · cases h
theorem run_append_none (t ty e : TypeId) (i : TypeInfo) (ht : P.underlying t = some (.slice e)) (hi : P.info? e = some i) (A : Option Addr) (n cap c : Nat) (hn : n ≤ cap) (w : World) :
    (Builtin.append_ #[t, t] ty #[.slice A n cap, .slice none 0 c]).run P w = .ok (.slice A n cap) w := by
  cases A <;> simp [Builtin.append_, run_underlying ht, sizeOf, typeInfo, hi, Builtin.lenOf, hn, Builtin.firstCells, storeCells]
theorem RowsR.append {t : Ty} {xs ys : List t.den} {cells : List Value} (h : RowsR w S t xs cells) {css : List (List Value)} (hf : F2 (fun x cs => CR w S t cs x) ys css) : RowsR w S t (xs ++ ys) (cells ++ css.flatten) := by
  obtain ⟨c0, rfl, h0⟩ := h
  exact ⟨c0 ++ css, by simp, h0.append hf⟩
theorem RowsR.one {t : Ty} {ys : List t.den} {css : List (List Value)} (hf : F2 (fun x cs => CR w S t cs x) ys css) : ∀ u ∈ css.flatten, u.oneCell' = true := by
  intro u hu
  obtain ⟨cs, h1, h2⟩ := List.mem_flatten.1 hu
  obtain ⟨i, hi⟩ := List.getElem?_of_mem h1
  obtain ⟨x, _, hr⟩ := hf.get' i cs hi
  exact CR_one hr u h2
theorem own_slice {base : Nat} {e : TypeId} {size : Nat} {v : Value} {n : Nat} {xs : List Value} (h : w.ownsRow base e size v n xs) : (∃ A c, v = .slice A n c ∧ n ≤ c) ∧ blk v = v.ownBlock := by
  rcases h.2 with ⟨h1, h2⟩ | ⟨g, cap, cur, h1, _, _, h2, _⟩
  · subst h2; exact ⟨⟨none, 0, h1, Nat.le_refl _⟩, by rw [h1]; rfl⟩
  · exact ⟨⟨_, cap, h1, h2⟩, by rw [h1]; rfl⟩
/-- Where a row of the call's own has grown. -/
theorem own_grown (hM : InvM w0 M S0 μ η S w) {new : Nat} (hnew : μ new = none) {id : Nat} {e : TypeId} {t : Ty} {xs ys : List t.den} {cells : List Value} {css : List (List Value)} (hid : μ id = some (.rows e t xs false)) (hd : dom μ id)
    (hown : w.ownsRow 0 e t.size (η id) xs.length cells) (hrows : RowsR w S t xs cells) (hblk : ∀ k, blk (η id) = some k → ¬ S k ∧ (w0.heap.size ≤ k ∨ M k)) (hidS : ∀ k, blk (η id) = some k → ¬ S k) (hfy : F2 (fun x cs => CR w S t cs x) ys css) {v' : Value}
    (hrun : (execOp a.eval o).run P w = .ok (.value v') w') (hown' : w'.ownsRow 0 e t.size v' (xs.length + ys.length) (cells ++ css.flatten)) (hg : w.grownBy w' (η id).ownBlock) (hvb : v'.ownBlock = (η id).ownBlock ∨ v'.ownBlock = some w.heap.size) :
    Goes P o a w (After w0 M S0 μ η S w ⟨lv (.own new), [(id, .gone), (new, .rows e t (xs ++ ys) false)]⟩) := by
  have hbv : blk (η id) = (η id).ownBlock := (own_slice hown).2
  have hbv' : blk v' = v'.ownBlock := (own_slice hown').2
  have hne : ∀ i, dom μ i → i ≠ new := fun i hi e => by subst e; simp [dom, hnew] at hi
  have hidn : id ≠ new := hne id hd
  let η' : Nat → Value := fun i => if i = new then v' else η i
  let c' : Chunk := .rows e t (xs ++ ys) false
  have hmu : ∀ i, muPut μ [(id, .gone), (new, c')] i = if i = new then some c' else if i = id then some .gone else μ i := fun i => rfl
  have hold : ∀ k, k < w.heap.size → blk (η id) ≠ some k → w'.heap[k]? = w.heap[k]? := fun k hk hne => hg.block k hk (by rw [← hbv]; exact fun e => hne e.symm)
  have hst : Stay w w' S S (dom μ) (dom (muPut μ [(id, .gone), (new, c')])) η η' :=
    ⟨fun _ h => h, fun b hb => hold b (hM.lt b hb) (fun e => hidS b e hb), dom_put _, fun i hi => by simp [η', hne i hi]⟩
  have hfr : Frame0 M w0 w' := by
    refine ⟨hg.os.trans hM.frame.os, hg.tape.trans hM.frame.tape, hg.output.trans hM.frame.output, Nat.le_trans hM.frame.size hg.size, fun k hk hm => ?_⟩
    rw [hold k (Nat.lt_of_lt_of_le hk hM.frame.size) (fun e => ?_)]
    · exact hM.frame.block k hk hm
    · rcases (hblk k e).2 with h | h
      · omega
      · exact hm h
  have hnewb : ∀ k, blk v' = some k → blk (η id) = some k ∨ k = w.heap.size := by
    intro k hk
    rw [hbv'] at hk
    rcases hvb with h | h
    · left; rw [hbv, ← h]; exact hk
    · right; rw [h] at hk; simpa using hk.symm
  refine goes_value hrun ⟨η', S, inv_upd hM hfr hg.size hst (fun i ci hi => ?_), hst, ?_⟩
  · rw [hmu] at hi
    by_cases he : i = new
    · subst he
      simp only [if_true, Option.some.injEq] at hi
      subst hi
      refine .inr ⟨⟨cells ++ css.flatten, ?_, ?_, fun k hk => ?_⟩, fun _ k hk j cj hj hcj hlj hkj => ?_⟩
      · simp only [η', if_true, List.length_append]; exact hown'
      · exact RowsR_stay (fun _ h => h) hst.w (hrows.append hfy)
      · simp only [η', if_true] at hk
        rcases hnewb k hk with h | h
        · exact hblk k h
        · subst h
          exact ⟨fun h => Nat.lt_irrefl _ (hM.lt _ h), .inl hM.frame.size⟩
      · rw [hmu] at hcj
        simp only [if_neg hj] at hcj
        simp only [η', if_neg hj] at hkj
        simp only [η', if_true] at hk
        by_cases hji : j = id
        · subst hji
          simp only [if_true, Option.some.injEq] at hcj
          subst hcj
          simp [Chunk.live] at hlj
        · simp only [if_neg hji] at hcj
          rcases hnewb k hk with h | h
          · exact hM.apart j id cj _ k hcj hid hlj rfl hji hkj h
          · have := (live_blk hM hcj hlj hkj).1
            omega
    · simp only [if_neg he] at hi
      by_cases hji : i = id
      · subst hji
        simp only [if_true, Option.some.injEq] at hi
        subst hi
        exact .inr ⟨trivial, fun h => by simp [Chunk.live] at h⟩
      · simp only [if_neg hji] at hi
        exact .inl ⟨hi, fun hl k hk => hold k (live_blk hM hi hl hk).1 (fun e => hM.apart i id ci _ k hi hid hl rfl hji hk e)⟩
  · refine ⟨by show (muPut μ [(id, .gone), (new, c')] new).isSome = true; rw [hmu]; simp, by simp [η'], ?_⟩
    obtain ⟨⟨A', c'', h, _⟩, _⟩ := own_slice hown'
    rw [h]; rfl
theorem told_append (hM : InvM w0 M S0 μ η S w) (hΔ : TysOk P Δ) {new : Nat} (hnew : μ new = none) (T : TypeId) (x y : Operand) (c : Call) (ho : o.op = .call c) (hc : c.callee = .builtin .append) (ha : c.args = #[x, y]) (hT : c.argTypes = #[T, T])
    {xa ya : AV} (hx : AVR w S (dom μ) η xa (a.eval x)) (hy : AVR w S (dom μ) η ya (a.eval y)) : Told w0 M S0 μ η S P o a w (cAppend Δ μ new T xa ya) := by
  have hexec : ∀ v' w', (Builtin.append_ #[T, T] o.type #[a.eval x, a.eval y]).run P w = .ok v' w' → (execOp a.eval o).run P w = .ok (.value v') w' := by
    intro v' w' h
    simp [execOp, ho, resolve, hc, ha, hT, invoke, builtin, h]
  unfold cAppend
  split
  · rename_i id l e _ _ _ hTT
    split
    · rename_i e' t xs t' ys ei hid hsl hei
      split
      · rename_i htt
        subst htt
        split
        · rename_i hcond
          obtain ⟨rfl, hsz, hpos, hzero, hno⟩ := hcond
          refine .ok fun hb => ?_
          obtain ⟨hbytes, h63⟩ := hb
          obtain ⟨hd, hv, hone⟩ := hx
          obtain ⟨cells, hown, hrows, hblk⟩ := hM.chunk id _ hid
          obtain ⟨A, cy, css, hvy, hfy, hly, hnone, hcy⟩ := sliceOf_cells hM hsl (show LR w S (dom μ) η l (a.eval y) from hy)
          obtain ⟨inf, hinf, hs1, hb1, hz1⟩ := (hΔ e' ei hei).size
          obtain ⟨ty, hty⟩ := Option.isSome_iff_exists.1 hzero
          obtain ⟨hts, z, hz2, hz3⟩ := hz1 ty hty
          have hzs : z.cells.size = t'.size := by
            rw [← hsz, ← hts, ← Array.length_toList, hz3]
            exact CR_len (CR_zero w S ty)
          have hidS : ∀ k, blk (η id) = some k → ¬ S k := fun k hk => (hblk k hk).1
          have key : ∃ v' w', (Builtin.append_ #[T, T] o.type #[a.eval x, a.eval y]).run P w = .ok v' w' ∧ w'.ownsRow 0 e' t'.size v' (xs.length + ys.length) (cells ++ css.flatten) ∧ w.grownBy w' (η id).ownBlock ∧ (v'.ownBlock = (η id).ownBlock ∨ v'.ownBlock = some w.heap.size) := by
            rw [hv, hvy]
            cases A with
            | none =>
              have := hnone rfl
              subst this
              obtain ⟨⟨A', c', hsl', hle'⟩, _⟩ := own_slice hown
              have hcss : css = [] := by cases hfy; rfl
              subst hcss
              rw [hsl']
              refine ⟨_, w, run_append_none T o.type e' inf (tys_slice hΔ hTT) hinf A' xs.length c' cy hle' w, ?_, ⟨rfl, rfl, rfl, Nat.le_refl _, fun _ _ _ => rfl⟩, .inl rfl⟩
              simp only [List.length_nil, Nat.add_zero, List.flatten_nil, List.append_nil]
              rw [← hsl']; exact hown
            | some ad =>
              obtain ⟨v', w', h1, h2, h3, _, h5⟩ := run_append_own_at (P := P) w 0 T o.type e' inf z t'.size ei.bytes (tys_slice hΔ hTT) hinf hz2 (by omega) hb1 hzs hpos (η id) xs.length cells hown ad ys.length cy css.flatten hly (hcy ad rfl) (RowsR.one hfy)
                (by simp only [maxLen]; omega) hbytes (Nat.zero_le _)
              exact ⟨v', w', h1, h2, h3, h5⟩
          obtain ⟨v', w', hrun, hown', hg, hvb⟩ := key
          exact own_grown hM hnew hid hd hown hrows hblk hidS hfy (hexec v' w' hrun) hown' hg hvb
        · exact .no
      · exact .no
    · exact .no
  · exact .no
end
end Go.Ab
