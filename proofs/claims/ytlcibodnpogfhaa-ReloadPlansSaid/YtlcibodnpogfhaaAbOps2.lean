/- One operation at a time ('Ab'): parts of structs, reads of memory, slices that are read. -/
import Derived.Test.YtlcibodnpogfhaaAbOps
import Derived.Laws.Cells
import Derived.Laws.Slices
set_option linter.unusedVariables false
set_option linter.unusedSimpArgs false
set_option linter.unnecessarySimpa false
namespace Go.Ab
open Go.RowKit
section
variable {P : Program} {Δ : Tys} {w0 w : World} {M S0 S : Nat → Prop} {tm : List AV} {μ : Mu} {η : Nat → Value} {a : Act} {o : Oper}

theorem tys_slice (hΔ : TysOk P Δ) {T e : TypeId} {s b : Nat} {ty : Option Ty} (h : Δ.get T = some ⟨.slice e, s, b, ty⟩) : P.underlying T = some (.slice e) := by
  obtain ⟨d, hd, hk⟩ := (hΔ T _ h).und
  cases d <;> simp [descOk] at hk
  subst hk; exact hd
theorem told_field (hM : InvM w0 M S0 μ η S w) (hΔ : TysOk P Δ) (T : TypeId) (x : Operand) (j : Nat) (ho : o.op = .field T x j) {xa : AV} (hx : AVR w S (dom μ) η xa (a.eval x)) :
    Told w0 M S0 μ η S P o a w (cField Δ T xa j) := by
  unfold cField
  split
  · rename_i of T' ls h1 h2
    split
    · rename_i r hr
      have hreg : xa = .val (true, ls) := by
        unfold isReg at h2
        split at h2
        · simp only [Option.some.injEq] at h2; rw [h2]
        · cases h2
      subst hreg
      obtain ⟨cs, hv, hf⟩ := hx
      obtain ⟨i, hi, hle, hcase⟩ := cut_is hr hf
      have hT : ∃ fields f, P.underlying T = some (.struct fields) ∧ fields[j]? = some f ∧ f.offset = of ∧ f.type = T' := by
        unfold fieldOf at h1
        split at h1
        · rename_i fs _ _ _ hg
          obtain ⟨d, hd, hk⟩ := (hΔ T _ hg).und
          cases d <;> simp [descOk] at hk
          rename_i fields
          subst hk
          rw [List.getElem?_map] at h1
          cases hff : fields[j]? with
          | none => simp [hff] at h1
          | some f =>
            simp [hff] at h1
            exact ⟨fields, f, hd, hff, h1.1, h1.2⟩
        · cases h1
      obtain ⟨fields, f, hund, hf1, hf2, hf3⟩ := hT
      rcases hcase with ⟨hag, hreg⟩ | ⟨hag, v, hcv, hreg⟩
      · refine told_pure (goes_pure hM ?_ (show AVR w S (dom μ) η (.val r) _ from hreg))
        simp only [execOp, ho, hv, Instr.field, Sem.run_bind, run_underlying hund, Result.andThen, hf1, asAgg, part, hf2, hf3, run_isAgg (hΔ T' i hi), hag, run_sizeOf (hΔ T' i hi), Sem.run_pure, if_true]
        congr 3
        apply Array.ext'
        simp
      · refine told_pure (goes_pure hM ?_ (show AVR w S (dom μ) η (.val r) _ from hreg))
        have hcv' : cs[of]? = some v := by rw [← Array.getElem?_toList]; exact hcv
        simp [execOp, ho, hv, Instr.field, Sem.run_bind, run_underlying hund, Result.andThen, hf1, asAgg, part, hf2, hf3, run_isAgg (hΔ T' i hi), hag, hcv']
    · exact .no
  · exact .no
theorem run_fieldPlace {T : TypeId} {i : TI} (h : InfoOk P T i) (hs : i.size ≠ 0) {b off : Nat} {f : Field} (hf : f.type = T) (w : World) : (fieldPlace ⟨b, off, none⟩ f).run P w = .ok ⟨b, off + f.offset, none⟩ w := by
  unfold fieldPlace
  rw [Sem.run_bind, hf, run_sizeOf h]
  simp only [Result.andThen, if_neg hs]
  rw [Sem.run_pure, Addr.add_lit]
theorem field_und (hΔ : TysOk P Δ) {T T' : TypeId} {j of : Nat} (h1 : fieldOf Δ T j = some (of, T')) : ∃ fields f, P.underlying T = some (.struct fields) ∧ fields[j]? = some f ∧ f.offset = of ∧ f.type = T' := by
  unfold fieldOf at h1
  split at h1
  · rename_i fs _ _ _ hg
    obtain ⟨d, hd, hk⟩ := (hΔ T _ hg).und
    cases d <;> simp [descOk] at hk
    rename_i fields
    subst hk
    rw [List.getElem?_map] at h1
    cases hff : fields[j]? with
    | none => simp [hff] at h1
    | some f =>
      simp [hff] at h1
      exact ⟨fields, f, hd, hff, h1.1, h1.2⟩
  · cases h1
theorem told_fieldAddr (hM : InvM w0 M S0 μ η S w) (hΔ : TysOk P Δ) (T : TypeId) (x : Operand) (j : Nat) (ho : o.op = .fieldAddr T x j) {xa : AV} (hx : AVR w S (dom μ) η xa (a.eval x)) :
    Told w0 M S0 μ η S P o a w (cFieldAddr Δ T xa j) := by
  unfold cFieldAddr
  split
  · rename_i of T' h1
    obtain ⟨fields, f, hund, hf1, hf2, hf3⟩ := field_und (P := P) hΔ h1
    split
    · rename_i i hi
      split
      · exact .no
      · rename_i hs
        split
        · rename_i id off
          obtain ⟨hd, b, hη, hv⟩ := hx
          refine told_pure (goes_pure hM (v := .pointer (some ⟨b, off + of, none⟩)) ?_ ⟨hd, b, hη, rfl⟩)
          simp [execOp, ho, hv, Instr.fieldAt, run_underlying hund, hf1, Instr.sureAddr, run_fieldPlace (hΔ T' i hi) hs hf3, hf2]
        · rename_i y off
          obtain ⟨b, oo, cs, hv, hS, hcr, hcell⟩ := hx
          refine told_pure (goes_pure hM (v := .pointer (some ⟨b, oo + (off + of), none⟩)) ?_ ⟨b, oo, cs, rfl, hS, hcr, hcell⟩)
          simp [execOp, ho, hv, Instr.fieldAt, run_underlying hund, hf1, Instr.sureAddr, run_fieldPlace (hΔ T' i hi) hs hf3, hf2, Nat.add_assoc]
        · rename_i id sz ii off
          obtain ⟨hd, h0, b, oo, n, c, hη, hv⟩ := hx
          refine told_pure (goes_pure hM (v := .pointer (some ⟨b, oo + (ii.toNat * sz + (off + of)), none⟩)) ?_ ⟨hd, h0, b, oo, n, c, hη, rfl⟩)
          simp [execOp, ho, hv, Instr.fieldAt, run_underlying hund, hf1, Instr.sureAddr, run_fieldPlace (hΔ T' i hi) hs hf3, hf2, Nat.add_assoc]
        · exact .no
    · exact .no
  · exact .no
theorem run_loadVar_cut (hΔ : TysOk P Δ) {T : TypeId} {off : Nat} {ls : List Leaf} {r : Reg} (hc : cut Δ T off ls = some r) {cs : List Value} (hf : F2 (LR w S (dom μ) η) ls cs)
    {b oo : Nat} (hcell : ∀ (j : Nat) (u : Value), cs[j]? = some u → w.cell? ⟨b, oo + j, none⟩ = some u) : ∃ v, (loadVar T ⟨b, oo + off, none⟩).run P w = .ok v w ∧ RegR w S (dom μ) η r v := by
  obtain ⟨i, hi, hle, hcase⟩ := cut_is hc hf
  rcases hcase with ⟨hag, hreg⟩ | ⟨hag, v, hcv, hreg⟩
  · refine ⟨_, ?_, hreg⟩
    have hlen : ((cs.drop off).take i.size).length = i.size := by simp; omega
    have hload := run_loadCells_list (P := P) w ⟨b, oo + off, none⟩ ((cs.drop off).take i.size) (fun j u hj => by
      rw [Addr.add_lit, Nat.add_assoc]
      refine hcell (off + j) u ?_
      rw [List.getElem?_take] at hj
      split at hj
      · rw [List.getElem?_drop] at hj; exact hj
      · cases hj)
    rw [hlen] at hload
    unfold loadVar
    simp only [Sem.run_bind, run_isAgg (hΔ T i hi), hag, Result.andThen, run_sizeOf (hΔ T i hi), if_true, hload, Sem.run_pure]
  · refine ⟨v, ?_, hreg⟩
    unfold loadVar
    simp only [Sem.run_bind, run_isAgg (hΔ T i hi), hag, Result.andThen, Bool.false_eq_true, if_false]
    simp [load, Sem.run, hcell off v hcv]
theorem cell_of_box {b : Nat} {cs : Array Value} {T : TypeId} (h : w.heap[b]? = some (.cells cs T (0, 0))) : ∀ (j : Nat) (u : Value), cs.toList[j]? = some u → w.cell? ⟨b, 0 + j, none⟩ = some u := by
  intro j u hu
  rw [Array.getElem?_toList] at hu
  simp [World.cell?, h, hu]
theorem told_load (hM : InvM w0 M S0 μ η S w) (hΔ : TysOk P Δ) (T : TypeId) (x : Operand) (ho : o.op = .load T x) {xa : AV} (hx : AVR w S (dom μ) η xa (a.eval x)) :
    Told w0 M S0 μ η S P o a w (cLoad Δ μ T xa) := by
  unfold cLoad
  split
  · rename_i id off
    split
    · rename_i ls hid
      split
      · rename_i r hr
        obtain ⟨hd, b, hη, hv⟩ := hx
        obtain ⟨b', T', cs, hη', hb, hf, _⟩ := hM.chunk id _ hid
        have hbb : b' = b := by rw [hη] at hη'; simpa using hη'.symm
        subst hbb
        obtain ⟨v, hrun, hreg⟩ := run_loadVar_cut (P := P) hΔ hr hf (cell_of_box hb)
        refine told_pure (goes_pure hM (v := v) ?_ (show AVR w S (dom μ) η (.val r) v from hreg))
        rw [Nat.zero_add] at hrun
        simp [execOp, ho, hv, Instr.loadAt, Instr.sureAddr, hrun]
      · exact .no
    · exact .no
  · rename_i y off
    split
    · rename_i r hr
      obtain ⟨b, oo, cs, hv, hS, hcr, hcell⟩ := hx
      have hf : F2 (LR w S (dom μ) η) ((parts y.t y.d).map .dat) cs := F2.map_left ((CR_parts hcr).imp fun x v h => h)
      obtain ⟨v, hrun, hreg⟩ := run_loadVar_cut (P := P) hΔ hr hf hcell
      refine told_pure (goes_pure hM (v := v) ?_ (show AVR w S (dom μ) η (.val r) v from hreg))
      simp [execOp, ho, hv, Instr.loadAt, Instr.sureAddr, hrun]
    · exact .no
  · rename_i id sz i off
    split
    · rename_i e0 t xs fz hid
      split
      · rename_i hsz
        subst hsz
        split
        · rename_i r hr
          refine .ok fun hc => ?_
          have hlt : i < xs.length := hc
          obtain ⟨hd, h0, b, o0, n, c, hη, hv⟩ := hx
          have hin : i.toNat < xs.length := by omega
          have hxi : xs[i.toNat]? = some (xs.getD i.toNat t.dflt) := by simp [List.getD_eq_getElem?_getD, List.getElem?_eq_getElem hin]
          have hread : ∃ cs, CR w S t cs (xs.getD i.toNat t.dflt) ∧ ∀ (j : Nat) (u : Value), cs[j]? = some u → w.cell? ⟨b, (o0 + i.toNat * t.size) + j, none⟩ = some u := by
            have hch := hM.chunk id _ hid
            cases fz with
            | true =>
              obtain ⟨A, c', hcs, hlc, hmax, hrow⟩ := hch
              obtain ⟨b', oo, cs, hA, hS, hcr, hlen, hcell⟩ := hrow i.toNat _ hxi
              simp only [hη, List.cons.injEq, and_true, Value.slice.injEq] at hcs
              obtain ⟨hA', _, _⟩ := hcs
              rw [hA] at hA'
              simp only [Option.some.injEq, Addr.mk.injEq] at hA'
              obtain ⟨rfl, rfl, _⟩ := hA'
              exact ⟨cs, hcr, fun j u hu => by rw [Nat.add_assoc]; exact hcell j u hu⟩
            | false =>
              obtain ⟨cells, hown, hrows, _⟩ := hch
              obtain ⟨cs, hcr, hcs⟩ := rows_at hrows hxi
              refine ⟨cs, hcr, fun j u hu => ?_⟩
              have hoo : o0 = 0 := by
                rcases hown.2 with ⟨hh, _⟩ | ⟨g, cap, cur, hh, _⟩
                · rw [hη] at hh; cases hh
                · rw [hη] at hh; simp only [Value.slice.injEq, Option.some.injEq, Addr.mk.injEq] at hh; exact hh.1.2.1
              subst hoo
              have := hown.cells (g := b) (by simp [hη, Value.ownBlock]) _ u (hcs j u hu)
              rw [Addr.add_lit] at this
              rw [Nat.add_assoc]; exact this
          obtain ⟨cs, hcr, hcell⟩ := hread
          have hf : F2 (LR w S (dom μ) η) ((parts t (xs.getD i.toNat t.dflt)).map .dat) cs := F2.map_left ((CR_parts hcr).imp fun x v h => h)
          obtain ⟨v, hrun, hreg⟩ := run_loadVar_cut (P := P) hΔ hr hf hcell
          refine goes_pure hM (v := v) ?_ (show AVR w S (dom μ) η (.val r) v from hreg)
          rw [Nat.add_assoc] at hrun
          simp [execOp, ho, hv, Instr.loadAt, Instr.sureAddr, hrun]
        · exact .no
      · exact .no
    · exact .no
  · exact .no
theorem tys_array (hΔ : TysOk P Δ) {T e : TypeId} {n s b : Nat} {ty : Option Ty} (h : Δ.get T = some ⟨.array n e, s, b, ty⟩) : P.underlying T = some (.array n e) := by
  obtain ⟨d, hd, hk⟩ := (hΔ T _ h).und
  cases d <;> simp [descOk] at hk
  obtain ⟨h1, h2⟩ := hk
  subst h1 h2; exact hd
theorem told_indexAddr (hM : InvM w0 M S0 μ η S w) (hΔ : TysOk P Δ) (T : TypeId) (x j : Operand) (ho : o.op = .indexAddr T x j) {xa ja : AV} (hx : AVR w S (dom μ) η xa (a.eval x)) (hj : AVR w S (dom μ) η ja (a.eval j)) :
    Told w0 M S0 μ η S P o a w (cIndexAddr Δ μ T xa ja) := by
  unfold cIndexAddr
  split
  · rename_i e _ _ _ l k i hT hint
    split
    · rename_i y t xs ei hei hsl
      split
      · rename_i hsz
        refine .ok fun hc => ?_
        obtain ⟨h0, hlt⟩ : 0 ≤ i ∧ i < xs.length := hc
        have hy : y = ⟨.slice t, xs⟩ := by
          unfold sliceOf at hsl
          split at hsl
          · rename_i heq; simp only [Leaf.dat.injEq] at heq; rw [heq]; simpa using hsl
          · rename_i heq; cases heq
          · rename_i heq; cases heq
          · rename_i heq; cases heq
          · rename_i heq; cases heq
          · cases hsl
        subst hy
        obtain ⟨A, c, hcs, hlc, hmax, hrow⟩ := hx
        simp only [List.cons.injEq, and_true] at hcs
        have hin : i.toNat < xs.length := by omega
        obtain ⟨b, oo, cs, hA, hS, hcr, hlen, hcell⟩ := hrow i.toNat (xs[i.toNat]) (List.getElem?_eq_getElem hin)
        subst hA
        refine goes_pure hM (v := .pointer (some ⟨b, oo + i.toNat * t.size, none⟩)) ?_ ⟨b, oo + i.toNat * t.size, cs, by simp, hS, ?_, fun q u hu => ?_⟩
        · simp only [execOp, ho, hcs, isInt_is hint hj, Instr.indexAt, asIntOf, Sem.run_bind, Sem.run_pure, Result.andThen, run_underlying (tys_slice hΔ hT), h0, hlt, and_self, if_true, run_sizeOf (hΔ e ei hei), hsz, Addr.add_lit]
        · simp only [List.getD_eq_getElem?_getD, List.getElem?_eq_getElem hin, Option.getD_some]; exact hcr
        · rw [Nat.add_assoc]; exact hcell q u hu
      · exact .no
    · rename_i id t xs ei hei hsl
      split
      · rename_i hsz
        refine .ok fun hc => ?_
        obtain ⟨h0, hlt⟩ : 0 ≤ i ∧ i < xs.length := hc
        have hid : ∃ e0 f, μ id = some (.rows e0 t xs f) := by
          unfold sliceOf at hsl
          simp only at hsl
          split at hsl
          · rename_i e0 t' xs' f hh
            simp only [Option.some.injEq, D.mk.injEq, Ty.slice.injEq] at hsl
            obtain ⟨rfl, hxx⟩ := hsl
            have := eq_of_heq hxx
            subst this
            exact ⟨e0, f, hh⟩
          · cases hsl
        obtain ⟨e0, f, hid⟩ := hid
        obtain ⟨hd, hv, _⟩ := hx
        have hch := hM.chunk id _ hid
        have hin : i.toNat < xs.length := by omega
        have hη : ∃ b oo c, η id = .slice (some ⟨b, oo, none⟩) xs.length c := by
          cases f with
          | true =>
            obtain ⟨A, c', hcs, hlc, hmax, hrow⟩ := hch
            obtain ⟨b, oo, _, hA, _⟩ := hrow i.toNat _ (List.getElem?_eq_getElem hin)
            subst hA
            simp only [List.cons.injEq, and_true] at hcs
            exact ⟨b, oo, c', hcs⟩
          | false =>
            obtain ⟨cells, hown, _⟩ := hch
            rcases hown.2 with ⟨_, hh⟩ | ⟨g, cap, cur, hh, _⟩
            · omega
            · exact ⟨g, 0, cap, hh⟩
        obtain ⟨b, oo, c, hη⟩ := hη
        refine goes_pure hM (v := .pointer (some ⟨b, oo + i.toNat * t.size, none⟩)) ?_ ⟨hd, h0, b, oo, _, c, hη, by simp⟩
        simp only [execOp, ho, hv, hη, isInt_is hint hj, Instr.indexAt, asIntOf, Sem.run_bind, Sem.run_pure, Result.andThen, run_underlying (tys_slice hΔ hT), h0, hlt, and_self, if_true, run_sizeOf (hΔ e ei hei), hsz, Addr.add_lit]
      · exact .no
    · rename_i id sz lo hi pre t ys ei hei hsl
      split
      · rename_i hsz
        obtain ⟨hsz, hsz2⟩ := hsz
        refine .ok fun hc => ?_
        obtain ⟨h0, hlt⟩ : 0 ≤ i ∧ i < ys.length := hc
        have hid : ∃ e0 f xs, μ id = some (.rows e0 t xs f) ∧ ys = (xs.take hi.toNat).drop lo.toNat := by
          unfold sliceOf at hsl
          simp only at hsl
          split at hsl
          · rename_i e0 t' xs' f hh
            split at hsl
            · simp only [Option.some.injEq, D.mk.injEq, Ty.slice.injEq] at hsl
              obtain ⟨rfl, hxx⟩ := hsl
              have := eq_of_heq hxx
              exact ⟨e0, f, xs', hh, this.symm⟩
            · cases hsl
          · cases hsl
        obtain ⟨e0, f, xs, hid, rfl⟩ := hid
        obtain ⟨hd, hl0, hlh, A, n, c, A', c', hη, hhn, hv, hcc, _, _, hA, _⟩ := hx
        have hlen : ((xs.take hi.toNat).drop lo.toNat).length ≤ hi.toNat - lo.toNat := by simp only [List.length_drop, List.length_take]; omega
        obtain ⟨b, oo, rfl, rfl⟩ := hA (by omega)
        refine goes_pure hM (v := .pointer (some ⟨b, oo + lo.toNat * sz + i.toNat * sz, none⟩)) ?_ ⟨hd, by omega, b, oo, n, c, hη, ?_⟩
        · simp only [execOp, ho, hv, isInt_is hint hj, Instr.indexAt, asIntOf, Sem.run_bind, Sem.run_pure, Result.andThen, run_underlying (tys_slice hΔ hT), h0, show i < ((hi.toNat - lo.toNat : Nat) : Int) by omega, and_self, if_true, run_sizeOf (hΔ e ei hei), hsz, hsz2, Addr.add_lit]
        · have : (lo + i).toNat = lo.toNat + i.toNat := by omega
          rw [this, Nat.add_mul]
          simp only [Nat.add_zero, Nat.add_assoc]
      · exact .no
    · exact .no
  · rename_i n e _ _ _ id off k i hT hint
    split
    · rename_i ei hei
      split
      · rename_i hc
        simp only [Bool.and_eq_true, decide_eq_true_eq, Nat.blt_eq] at hc
        obtain ⟨h0, hlt⟩ := hc
        obtain ⟨hd, b, hη, hv⟩ := hx
        have hlt' : i < (n : Int) := by omega
        refine told_pure (goes_pure hM (v := .pointer (some ⟨b, off + i.toNat * ei.size, none⟩)) ?_ ⟨hd, b, hη, rfl⟩)
        simp only [execOp, ho, hv, isInt_is hint hj, Instr.indexAt, Instr.sureAddr, asIntOf, Sem.run_bind, Sem.run_pure, Result.andThen, run_underlying (tys_array hΔ hT), h0, hlt', and_self, if_true, run_sizeOf (hΔ e ei hei), Addr.add_lit]
      · exact .no
    · exact .no
  · exact .no
end
end Go.Ab
