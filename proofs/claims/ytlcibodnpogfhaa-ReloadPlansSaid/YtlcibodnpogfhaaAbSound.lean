/- Code ('Ab'): what the interpreter says of code is what the code does. -/
import Derived.Test.YtlcibodnpogfhaaAbDraw
import Derived.Test.YtlcibodnpogfhaaAbLoop
set_option linter.unusedVariables false
set_option linter.unusedSimpArgs false
set_option linter.unnecessarySimpa false
namespace Go.Ab
open Go.RowKit
section
variable {P : Program} {Δ : Tys} {Γ : Env} {w0 w w' : World} {M S0 S : Nat → Prop} {tm : List AV} {μ μ' : Mu} {η η' : Nat → Value} {a : Act} {o : Oper} {ops : Array Oper} {Z : List (Nat × Value)}

/-! ### where the heap is the same -/
theorem invm_heap (hM : InvM w0 M S0 μ η S w) (hh : w'.heap = w.heap) (h1 : w'.os = w.os) (h2 : w'.tape = w.tape) (h3 : w'.output = w.output) : InvM w0 M S0 μ η S w' ∧ Stay w w' S S (dom μ) (dom μ) η η := by
  have hst : Stay w w' S S (dom μ) (dom μ) η η := ⟨fun _ h => h, fun b _ => by rw [hh], fun _ h => h, fun _ _ => rfl⟩
  refine ⟨⟨⟨h1.trans hM.frame.os, h2.trans hM.frame.tape, h3.trans hM.frame.output, by rw [hh]; exact hM.frame.size, fun k hk hm => by rw [hh]; exact hM.frame.block k hk hm⟩, hM.sub, fun b hb => by rw [hh]; exact hM.lt b hb, hM.from_, fun i c hi => ?_, hM.apart⟩, hst⟩
  exact ChunkR_stay hst (show dom μ i by simp [dom, hi]) (fun _ k _ => by rw [hh]) (fun hl k hk => (live_blk hM hi hl hk).2.1) (hM.chunk i c hi)
theorem inv_drawn (hI : Inv Z w0 M S0 tm μ a w) (n : Nat) : Inv Z w0 M S0 tm μ a { w with drawn := n } := by
  obtain ⟨η, S, hI, hZ⟩ := hI
  obtain ⟨h1, h2⟩ := invm_heap (w' := { w with drawn := n }) hI.mem rfl rfl rfl rfl
  exact ⟨η, S, ⟨h1, hI.size, fun t v ht => AVR_stay h2 (hI.tmp t v ht), hI.noDefers⟩, hZ⟩

/-! ### loops -/
theorem wp_loop_fuel {c : Code} {Q : Exit → Act → World → Prop} (J : Nat → Act → World → Prop) (round : ∀ n a w, J n a w → ∃ m, n = m + 1 ∧ c.wp P (Exit.then (J m) Q) a w) {n : Nat} (h : J n a w) : (Code.loop c).wp P Q a w := by
  intro b k cs
  have key : ∀ n a w, J n a w → ∃ e a' w', Q e a' w' ∧ Arrives P (lone (b.at a (.code c :: .inLoop c :: k)) cs w) b k cs e a' w' := by
    intro n
    induction n with
    | zero => intro a w h; obtain ⟨m, hm, _⟩ := round 0 a w h; cases hm
    | succ n ih =>
      intro a w h
      obtain ⟨m, hm, hwp⟩ := round (n + 1) a w h
      cases hm
      obtain ⟨e, a₁, w₁, hq, harr⟩ := hwp b (.inLoop c :: k) cs
      cases e with
      | normal =>
        obtain ⟨e₂, a₂, w₂, hq₂, harr₂⟩ := ih a₁ w₁ hq
        exact ⟨e₂, a₂, w₂, hq₂, .of_steps (Steps.trans harr (.one step_inLoop)) harr₂⟩
      | exit id => exact ⟨_, a₁, w₁, hq, .pass (x := .inLoop c) rfl (fun _ _ => .inl (by simp)) harr⟩
      | goto l => exact ⟨_, a₁, w₁, hq, .pass (x := .inLoop c) rfl (fun _ _ => .inl (by simp)) harr⟩
      | ret => exact ⟨_, a₁, w₁, hq, .pass (x := .inLoop c) rfl (fun _ _ => .inl (by simp)) harr⟩
      | panic ch => exact ⟨_, a₁, w₁, hq, .pass (x := .inLoop c) rfl (fun _ _ => .inl (by simp)) harr⟩
      | outgrown => exact ⟨_, a₁, w₁, hq, .pass (x := .inLoop c) rfl (fun _ _ => .inl (by simp)) harr⟩
  obtain ⟨e, a', w', hq, harr⟩ := key n a w h
  exact ⟨e, a', w', hq, .of_steps (.one step_loop) harr⟩
theorem toDen_is {t : Ty} {x : D} {d : t.den} (h : toDen t x = some d) : x = ⟨t, d⟩ := by
  unfold toDen at h
  split at h
  · rename_i ht
    subst ht
    simp only [Option.some.injEq] at h
    subst h
    rfl
  · cases h
theorem toDen_self (t : Ty) (d : t.den) : toDen t ⟨t, d⟩ = some d := by simp [toDen]
theorem tup_of : ∀ {ts : List Ty} {l : List D} {d : Tup ts}, Tup.of ts l = some d → Tup.list ts d = l
  | [], [], d, _ => rfl
  | t :: ts, x :: l, d, h => by
    simp only [Tup.of, Option.bind_eq_some_iff, Option.map_eq_some_iff] at h
    obtain ⟨a, h1, b, h2, rfl⟩ := h
    simp only [Tup.list]
    rw [tup_of h2, toDen_is h1]
  | [], _ :: _, _, h => by simp [Tup.of] at h
  | _ :: _, [], _, h => by simp [Tup.of] at h
section
variable {ren : Nat → Nat} {keys : List Nat} {Dm' : Nat → Prop}
theorem capsB_is {f : FuncId} {v : Value} : ∀ {bs cs : List Nat}, capsB ren keys bs cs = true → (∀ b ∈ bs, b ∈ keys) ∧ bs.map ren = cs
  | [], [], _ => ⟨fun b hb => by simp at hb, rfl⟩
  | b :: bs, c :: cs, h => by
    simp only [capsB, Bool.and_eq_true, List.contains_eq_mem, decide_eq_true_eq] at h
    obtain ⟨h1, h2, h3⟩ := h
    obtain ⟨g1, g2⟩ := capsB_is (f := f) (v := v) h3
    refine ⟨fun x hx => ?_, by rw [List.map_cons, g2, Nat.eq_of_beq_eq_true h1]⟩
    rcases List.mem_cons.1 hx with rfl | hx
    · exact h2
    · exact g1 x hx
  | [], _ :: _, h => by simp [capsB] at h
  | _ :: _, [], h => by simp [capsB] at h
theorem matchL_is (hM : InvM w0 M S0 μ η S w) (hk : ∀ b ∈ keys, Dm' b ∧ dom μ (ren b)) {h : HL} {l : Leaf} {ds : List D} (hm : matchL ren keys μ h l = some ds) {v : Value} (hv : LR w S (dom μ) η l v) :
    ∀ rest, LR w S Dm' (fun b => η (ren b)) (fillL h (ds ++ rest)).1 v ∧ (fillL h (ds ++ rest)).2 = rest := by
  intro rest
  unfold matchL at hm
  split at hm
  · split at hm
    · rename_i hx
      simp only [Option.some.injEq] at hm
      subst hm
      exact ⟨hv, rfl⟩
    · cases hm
  · rename_i t a
    split at hm
    · rename_i e t' xs ha
      split at hm
      · simp only [Option.some.injEq] at hm
        subst hm
        refine ⟨?_, rfl⟩
        show CR w S (.slice t') [v] xs
        rw [hv.2.1]
        exact hM.chunk a _ ha
      · cases hm
    · cases hm
  · rename_i t a sz lo hi pre
    split at hm
    · rename_i e t' xs ha
      split at hm
      · rename_i hc
        simp only [Option.some.injEq] at hm
        subst hm
        exact ⟨sub_CR hv hc.2 (hM.chunk a _ ha), rfl⟩
      · cases hm
    · cases hm
  · split at hm
    · rename_i hc
      simp only [Bool.and_eq_true, Nat.beq_eq_true_eq, List.contains_eq_mem, decide_eq_true_eq] at hc
      obtain ⟨h1, h2⟩ := hc
      simp only [Option.some.injEq] at hm
      subst hm
      have h1 := Nat.eq_of_beq_eq_true h1
      refine ⟨⟨(hk _ h2).1, ?_, hv.2.2⟩, rfl⟩
      show v = η (ren _)
      rw [h1]; exact hv.2.1
    · cases hm
  · split at hm
    · rename_i hc
      simp only [Bool.and_eq_true, List.contains_eq_mem, decide_eq_true_eq] at hc
      obtain ⟨⟨h1, h3⟩, h2⟩ := hc
      simp only [Option.some.injEq] at hm
      subst hm
      have h1 := Nat.eq_of_beq_eq_true h1
      have h3 := Nat.eq_of_beq_eq_true h3
      obtain ⟨_, b, h4, h5⟩ := hv
      refine ⟨⟨(hk _ h2).1, b, ?_, ?_⟩, rfl⟩
      · show η (ren _) = _
        rw [h1]; exact h4
      · rw [h3]; exact h5
    · cases hm
  · simp only [Option.some.injEq] at hm
    subst hm
    exact ⟨hv, rfl⟩
  · rename_i f bs f' cs
    split at hm
    · rename_i hc
      simp only [Bool.and_eq_true] at hc
      obtain ⟨h1, h2⟩ := hc
      obtain ⟨g1, g2⟩ := capsB_is (f := f) (v := v) h2
      have h1 := Nat.eq_of_beq_eq_true h1
      subst h1
      simp only [Option.some.injEq] at hm
      subst hm
      refine ⟨⟨fun id hid => (hk id (g1 id hid)).1, ?_⟩, rfl⟩
      rw [hv.2, ← g2, List.map_map]
      rfl
    · cases hm
  · simp only [Option.some.injEq] at hm
    subst hm
    exact ⟨trivial, rfl⟩
  · cases hm
theorem matchLs_is (hM : InvM w0 M S0 μ η S w) (hk : ∀ b ∈ keys, Dm' b ∧ dom μ (ren b)) : ∀ {hs : List HL} {ls : List Leaf} {ds : List D} (_ : matchLs ren keys μ hs ls = some ds) {vs : List Value} (_ : F2 (LR w S (dom μ) η) ls vs),
    ∀ rest, F2 (LR w S Dm' (fun b => η (ren b))) (fillLs hs (ds ++ rest)).1 vs ∧ (fillLs hs (ds ++ rest)).2 = rest
  | [], [], ds, hm, vs, hv, rest => by
    simp only [matchLs, Option.some.injEq] at hm
    subst hm
    cases hv
    exact ⟨.nil, rfl⟩
  | h :: hs, l :: ls, ds, hm, vs, hv, rest => by
    simp only [matchLs, Option.bind_eq_some_iff, Option.some.injEq] at hm
    obtain ⟨x, h1, y, h2, rfl⟩ := hm
    cases hv with
    | cons g1 g2 =>
      obtain ⟨e1, e2⟩ := matchL_is hM hk h1 g1 (y ++ rest)
      obtain ⟨e3, e4⟩ := matchLs_is hM hk h2 g2 rest
      rw [List.append_assoc]
      simp only [fillLs]
      rw [e2]
      exact ⟨.cons e1 e3, e4⟩
  | [], _ :: _, _, hm, _, _, _ => by simp [matchLs] at hm
  | _ :: _, [], _, hm, _, _, _ => by simp [matchLs] at hm
theorem matchV_is (hM : InvM w0 M S0 μ η S w) (hk : ∀ b ∈ keys, Dm' b ∧ dom μ (ren b)) {h : HV} {x : AV} {ds : List D} (hm : matchV ren keys μ h x = some ds) {v : Value} (hv : AVR w S (dom μ) η x v) :
    ∀ rest, AVR w S Dm' (fun b => η (ren b)) (fillV h (ds ++ rest)).1 v ∧ (fillV h (ds ++ rest)).2 = rest := by
  intro rest
  unfold matchV at hm
  split at hm
  · rename_i ag hs ag' ls
    split at hm
    · rename_i hag
      subst hag
      cases ag with
      | true =>
        obtain ⟨cs, h1, h2⟩ := hv
        obtain ⟨e1, e2⟩ := matchLs_is hM hk hm h2 rest
        exact ⟨⟨cs, h1, e1⟩, e2⟩
      | false =>
        match ls, hv with
        | [l], hv =>
          obtain ⟨e1, e2⟩ := matchLs_is hM hk hm (vs := [v]) (.cons hv .nil) rest
          refine ⟨?_, e2⟩
          show RegR w S Dm' _ (false, (fillLs hs (ds ++ rest)).1) v
          generalize (fillLs hs (ds ++ rest)).1 = q at e1
          cases e1 with
          | cons g1 g2 => cases g2; exact g1
    · cases hm
  · simp only [Option.some.injEq] at hm
    subst hm
    exact ⟨trivial, rfl⟩
  · cases hm
theorem matchTm_is (hM : InvM w0 M S0 μ η S w) (hk : ∀ b ∈ keys, Dm' b ∧ dom μ (ren b)) : ∀ {hs : List HV} {ls : List AV} {ds : List D} (_ : matchTm ren keys μ hs ls = some ds) {vs : Nat → Value} (_ : ∀ t x, ls[t]? = some x → AVR w S (dom μ) η x (vs t)),
    ∀ rest, (∀ t x, (fillTm hs (ds ++ rest)).1[t]? = some x → AVR w S Dm' (fun b => η (ren b)) x (vs t)) ∧ (fillTm hs (ds ++ rest)).2 = rest ∧ (fillTm hs (ds ++ rest)).1.length = ls.length
  | [], [], ds, hm, vs, hv, rest => by
    simp only [matchTm, Option.some.injEq] at hm
    subst hm
    exact ⟨fun t x h => by simp [fillTm] at h, rfl, rfl⟩
  | h :: hs, l :: ls, ds, hm, vs, hv, rest => by
    simp only [matchTm, Option.bind_eq_some_iff, Option.some.injEq] at hm
    obtain ⟨x, h1, y, h2, rfl⟩ := hm
    obtain ⟨e1, e2⟩ := matchV_is hM hk h1 (hv 0 l rfl) (y ++ rest)
    obtain ⟨e3, e4, e5⟩ := matchTm_is hM hk h2 (vs := fun t => vs (t + 1)) (fun t x ht => hv (t + 1) x (by simpa using ht)) rest
    rw [List.append_assoc]
    simp only [fillTm]
    rw [e2]
    refine ⟨fun t x ht => ?_, e4, by simp [e5]⟩
    cases t with
    | zero =>
      simp only [List.getElem?_cons_zero, Option.some.injEq] at ht
      subst ht
      exact e1
    | succ t =>
      simp only [List.getElem?_cons_succ] at ht
      exact e3 t x ht
  | [], _ :: _, _, hm, _, _, _ => by simp [matchTm] at hm
  | _ :: _, [], _, hm, _, _, _ => by simp [matchTm] at hm
theorem fillLs_plain : ∀ {hs : List HL} {ls : List Leaf} {ds : List D}, (hs.all fun h => match h with | .any => false | _ => true) = true → matchLs ren keys μ hs ls = some ds → ∀ rest, (fillLs hs (ds ++ rest)).1.all plainLeaf = true ∧ (fillLs hs (ds ++ rest)).2 = rest
  | [], [], ds, _, hm, rest => by
    simp only [matchLs, Option.some.injEq] at hm
    subst hm
    exact ⟨rfl, rfl⟩
  | h :: hs, l :: ls, ds, hp, hm, rest => by
    simp only [matchLs, Option.bind_eq_some_iff, Option.some.injEq] at hm
    obtain ⟨x, h1, y, h2, rfl⟩ := hm
    simp only [List.all_cons, Bool.and_eq_true] at hp
    obtain ⟨g1, g2⟩ := fillLs_plain hp.2 h2 rest
    have hx : plainLeaf (fillL h (x ++ (y ++ rest))).1 = true ∧ (fillL h (x ++ (y ++ rest))).2 = y ++ rest := by
      unfold matchL at h1
      split at h1
      · split at h1
        · simp only [Option.some.injEq] at h1; subst h1; exact ⟨rfl, rfl⟩
        · cases h1
      · split at h1
        · split at h1
          · simp only [Option.some.injEq] at h1; subst h1; exact ⟨rfl, rfl⟩
          · cases h1
        · cases h1
      · split at h1
        · split at h1
          · simp only [Option.some.injEq] at h1; subst h1; exact ⟨rfl, rfl⟩
          · cases h1
        · cases h1
      · split at h1
        · simp only [Option.some.injEq] at h1; subst h1; exact ⟨rfl, rfl⟩
        · cases h1
      · split at h1
        · simp only [Option.some.injEq] at h1; subst h1; exact ⟨rfl, rfl⟩
        · cases h1
      · simp only [Option.some.injEq] at h1; subst h1; exact ⟨rfl, rfl⟩
      · split at h1
        · simp only [Option.some.injEq] at h1; subst h1; exact ⟨rfl, rfl⟩
        · cases h1
      · simp at hp
      · cases h1
    rw [List.append_assoc]
    simp only [fillLs, List.all_cons, Bool.and_eq_true]
    rw [hx.2]
    exact ⟨⟨hx.1, g1⟩, g2⟩
  | [], _ :: _, _, _, hm, _ => by simp [matchLs] at hm
  | _ :: _, [], _, _, hm, _ => by simp [matchLs] at hm
theorem matchC_is (hM : InvM w0 M S0 μ η S w) (hk : ∀ b ∈ keys, Dm' b ∧ dom μ (ren b)) {h : HC} {b : Nat} {ds : List D} (hm : matchC ren keys μ h (μ (ren b)) = some ds) :
    ∀ rest, ∃ c, μ (ren b) = some c ∧ (fillC h (ds ++ rest)).1.live = c.live ∧ ChunkR w S Dm' (fun b => η (ren b)) w0.heap.size M b (fillC h (ds ++ rest)).1 ∧ (fillC h (ds ++ rest)).2 = rest := by
  intro rest
  unfold matchC at hm
  split at hm
  · rename_i hs ls hc
    split at hm
    · rename_i hp
      obtain ⟨b', T, cs, h1, h2, h3, h4, h5, h6⟩ := hM.chunk _ _ hc
      obtain ⟨e1, e2⟩ := matchLs_is hM hk hm h3 rest
      exact ⟨_, hc, rfl, ⟨b', T, cs, h1, h2, e1, (fillLs_plain hp hm rest).1, h5, h6⟩, e2⟩
    · cases hm
  · rename_i e t f e' t' xs f' hc
    split at hm
    · rename_i hh
      obtain ⟨rfl, rfl, rfl⟩ := hh
      simp only [Option.some.injEq] at hm
      subst hm
      have hf : fillC (.rows e t f) ([⟨.slice t, xs⟩] ++ rest) = (.rows e t xs f, rest) := by
        simp only [List.singleton_append, fillC, toDen_self]
      rw [hf]
      refine ⟨_, hc, rfl, ?_, rfl⟩
      have hch := hM.chunk _ _ hc
      cases f with
      | true => exact hch
      | false => exact hch
    · cases hm
  · cases hm
theorem matchMem_is (hM : InvM w0 M S0 μ η S w) (hk : ∀ b ∈ keys, Dm' b ∧ dom μ (ren b)) : ∀ {l : List (Nat × HC)} {ds : List D} (_ : matchMem ren keys μ l = some ds),
    ∀ b c, Mem.get (fillMem l ds) b = some c → b ∈ l.map (·.1) ∧ ∃ c', μ (ren b) = some c' ∧ c.live = c'.live ∧ ChunkR w S Dm' (fun b => η (ren b)) w0.heap.size M b c
  | [], ds, hm, b, c, hg => by simp [fillMem, Mem.get] at hg
  | p :: l, ds, hm, b, c, hg => by
    simp only [matchMem, Option.bind_eq_some_iff, Option.some.injEq] at hm
    obtain ⟨x, h1, y, h2, rfl⟩ := hm
    obtain ⟨c', e1, e2, e3, e4⟩ := matchC_is hM hk h1 y
    simp only [fillMem] at hg
    rw [e4] at hg
    by_cases hb : b = p.1
    · subst hb
      simp only [Mem.get, List.find?_cons, BEq.rfl, Option.map_some, Option.some.injEq] at hg
      subst hg
      exact ⟨by simp, c', e1, e2, e3⟩
    · have e : (p.1 == b) = false := by simp; exact fun e => hb e.symm
      have hg' : Mem.get (fillMem l y) b = some c := by
        simp only [Mem.get, List.find?_cons, e] at hg
        exact hg
      obtain ⟨g1, g2⟩ := matchMem_is hM hk h2 b c hg'
      exact ⟨List.mem_cons_of_mem _ g1, g2⟩
theorem matchMem_dom : ∀ {l : List (Nat × HC)} {ds : List D} (_ : matchMem ren keys μ l = some ds), ∀ b ∈ l.map (·.1), dom μ (ren b) ∧ dom (Mem.get (fillMem l ds)) b
  | [], ds, hm, b, hb => by simp at hb
  | p :: l, ds, hm, b, hb => by
    simp only [matchMem, Option.bind_eq_some_iff, Option.some.injEq] at hm
    obtain ⟨x, h1, y, h2, rfl⟩ := hm
    have hp : dom μ (ren p.1) := by
      unfold matchC at h1
      split at h1
      · rename_i hc; simp [dom, hc]
      · rename_i hc; simp [dom, hc]
      · cases h1
    by_cases hbp : b = p.1
    · subst hbp
      exact ⟨hp, by simp [dom, Mem.get, fillMem]⟩
    · have hb' : b ∈ l.map (·.1) := by simpa [hbp] using hb
      have hdom : ∀ ds', b ∈ l.map (·.1) → dom (Mem.get (fillMem l ds')) b := by
        intro ds' hb
        clear h2 hp h1 hb'
        induction l generalizing ds' with
        | nil => simp at hb
        | cons q l ih =>
          unfold dom Mem.get
          simp only [fillMem, List.find?_cons]
          by_cases hq : q.1 = b
          · subst hq; simp
          · have e : (q.1 == b) = false := by simp [hq]
            rw [e]
            have hb'' : b ∈ l.map (·.1) := by
              rcases List.mem_cons.1 hb with h | h
              · exact absurd h.symm hq
              · exact h
            exact ih (List.mem_cons_of_mem _ hb'') (fillC q.2 ds').2 hb''
      refine ⟨(matchMem_dom h2 b hb').1, ?_⟩
      unfold dom Mem.get
      simp only [fillMem, List.find?_cons]
      have e : (p.1 == b) = false := by simp; exact fun e => hbp e.symm
      rw [e]
      exact hdom _ hb'
end
theorem frzL_mem {μ : Mu} {h : HL} {l : Leaf} {p : Nat × Chunk} (hp : p ∈ frzL μ h l) : ∃ e t xs, μ p.1 = some (.rows e t xs false) ∧ p.2 = .rows e t xs true := by
  unfold frzL at hp
  split at hp
  · split at hp
    · rename_i hm
      simp only [List.mem_singleton] at hp
      subst hp
      exact ⟨_, _, _, hm, rfl⟩
    · simp at hp
  · split at hp
    · rename_i hm
      simp only [List.mem_singleton] at hp
      subst hp
      exact ⟨_, _, _, hm, rfl⟩
    · simp at hp
  · simp at hp
theorem frzLs_mem {μ : Mu} : ∀ {hs : List HL} {ls : List Leaf} {p : Nat × Chunk}, p ∈ frzLs μ hs ls → ∃ e t xs, μ p.1 = some (.rows e t xs false) ∧ p.2 = .rows e t xs true
  | [], _, p, hp => by simp [frzLs] at hp
  | _ :: _, [], p, hp => by simp [frzLs] at hp
  | h :: hs, l :: ls, p, hp => by
    simp only [frzLs, List.mem_append] at hp
    exact hp.elim frzL_mem frzLs_mem
theorem frzTm_mem {μ : Mu} : ∀ {hs : List HV} {ls : List AV} {p : Nat × Chunk}, p ∈ frzTm μ hs ls → ∃ e t xs, μ p.1 = some (.rows e t xs false) ∧ p.2 = .rows e t xs true
  | [], _, p, hp => by simp [frzTm] at hp
  | .any :: hs, [], p, hp => by simp [frzTm] at hp
  | .val _ _ :: hs, [], p, hp => by simp [frzTm] at hp
  | .any :: hs, l :: ls, p, hp => frzTm_mem (hs := hs) (ls := ls) hp
  | .val _ _ :: hs, .any :: ls, p, hp => frzTm_mem (hs := hs) (ls := ls) hp
  | .val _ _ :: hs, .undef :: ls, p, hp => frzTm_mem (hs := hs) (ls := ls) hp
  | .val _ _ :: hs, .tup _ :: ls, p, hp => frzTm_mem (hs := hs) (ls := ls) hp
  | .val _ h :: hs, .val (_, l) :: ls, p, hp => by
    simp only [frzTm, List.mem_append] at hp
    exact hp.elim frzLs_mem frzTm_mem
theorem frz_is {tm : List AV} : ∀ {fz : Mem} {μ : Mu}, (∀ p ∈ fz, ∃ e t xs f, μ p.1 = some (.rows e t xs f) ∧ p.2 = .rows e t xs true) → Inv Z w0 M S0 tm μ a w → Inv Z w0 M S0 tm (muPut μ fz) a w
  | [], _, _, hI => hI
  | p :: fz, μ, h, hI => by
    obtain ⟨e, t, xs, f, h1, h2⟩ := h p (by simp)
    have hp : p = (p.1, .rows e t xs true) := by rw [← h2]
    show Inv Z w0 M S0 tm (muPut (muPut μ [p]) fz) a w
    rw [hp]
    refine frz_is (fun q hq => ?_) ?_
    · obtain ⟨e', t', xs', f', g1, g2⟩ := h q (List.mem_cons_of_mem _ hq)
      rw [muPut_one]
      by_cases he : q.1 = p.1
      · rw [he, h1] at g1
        cases g1
        exact ⟨e, t, xs, true, by simp [he], g2⟩
      · exact ⟨e', t', xs', f', by simp only [if_neg he]; exact g1, g2⟩
    · obtain ⟨η, S, hX, hZ⟩ := hI
      obtain ⟨S', i1, s1, _⟩ := inv_freeze hX.mem h1
      exact ⟨η, S', ⟨i1, hX.size, fun t v hv => AVR_stay s1 (hX.tmp t v hv), hX.noDefers⟩, fun z hz => ⟨s1.d _ (hZ z hz).1, (hZ z hz).2⟩⟩
theorem frzMem_mem {μ : Mu} {ren : Nat → Nat} : ∀ {l : List (Nat × HC)} {p : Nat × Chunk}, p ∈ frzMem ren μ l → ∃ e t xs, μ p.1 = some (.rows e t xs false) ∧ p.2 = .rows e t xs true
  | [], p, hp => by simp [frzMem] at hp
  | (b, .box hs) :: l, p, hp => by
    simp only [frzMem, List.mem_append] at hp
    rcases hp with hp | hp
    · split at hp
      · exact frzLs_mem hp
      · simp at hp
    · exact frzMem_mem hp
  | (b, .rows _ _ true) :: l, p, hp => by
    simp only [frzMem, List.mem_append] at hp
    rcases hp with hp | hp
    · split at hp
      · rename_i hm
        simp only [List.mem_singleton] at hp
        subst hp
        exact ⟨_, _, _, hm, rfl⟩
      · simp at hp
    · exact frzMem_mem hp
  | (b, .rows e t false) :: l, p, hp => frzMem_mem (l := l) (by simpa [frzMem] using hp)
theorem shape_frz {zs : List Nat} {sh : Shape} {φ : AS} (hI : Inv Z w0 M S0 φ.tm φ.mem.get a w) : Inv Z w0 M S0 (sh.frz zs φ).tm (sh.frz zs φ).mem.get a w := by
  show Inv Z w0 M S0 φ.tm (putM φ.mem _).get a w
  rw [putM_get]
  refine frz_is (fun p hp => ?_) hI
  rcases List.mem_append.1 hp with hp | hp
  · obtain ⟨e, t, xs, h1, h2⟩ := frzTm_mem hp
    exact ⟨e, t, xs, false, h1, h2⟩
  · obtain ⟨e, t, xs, h1, h2⟩ := frzMem_mem hp
    exact ⟨e, t, xs, false, h1, h2⟩
/-- A state that fits a shape is that shape, filled. -/
theorem fit_is {zs : List Nat} {sh : Shape} {φ : AS} {d : Tup sh.tys} (h : sh.fit zs φ = some d) (hz : ∀ z ∈ Z, z.1 ∈ zs) (hI : Inv Z w0 M S0 φ.tm φ.mem.get a w) : Inv Z w0 M S0 (sh.fill d).tm (sh.fill d).mem.get a w := by
  obtain ⟨η, S, hI, hZ⟩ := hI
  unfold Shape.fit at h
  simp only at h
  split at h
  · rename_i hc
    simp only [Bool.and_eq_true] at hc
    obtain ⟨⟨h1, h2⟩, h3⟩ := hc
    simp only [Option.bind_eq_some_iff] at h
    obtain ⟨x, hx, y, hy, hd⟩ := h
    have hlist := tup_of hd
    generalize renOf (pairsMem φ.mem.get sh.mem ((zs.map fun z => (z, z)) ++ pairsTm sh.tm φ.tm)) = ren at *
    have hM := hI.mem
    have hfm : (sh.fill d).mem = fillMem sh.mem y ∧ (sh.fill d).tm = (fillTm sh.tm (x ++ y)).1 := by
      have hk0 : ∀ b ∈ sh.mem.map (·.1), (fun b => b ∈ sh.mem.map (·.1)) b ∧ dom φ.mem.get (ren b) := fun b hb => ⟨hb, (matchMem_dom hy b hb).1⟩
      have e2 := (matchTm_is hM hk0 hx (vs := fun t => a.tmps.getD t undef) hI.tmp y).2.1
      unfold Shape.fill
      simp only [hlist, e2]
      exact ⟨trivial, trivial⟩
    have hk : ∀ b ∈ sh.mem.map (·.1), dom (sh.fill d).mem.get b ∧ dom φ.mem.get (ren b) := fun b hb => by
      obtain ⟨g1, g2⟩ := matchMem_dom hy b hb
      rw [hfm.1]; exact ⟨g2, g1⟩
    obtain ⟨t1, t2, t3⟩ := matchTm_is hM hk hx (vs := fun t => a.tmps.getD t undef) hI.tmp y
    have hmem := matchMem_is hM hk hy
    have hinj := nodupB_is h2
    refine ⟨fun b => η (ren b), S, ⟨⟨hM.frame, hM.sub, hM.lt, hM.from_, fun b c hb => ?_, fun i j ci cj k hi hj hli hlj hij hki => ?_⟩, ?_, ?_, hI.noDefers⟩, fun z hz' => ?_⟩
    · rw [hfm.1] at hb
      obtain ⟨_, c', g1, g2, g3⟩ := hmem b c hb
      exact g3
    · rw [hfm.1] at hi hj
      obtain ⟨k1, c1, g1, g2, _⟩ := hmem i ci hi
      obtain ⟨k2, c2, g3, g4, _⟩ := hmem j cj hj
      have hne : ren i ≠ ren j := by
        intro e
        have : ∀ l : List Nat, (l.map ren).Nodup → i ∈ l → j ∈ l → i = j := by
          intro l
          induction l with
          | nil => intro _ h; simp at h
          | cons z l ih =>
            intro hn hi hj
            simp only [List.map_cons, List.nodup_cons] at hn
            rcases List.mem_cons.1 hi with h1 | h1
            · rcases List.mem_cons.1 hj with h2 | h2
              · exact h1.trans h2.symm
              · exact absurd (List.mem_map.2 ⟨j, h2, by rw [← h1]; exact e.symm⟩) hn.1
            · rcases List.mem_cons.1 hj with h2 | h2
              · exact absurd (List.mem_map.2 ⟨i, h1, by rw [← h2]; exact e⟩) hn.1
              · exact ih hn.2 h1 h2
        exact hij (this _ hinj k1 k2)
      exact hM.apart (ren i) (ren j) c1 c2 k g1 g3 (by rw [← g2]; exact hli) (by rw [← g4]; exact hlj) hne hki
    · rw [hfm.2, t3]; exact hI.size
    · rw [hfm.2]; exact t1
    · have hzk := List.all_eq_true.1 h3 z.1 (hz z hz')
      simp only [Bool.and_eq_true, List.contains_eq_mem, decide_eq_true_eq] at hzk
      refine ⟨(hk z.1 hzk.1).1, ?_⟩
      show η (ren z.1) = z.2
      rw [Nat.eq_of_beq_eq_true hzk.2]
      exact (hZ z hz').2
  · cases h

/-! ### code -/
def PostK (Z : List (Nat × Value)) (w0 : World) (M S0 : Nat → Prop) (k : K) (r : Res) : Exit → Act → World → Prop
  | .panic _, _, _ => False
  | .outgrown, _, _ => False
  | e, a, w => ∃ φ, Inv Z w0 M S0 φ.tm φ.mem.get a w ∧ k e φ = some r
theorem cond_set {tm : List AV} {c : Operand} {b : Bool} (h : isBool (evalA tm c) = some b) : condSet tm c b = tm := by
  cases c with
  | tmp t =>
    simp only [condSet, evalA] at *
    apply List.ext_getElem?
    intro i
    rw [List.getElem?_set]
    split
    · rename_i hi
      subst hi
      split
      · rename_i hlt
        rw [List.getD_eq_getElem?_getD, List.getElem?_eq_getElem hlt, Option.getD_some] at h
        rw [List.getElem?_eq_getElem hlt, isBool_bv h]
      · rename_i hlt
        rw [List.getElem?_eq_none (by omega)]
    · rfl
  | const v => rfl
  | global g => rfl
  | func f => rfl
theorem exec_sound (hmix : P.follows .mixedOrders = true) (hΔ : TysOk P Δ) (hΓ : EnvOk P Γ) {Λ : Nat → Option LoopSpec} {zs : List Nat} (hz : ∀ z ∈ Z, z.1 ∈ zs) {r : Res} :
    ∀ (c : Code) (n : Nat) (φ : AS) (k : K) (a : Act) (w : World), exec Δ Γ Λ zs n c φ k = some r → Inv Z w0 M S0 φ.tm φ.mem.get a w → c.wp P (PostK Z w0 M S0 k r) a w := by
  intro c
  induction c with
  | skip => intro n φ k a w h hI; exact wp_skip ⟨φ, hI, h⟩
  | region id ops draw =>
    intro n φ k a w h hI
    have hfree : ∀ x, φ.mem.top ≤ x → φ.mem.get x = none := by
      intro x hx
      cases hg : φ.mem.get x with
      | none => rfl
      | some c => have := top_lt φ.mem x (by rw [hg]; rfl); omega
    cases draw with
    | false =>
      refine wp_region ?_
      rw [List.range_eq_range']
      simp only [exec, Bool.false_eq_true, if_false] at h
      exact region_text (Z := Z) (base := φ.mem.top) hΔ hΓ (fun φ' _ a' w' hI' hk => ⟨φ', hI', hk⟩) ops.size 0 φ [] a w (by omega) (fun x hx => hfree x (by omega)) hI (by simpa using h)
    | true =>
      refine wp_region_any hmix ?_
      simp only [exec, if_true] at h
      obtain ⟨recs, φ', htr, hk⟩ := runOps_trace _ _ _ _ h
      simp only [List.nil_append] at hk
      split at hk
      · rename_i hok
        refine region_any (Z := Z) hΔ hΓ htr hok hfree (fun a' w' hI' => ⟨φ', hI', hk⟩) ops.size _ a _ (by simp) (fun i o ho hL j hj => ?_) ?_ ?_
        · rw [Array.getD_eq_getD_getElem?, Array.getElem?_replicate] at hL
          split at hL <;> simp at hL
        · exact Nat.le_trans List.countP_le_length (by simp)
        · have : ∀ i, (Array.replicate ops.size false).getD i false = false := by
            intro i
            rw [Array.getD_eq_getD_getElem?, Array.getElem?_replicate]
            split <;> rfl
          simp only [this, stOf_none]
          exact inv_drawn hI _
      · cases hk
  | seq x y ihx ihy =>
    intro n φ k a w h hI
    refine wp_seq (wp_mono (ihx n φ _ a w h hI) fun e a' w' hp => ?_)
    cases e with
    | normal =>
      obtain ⟨φ', hI', hk⟩ := hp
      exact ihy _ φ' k a' w' hk hI'
    | panic c => exact hp.elim
    | outgrown => exact hp.elim
    | exit i => exact hp
    | goto l => exact hp
    | ret => exact hp
  | cond c x y ihx ihy =>
    intro n φ k a w h hI
    simp only [exec] at h
    split at h
    · rename_i t ht
      obtain ⟨η, S, hI', hZ⟩ := hI
      have hv := isBool_is ht (evalA_is hI' c)
      cases t with
      | true =>
        simp only [if_true] at h
        rw [cond_set ht] at h
        exact wp_cond_true hv (ihx n φ k a w h ⟨η, S, hI', hZ⟩)
      | false =>
        simp only [Bool.false_eq_true, if_false] at h
        rw [cond_set ht] at h
        exact wp_cond_false hv (ihy _ φ k a w h ⟨η, S, hI', hZ⟩)
    · cases h
  | block i x ih =>
    intro n φ k a w h hI
    refine wp_block (wp_mono (ih n φ _ a w h hI) fun e a' w' hp => ?_)
    cases e with
    | normal => exact hp
    | panic c => exact hp.elim
    | outgrown => exact hp.elim
    | exit j =>
      obtain ⟨φ', hI', hk⟩ := hp
      simp only [Exit.inBlock]
      simp only at hk
      split
      · rename_i hj
        rw [if_pos hj] at hk
        exact ⟨φ', hI', hk⟩
      · rename_i hj
        rw [if_neg hj] at hk
        exact ⟨φ', hI', hk⟩
    | goto l => exact hp
    | ret => exact hp
  | loop x ih =>
    intro n φ k a w h hI
    simp only [exec] at h
    split at h
    · rename_i L hL
      simp only [Option.bind_eq_some_iff] at h
      obtain ⟨d0, hfit, hrun⟩ := h
      refine wp_loop_fuel (fun m a w => ∃ d, loopN (fun d again => exec Δ Γ Λ zs (n + 1) x (L.sh.fill d) fun e φ' => match e with | .normal => (L.sh.fit zs (L.sh.frz zs φ')).bind again | e => k e φ') m d = some r ∧ Inv Z w0 M S0 (L.sh.fill d).tm (L.sh.fill d).mem.get a w)
        (fun m a w hJ => ?_) (n := L.fuel d0) ⟨d0, hrun, fit_is hfit hz (shape_frz hI)⟩
      obtain ⟨d, hd, hId⟩ := hJ
      cases m with
      | zero => simp [loopN] at hd
      | succ m =>
        refine ⟨m, rfl, ?_⟩
        simp only [loopN] at hd
        refine wp_mono (ih (n + 1) (L.sh.fill d) _ a w hd hId) fun e a' w' hp => ?_
        cases e with
        | normal =>
          obtain ⟨φ', hI', hk⟩ := hp
          simp only [Option.bind_eq_some_iff] at hk
          obtain ⟨d', hfit', hrun'⟩ := hk
          exact ⟨d', hrun', fit_is hfit' hz (shape_frz hI')⟩
        | panic c => exact hp.elim
        | outgrown => exact hp.elim
        | exit j => exact hp
        | goto l => exact hp
        | ret => exact hp
    · cases h
  | rangeFunc f p s b _ _ => intro n φ k a w h; simp [exec] at h
  | exit i => intro n φ k a w h hI; exact wp_exit ⟨φ, hI, h⟩
  | scope b _ => intro n φ k a w h; simp [exec] at h
  | label l => intro n φ k a w h; simp [exec] at h
  | goto l => intro n φ k a w h; simp [exec] at h
  | ret => intro n φ k a w h hI; exact wp_ret ⟨φ, hI, h⟩
  | refuse s => intro n φ k a w h; simp [exec] at h
end
end Go.Ab
