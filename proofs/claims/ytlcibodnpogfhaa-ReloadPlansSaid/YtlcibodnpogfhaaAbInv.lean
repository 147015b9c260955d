/- What abstract values and abstract memory say of values and memory ('Ab'), and that it stays. -/
import Derived.Test.YtlcibodnpogfhaaAbExec
set_option linter.unusedVariables false
set_option linter.unusedSimpArgs false
set_option linter.unnecessarySimpa false
namespace Go.Ab
open Go.RowKit

/-! ### two lists, element by element -/
inductive F2 {α β : Type} (R : α → β → Prop) : List α → List β → Prop where
  | nil : F2 R [] []
  | cons {x : α} {y : β} {xs : List α} {ys : List β} : R x y → F2 R xs ys → F2 R (x :: xs) (y :: ys)
namespace F2
variable {α β γ : Type} {R R' : α → β → Prop}
theorem imp (h : ∀ x y, R x y → R' x y) : ∀ {xs : List α} {ys : List β}, F2 R xs ys → F2 R' xs ys
  | _, _, .nil => .nil
  | _, _, .cons a b => .cons (h _ _ a) (imp h b)
theorem append : ∀ {xs : List α} {ys : List β} {xs' : List α} {ys' : List β}, F2 R xs ys → F2 R xs' ys' → F2 R (xs ++ xs') (ys ++ ys')
  | _, _, _, _, .nil, h => h
  | _, _, _, _, .cons a b, h => .cons a (append b h)
theorem length : ∀ {xs : List α} {ys : List β}, F2 R xs ys → xs.length = ys.length
  | _, _, .nil => rfl
  | _, _, .cons _ b => by simp [length b]
theorem get : ∀ {xs : List α} {ys : List β}, F2 R xs ys → ∀ (i : Nat) (x : α), xs[i]? = some x → ∃ y, ys[i]? = some y ∧ R x y
  | _, _, .nil, i, x, h => by simp at h
  | _, _, .cons a b, 0, x, h => by simp at h; subst h; exact ⟨_, rfl, a⟩
  | _, _, .cons a b, i + 1, x, h => by simp at h ⊢; exact get b i x h
theorem get' : ∀ {xs : List α} {ys : List β}, F2 R xs ys → ∀ (i : Nat) (y : β), ys[i]? = some y → ∃ x, xs[i]? = some x ∧ R x y
  | _, _, .nil, i, x, h => by simp at h
  | _, _, .cons a b, 0, x, h => by simp at h; subst h; exact ⟨_, rfl, a⟩
  | _, _, .cons a b, i + 1, x, h => by simp at h ⊢; exact get' b i x h
theorem take : ∀ (n : Nat) {xs : List α} {ys : List β}, F2 R xs ys → F2 R (xs.take n) (ys.take n)
  | 0, _, _, _ => by simp; exact .nil
  | n + 1, _, _, .nil => by simp; exact .nil
  | n + 1, _, _, .cons a b => by simp; exact .cons a (take n b)
theorem drop : ∀ (n : Nat) {xs : List α} {ys : List β}, F2 R xs ys → F2 R (xs.drop n) (ys.drop n)
  | 0, _, _, h => by simpa using h
  | n + 1, _, _, .nil => by simp; exact .nil
  | n + 1, _, _, .cons a b => by simp; exact drop n b
theorem set : ∀ (n : Nat) {xs : List α} {ys : List β} {x : α} {y : β}, F2 R xs ys → R x y → F2 R (xs.set n x) (ys.set n y)
  | _, _, _, _, _, .nil, _ => by simp; exact .nil
  | 0, _, _, _, _, .cons a b, h => by simp; exact .cons h b
  | n + 1, _, _, _, _, .cons a b, h => by simp; exact .cons a (set n b h)
theorem map_left {f : γ → α} : ∀ {xs : List γ} {ys : List β}, F2 (fun x y => R (f x) y) xs ys → F2 R (xs.map f) ys
  | _, _, .nil => .nil
  | _, _, .cons a b => .cons a (map_left b)
end F2

/-! ### data in memory -/
/-- Elements that are read: of the row at A, element i lies in cells i * sz, .. -/
def Row (w : World) (S : Nat → Prop) {α : Type} (R : List Value → α → Prop) (sz : Nat) (A : Option Addr) (xs : List α) : Prop :=
  ∀ (i : Nat) (x : α), xs[i]? = some x → ∃ b o cs, A = some ⟨b, o, none⟩ ∧ S b ∧ R cs x ∧ cs.length = sz ∧ ∀ (j : Nat) (u : Value), cs[j]? = some u → w.cell? ⟨b, o + (i * sz + j), none⟩ = some u
/-- These cells hold this datum; what it leads to lies in blocks of S. -/
def CR (w : World) (S : Nat → Prop) : (t : Ty) → List Value → t.den → Prop
  | .int k, cs, d => cs = [.int k d]
  | .bool, cs, d => cs = [.bool d]
  | .str, cs, d => cs = [.string d]
  | .slice t, cs, d => ∃ A c, cs = [.slice A d.length c] ∧ d.length ≤ c ∧ c ≤ maxLen ∧ Row w S (CR w S t) t.size A d
  | .pair a b, cs, d => ∃ c1 c2, cs = c1 ++ c2 ∧ CR w S a c1 d.1 ∧ CR w S b c2 d.2
  | .unit, cs, _ => cs = []
theorem CR_len {w : World} {S : Nat → Prop} : ∀ {t : Ty} {cs : List Value} {d : t.den}, CR w S t cs d → cs.length = t.size
  | .int _, _, _, h => by subst h; rfl
  | .bool, _, _, h => by subst h; rfl
  | .str, _, _, h => by subst h; rfl
  | .slice _, _, _, h => by obtain ⟨A, c, rfl, _⟩ := h; rfl
  | .pair a b, _, _, h => by
    obtain ⟨c1, c2, rfl, h1, h2⟩ := h
    rw [List.length_append, CR_len h1, CR_len h2]; rfl
  | .unit, _, _, h => by subst h; rfl
theorem CR_one {w : World} {S : Nat → Prop} : ∀ {t : Ty} {cs : List Value} {d : t.den}, CR w S t cs d → ∀ u ∈ cs, u.oneCell' = true
  | .int _, _, _, h => by subst h; simp [Value.oneCell']
  | .bool, _, _, h => by subst h; simp [Value.oneCell']
  | .str, _, _, h => by subst h; simp [Value.oneCell']
  | .slice _, _, _, h => by obtain ⟨A, c, rfl, _⟩ := h; simp [Value.oneCell']
  | .pair a b, _, _, h => by
    obtain ⟨c1, c2, rfl, h1, h2⟩ := h
    intro u hu
    rcases List.mem_append.1 hu with hu | hu
    · exact CR_one h1 u hu
    · exact CR_one h2 u hu
  | .unit, _, _, h => by subst h; simp
/-- Where blocks of S stay, a datum stays. -/
theorem CR_stay {w w' : World} {S S' : Nat → Prop} (hS : ∀ b, S b → S' b) (hw : ∀ b, S b → w'.heap[b]? = w.heap[b]?) :
    ∀ {t : Ty} {cs : List Value} {d : t.den}, CR w S t cs d → CR w' S' t cs d
  | .int _, _, _, h => h
  | .bool, _, _, h => h
  | .str, _, _, h => h
  | .slice t, _, _, h => by
    obtain ⟨A, c, rfl, hl, hm, hr⟩ := h
    refine ⟨A, c, rfl, hl, hm, fun i x hx => ?_⟩
    obtain ⟨b, o, cs, hA, hb, hc, hlen, hcell⟩ := hr i x hx
    exact ⟨b, o, cs, hA, hS b hb, CR_stay hS hw hc, hlen, fun j u hu => (World.cell?_of_block (w := w) (hw b hb)).trans (hcell j u hu)⟩
  | .pair a b, _, _, h => by
    obtain ⟨c1, c2, rfl, h1, h2⟩ := h
    exact ⟨c1, c2, rfl, CR_stay hS hw h1, CR_stay hS hw h2⟩
  | .unit, _, _, h => h
/-- The zero datum. -/
theorem CR_zero (w : World) (S : Nat → Prop) : ∀ t : Ty, CR w S t t.zeros t.dflt
  | .int _ => rfl
  | .bool => rfl
  | .str => rfl
  | .slice t => ⟨none, 0, rfl, Nat.le_refl _, by decide, fun i x hx => by simp [Ty.dflt] at hx⟩
  | .pair a b => ⟨_, _, rfl, CR_zero w S a, CR_zero w S b⟩
  | .unit => rfl
/-- A datum's cells are its parts' cells, one each. -/
theorem CR_parts {w : World} {S : Nat → Prop} : ∀ {t : Ty} {cs : List Value} {d : t.den}, CR w S t cs d → F2 (fun (x : D) v => CR w S x.t [v] x.d) (parts t d) cs := by
  intro t
  induction t with
  | int k => intro cs d h; subst h; exact .cons rfl .nil
  | bool => intro cs d h; subst h; exact .cons rfl .nil
  | str => intro cs d h; subst h; exact .cons rfl .nil
  | slice t _ =>
    intro cs d h
    have h' := h
    obtain ⟨A, c, rfl, _⟩ := h
    exact .cons h' .nil
  | pair a b iha ihb =>
    intro cs d h
    obtain ⟨c1, c2, rfl, h1, h2⟩ := h
    exact F2.append (iha h1) (ihb h2)
  | unit => intro cs d h; subst h; exact .nil

/-! ### abstract values -/
section
variable (w : World) (S Dm : Nat → Prop) (η : Nat → Value)
/-- What a part of a register says of a value (Dm: the numbers that are taken; η: the value behind each). -/
def LR : Leaf → Value → Prop
  | .dat x, v => CR w S x.t [v] x.d
  | .own id, v => Dm id ∧ v = η id ∧ v.oneCell' = true
  | .ptr id off, v => Dm id ∧ ∃ b, η id = .pointer (some ⟨b, 0, none⟩) ∧ v = .pointer (some ⟨b, off, none⟩)
  | .elt id sz i off, v => Dm id ∧ 0 ≤ i ∧ ∃ b oo n c, η id = .slice (some ⟨b, oo, none⟩) n c ∧ v = .pointer (some ⟨b, oo + (i.toNat * sz + off), none⟩)
  | .dpt x off, v => ∃ b o cs, v = .pointer (some ⟨b, o + off, none⟩) ∧ S b ∧ CR w S x.t cs x.d ∧ ∀ (j : Nat) (u : Value), cs[j]? = some u → w.cell? ⟨b, o + j, none⟩ = some u
  | .cl x, v => CR w S x.t [v] x.d ∧ ∃ A n, v = .slice A n n
  | .kn x b, v => CR w S x.t [v] x.d ∧ ∃ A n c, v = .slice A n c ∧ A.isNone = b
  | .nils, v => v = .slice none 0 0
  | .nilp, v => v = .pointer none
  | .fn f caps, v => (∀ id ∈ caps, Dm id) ∧ v = .func (.func f) #[] (caps.map η).toArray
  | .sub id sz lo hi pre, v => Dm id ∧ 0 ≤ lo ∧ lo ≤ hi ∧ ∃ A n c A' c', η id = .slice A n c ∧ hi ≤ n ∧ v = .slice A' (hi.toNat - lo.toNat) c' ∧ hi.toNat - lo.toNat ≤ c' ∧ c' ≤ c ∧ (∀ ad, A = some ad → ∃ b o, ad = ⟨b, o, none⟩) ∧
      (lo < hi → ∃ b o, A = some ⟨b, o, none⟩ ∧ A' = some ⟨b, o + lo.toNat * sz, none⟩) ∧ (pre = true → lo = 0 ∧ A' = A ∧ c' = c)
  | .any, _ => True
def RegR : Reg → Value → Prop
  | (false, [l]), v => LR w S Dm η l v
  | (true, ls), v => ∃ cs : Array Value, v = .agg cs ∧ F2 (LR w S Dm η) ls cs.toList
  | _, _ => False
def AVR : AV → Value → Prop
  | .val r, v => RegR w S Dm η r v
  | .tup l, v => ∃ vs : Array Value, v = .tuple vs ∧ F2 (RegR w S Dm η) l vs.toList
  | .undef, v => v = undef
  | .any, _ => True
/-- The block that a row or a variable lies in. -/
def blk : Value → Option Nat
  | .pointer (some a) => some a.block
  | .slice (some a) _ _ => some a.block
  | _ => none
def RowsR (t : Ty) (xs : List t.den) (cells : List Value) : Prop := ∃ css : List (List Value), cells = css.flatten ∧ F2 (fun x cs => CR w S t cs x) xs css
def ChunkR (base : Nat) (M : Nat → Prop) (id : Nat) : Chunk → Prop
  | .box ls => ∃ b T cs, η id = .pointer (some ⟨b, 0, none⟩) ∧ w.heap[b]? = some (.cells cs T (0, 0)) ∧ F2 (LR w S Dm η) ls cs.toList ∧ ls.all plainLeaf = true ∧ ¬ S b ∧ (base ≤ b ∨ M b)
  | .rows e t xs false => ∃ cells, w.ownsRow 0 e t.size (η id) xs.length cells ∧ RowsR w S t xs cells ∧ ∀ k, blk (η id) = some k → ¬ S k ∧ (base ≤ k ∨ M k)
  | .rows _ t xs true => CR w S (.slice t) [η id] xs
  | .gone => True
end
/-- Is this chunk's block its own? -/
def Chunk.live : Chunk → Bool
  | .box _ => true
  | .rows _ _ _ f => !f
  | .gone => false
structure Frame0 (M : Nat → Prop) (w w' : World) : Prop where
  os : w'.os = w.os
  tape : w'.tape = w.tape
  output : w'.output = w.output
  size : w.heap.size ≤ w'.heap.size
  block : ∀ k, k < w.heap.size → ¬ M k → w'.heap[k]? = w.heap[k]?
def dom (μ : Mu) : Nat → Prop := fun id => (μ id).isSome = true
/-- Of memory alone. -/
structure InvM (w0 : World) (M S0 : Nat → Prop) (μ : Mu) (η : Nat → Value) (S : Nat → Prop) (w : World) : Prop where
  frame : Frame0 M w0 w
  sub : ∀ b, S0 b → S b
  lt : ∀ b, S b → b < w.heap.size
  from_ : ∀ b, S b → S0 b ∨ w0.heap.size ≤ b ∨ M b
  chunk : ∀ id c, μ id = some c → ChunkR w S (dom μ) η w0.heap.size M id c
  apart : ∀ i j ci cj k, μ i = some ci → μ j = some cj → ci.live = true → cj.live = true → i ≠ j → blk (η i) = some k → blk (η j) ≠ some k
structure InvX (w0 : World) (M S0 : Nat → Prop) (tm : List AV) (μ : Mu) (η : Nat → Value) (S : Nat → Prop) (a : Act) (w : World) : Prop where
  mem : InvM w0 M S0 μ η S w
  size : a.tmps.size = tm.length
  tmp : ∀ (t : Nat) (v : AV), tm[t]? = some v → AVR w S (dom μ) η v (a.tmps.getD t undef)
  noDefers : a.defers = []
/-- (Z: variables that keep their place.) -/
def Inv (Z : List (Nat × Value)) (w0 : World) (M S0 : Nat → Prop) (tm : List AV) (μ : Mu) (a : Act) (w : World) : Prop := ∃ η S, InvX w0 M S0 tm μ η S a w ∧ ∀ z ∈ Z, dom μ z.1 ∧ η z.1 = z.2

/-! ### it stays -/
section
variable {w w' : World} {S S' Dm Dm' : Nat → Prop} {η η' : Nat → Value}
/-- What was kept: the blocks of S; the numbers that were taken. -/
structure Stay (w w' : World) (S S' Dm Dm' : Nat → Prop) (η η' : Nat → Value) : Prop where
  s : ∀ b, S b → S' b
  w : ∀ b, S b → w'.heap[b]? = w.heap[b]?
  d : ∀ id, Dm id → Dm' id
  η : ∀ id, Dm id → η' id = η id
theorem LR_stay (hs : Stay w w' S S' Dm Dm' η η') {l : Leaf} {v : Value} (h : LR w S Dm η l v) : LR w' S' Dm' η' l v := by
  cases l with
  | dat x => exact CR_stay hs.s hs.w h
  | own id => exact ⟨hs.d id h.1, h.2.1.trans (hs.η id h.1).symm, h.2.2⟩
  | ptr id off => obtain ⟨h0, b, h1, h2⟩ := h; exact ⟨hs.d id h0, b, (hs.η id h0).trans h1, h2⟩
  | elt id sz i off => obtain ⟨h0, h3, b, oo, n, c, h1, h2⟩ := h; exact ⟨hs.d id h0, h3, b, oo, n, c, (hs.η id h0).trans h1, h2⟩
  | dpt x off =>
    obtain ⟨b, o, cs, h1, h2, h3, h4⟩ := h
    exact ⟨b, o, cs, h1, hs.s b h2, CR_stay hs.s hs.w h3, fun j u hu => (World.cell?_of_block (w := w) (a := ⟨b, o + j, none⟩) (hs.w b h2)).trans (h4 j u hu)⟩
  | cl x => exact ⟨CR_stay hs.s hs.w h.1, h.2⟩
  | kn x b => exact ⟨CR_stay hs.s hs.w h.1, h.2⟩
  | nils => exact h
  | nilp => exact h
  | fn f caps =>
    refine ⟨fun id hid => hs.d id (h.1 id hid), ?_⟩
    have : caps.map η' = caps.map η := List.map_congr_left fun id hid => hs.η id (h.1 id hid)
    rw [this]; exact h.2
  | sub id sz lo hi pre =>
    obtain ⟨h0, h1, h2, A, n, c, A', c', h3, h4⟩ := h
    exact ⟨hs.d id h0, h1, h2, A, n, c, A', c', (hs.η id h0).trans h3, h4⟩
  | any => trivial
theorem RegR_stay (hs : Stay w w' S S' Dm Dm' η η') {r : Reg} {v : Value} (h : RegR w S Dm η r v) : RegR w' S' Dm' η' r v := by
  obtain ⟨ag, ls⟩ := r
  cases ag with
  | true => obtain ⟨cs, h1, h2⟩ := h; exact ⟨cs, h1, h2.imp fun _ _ => LR_stay hs⟩
  | false =>
    match ls, h with
    | [l], h => exact LR_stay hs h
theorem AVR_stay (hs : Stay w w' S S' Dm Dm' η η') {x : AV} {v : Value} (h : AVR w S Dm η x v) : AVR w' S' Dm' η' x v := by
  cases x with
  | val r => exact RegR_stay hs h
  | tup l =>
    obtain ⟨vs, h1, h2⟩ := h
    exact ⟨vs, h1, h2.imp fun _ _ => RegR_stay hs⟩
  | undef => exact h
  | any => trivial
theorem RowsR_stay (hS : ∀ b, S b → S' b) (hw : ∀ b, S b → w'.heap[b]? = w.heap[b]?) {t : Ty} {xs : List t.den} {cells : List Value} (h : RowsR w S t xs cells) : RowsR w' S' t xs cells := by
  obtain ⟨css, h1, h2⟩ := h
  exact ⟨css, h1, h2.imp fun x cs hx => CR_stay hS hw hx⟩
/-- A chunk whose own block stays. -/
theorem ChunkR_stay (hs : Stay w w' S S' Dm Dm' η η') {base : Nat} {M : Nat → Prop} {id : Nat} {c : Chunk} (hd : Dm id)
    (hb : c.live = true → ∀ k, blk (η id) = some k → w'.heap[k]? = w.heap[k]?) (hn : c.live = true → ∀ k, blk (η id) = some k → ¬ S' k)
    (h : ChunkR w S Dm η base M id c) : ChunkR w' S' Dm' η' base M id c := by
  match c, h with
  | .box ls, ⟨b, T, cs, h1, h2, h3, h4, h5, h6⟩ =>
    exact ⟨b, T, cs, (hs.η id hd).trans h1, (hb rfl b (by simp [h1, blk])).trans h2, h3.imp fun _ _ => LR_stay hs, h4, hn rfl b (by simp [h1, blk]), h6⟩
  | .rows e t xs false, ⟨cells, h1, h2, h3⟩ =>
    refine ⟨cells, ?_, RowsR_stay hs.s hs.w h2, fun k hk => ?_⟩
    · rw [hs.η id hd]
      refine ⟨h1.1, ?_⟩
      rcases h1.2 with hh | ⟨g, cap, cur, hv, hg, hh, r⟩
      · exact .inl hh
      · exact .inr ⟨g, cap, cur, hv, hg, (hb rfl g (by simp [hv, blk])).trans hh, r⟩
    · rw [hs.η id hd] at hk; exact ⟨hn rfl k hk, (h3 k hk).2⟩
  | .rows e t xs true, h =>
    show CR w' S' (.slice t) [η' id] xs
    rw [hs.η id hd]; exact CR_stay hs.s hs.w h
  | .gone, _ => trivial
end
theorem flat_get {α : Type} {sz : Nat} : ∀ {css : List (List α)} (i : Nat) (c : List α) (j : Nat) (u : α), (∀ c ∈ css, c.length = sz) → css[i]? = some c → c[j]? = some u → css.flatten[i * sz + j]? = some u
  | [], i, c, j, u, _, h, _ => by simp at h
  | c0 :: css, 0, c, j, u, hl, h, hu => by
    simp at h; subst h
    have hj : j < c0.length := (List.getElem?_eq_some_iff.1 hu).1
    simp [List.getElem?_append_left hj, hu]
  | c0 :: css, i + 1, c, j, u, hl, h, hu => by
    simp at h
    have h0 : c0.length = sz := hl c0 (by simp)
    have := flat_get i c j u (fun c hc => hl c (by simp [hc])) h hu
    rw [List.flatten_cons, List.getElem?_append_right (by rw [h0, Nat.add_mul]; omega), h0]
    rw [show (i + 1) * sz + j - sz = i * sz + j from by rw [Nat.add_mul]; omega]
    exact this
/-- Element i of rows: its cells, and where they lie. -/
theorem rows_at {w : World} {S : Nat → Prop} {t : Ty} {xs : List t.den} {cells : List Value} (h : RowsR w S t xs cells) {i : Nat} {x : t.den} (hx : xs[i]? = some x) :
    ∃ cs, CR w S t cs x ∧ ∀ (j : Nat) (u : Value), cs[j]? = some u → cells[i * t.size + j]? = some u := by
  obtain ⟨css, rfl, hf⟩ := h
  obtain ⟨cs, hcs, hr⟩ := hf.get i x hx
  refine ⟨cs, hr, fun j u hu => flat_get i cs j u (fun c hc => ?_) hcs hu⟩
  obtain ⟨q, hq⟩ := List.getElem?_of_mem hc
  obtain ⟨y, hy, hyr⟩ := hf.get' q c hq
  exact CR_len hyr
theorem Frame0.refl (M : Nat → Prop) (w : World) : Frame0 M w w := ⟨rfl, rfl, rfl, Nat.le_refl _, fun _ _ _ => rfl⟩
theorem Stay.refl (w : World) (S Dm : Nat → Prop) (η : Nat → Value) : Stay w w S S Dm Dm η η := ⟨fun _ h => h, fun _ _ => rfl, fun _ h => h, fun _ _ => rfl⟩
end Go.Ab
