/- The symbolic executor, fourth part: where ways meet; memory. Own work of this session. -/
import Derived.Test.YtbbippgnmllcoaaSyC
set_option linter.unusedVariables false
namespace Go.Sy
section
variable {η : Env} {ρ ρ' : List Hd}

theorem if_rel {c : Prop} [Decidable c] {x y : SV} {v : Value} (h : Rel η ρ (if c then x else y) v) : (c → Rel η ρ x v) ∧ (¬ c → Rel η ρ y v) := by
  by_cases hc : c
  · rw [if_pos hc] at h; exact ⟨fun _ => h, fun h' => absurd hc h'⟩
  · rw [if_neg hc] at h; exact ⟨fun h' => absurd h' hc, fun _ => h⟩

mutual
theorem Rel.merge {c : E} : ∀ (x y : SV) (v : Value), Rel η ρ (if (c.den η).toB then x else y) v → Rel η ρ (merge c x y) v
  | .int k a, y, v, h => by
    cases y with
    | int k' b =>
      simp only [Sy.merge, mergeK]
      split
      · rename_i hk; subst hk
        simp only [Rel]
        rw [den_mkIteI]
        by_cases hc : (c.den η).toB = true
        · rw [if_pos hc] at h; rw [if_pos hc]; simpa only [Rel] using h
        · rw [if_neg hc] at h; rw [if_neg hc]; simpa only [Rel] using h
      · simp only [Rel]
        by_cases hc : (c.den η).toB = true
        · rw [if_pos hc] at h; simp only [Rel] at h; subst h; rfl
        · rw [if_neg hc] at h; simp only [Rel] at h; subst h; rfl
    | _ => exact Rel.merge_fall h
  | .bool a, y, v, h => by
    cases y with
    | bool b =>
      simp only [Sy.merge, Rel]
      rw [den_mkIteB]
      by_cases hc : (c.den η).toB = true
      · rw [if_pos hc] at h; rw [if_pos hc]; simpa only [Rel] using h
      · rw [if_neg hc] at h; rw [if_neg hc]; simpa only [Rel] using h
    | _ => exact Rel.merge_fall h
  | .str a, y, v, h => by
    cases y with
    | str b =>
      simp only [Sy.merge, Rel]
      rw [den_mkIteS]
      by_cases hc : (c.den η).toB = true
      · rw [if_pos hc] at h; rw [if_pos hc]; simpa only [Rel] using h
      · rw [if_neg hc] at h; rw [if_neg hc]; simpa only [Rel] using h
    | _ => exact Rel.merge_fall h
  | .asl n k w o l, y, v, h => by
    cases y with
    | asl n' k' w' o' l' =>
      simp only [Sy.merge]
      split
      · rename_i hk
        simp only [Bool.and_eq_true] at hk
        have e1 := Nat.eq_of_beq_eq_true hk.1
        have e2 := Nat.eq_of_beq_eq_true hk.2
        subst e1 e2
        simp only [Rel, den_mkIteB, den_mkIteI]
        by_cases hc : (c.den η).toB = true
        · rw [if_pos hc] at h
          simp only [if_pos hc]
          simpa only [Rel] using h
        · rw [if_neg hc] at h
          simp only [if_neg hc]
          simpa only [Rel] using h
      · simp only [Rel]
        by_cases hc : (c.den η).toB = true
        · rw [if_pos hc] at h; exact Rel.cell (by rfl) h
        · rw [if_neg hc] at h; exact Rel.cell (by rfl) h
    | _ => exact Rel.merge_fall h
  | .rsl t a, y, v, h => by
    cases y with
    | rsl t' b =>
      simp only [Sy.merge]
      split
      · rename_i hk
        have e1 := ET.eqb_eq _ _ hk
        subst e1
        simp only [Rel, den_mkIteL]
        by_cases hc : (c.den η).toB = true
        · rw [if_pos hc] at h; rw [if_pos hc]; simpa only [Rel] using h
        · rw [if_neg hc] at h; rw [if_neg hc]; simpa only [Rel] using h
      · simp only [Rel]
        by_cases hc : (c.den η).toB = true
        · rw [if_pos hc] at h; exact Rel.cell (by rfl) h
        · rw [if_neg hc] at h; exact Rel.cell (by rfl) h
    | _ => exact Rel.merge_fall h
  | .eptr .., y, v, h => by cases y <;> exact Rel.merge_fall h
  | .rptr .., y, v, h => by cases y <;> exact Rel.merge_fall h
  | .agg l, y, v, h => by
    cases y with
    | agg l' =>
      simp only [Sy.merge]
      split
      · rename_i r hr
        by_cases hc : (c.den η).toB = true
        · rw [if_pos hc] at h; simp only [Rel] at h ⊢
          obtain ⟨vs, rfl, h2⟩ := h
          exact ⟨vs, rfl, Rels.merges l l' r vs hr (by rw [if_pos hc]; exact h2)⟩
        · rw [if_neg hc] at h; simp only [Rel] at h ⊢
          obtain ⟨vs, rfl, h2⟩ := h
          exact ⟨vs, rfl, Rels.merges l l' r vs hr (by rw [if_neg hc]; exact h2)⟩
      · simp only [Rel]
    | _ => exact Rel.merge_fall h
  | .tup l, y, v, h => by
    cases y with
    | tup l' =>
      simp only [Sy.merge]
      split
      · rename_i r hr
        by_cases hc : (c.den η).toB = true
        · rw [if_pos hc] at h; simp only [Rel] at h ⊢
          obtain ⟨vs, rfl, h2⟩ := h
          exact ⟨vs, rfl, Rels.merges l l' r vs hr (by rw [if_pos hc]; exact h2)⟩
        · rw [if_neg hc] at h; simp only [Rel] at h ⊢
          obtain ⟨vs, rfl, h2⟩ := h
          exact ⟨vs, rfl, Rels.merges l l' r vs hr (by rw [if_neg hc]; exact h2)⟩
      · simp only [Rel]
    | _ => exact Rel.merge_fall h
  | .top, y, v, h => by cases y <;> exact Rel.merge_fall h
  | .unk, y, v, h => by cases y <;> exact Rel.merge_fall h
  | .nil, y, v, h => by cases y <;> exact Rel.merge_fall h
  | .ptr .., y, v, h => by cases y <;> exact Rel.merge_fall h
  | .snil, y, v, h => by cases y <;> exact Rel.merge_fall h
  | .slice .., y, v, h => by cases y <;> exact Rel.merge_fall h
  | .hnd _, y, v, h => by cases y <;> exact Rel.merge_fall h
  | .fn _, y, v, h => by cases y <;> exact Rel.merge_fall h
  | .clo .., y, v, h => by cases y <;> exact Rel.merge_fall h
theorem Rels.merges {c : E} : ∀ (l l' r : List SV) (vs : List Value), merges c l l' = some r → Rels η ρ (if (c.den η).toB then l else l') vs → Rels η ρ r vs
  | [], l', r, vs, e, h => by
    cases l' with
    | nil => simp only [Sy.merges, Option.some.injEq] at e; subst e; simpa using h
    | cons y l' => simp [Sy.merges] at e
  | x :: l, l', r, vs, e, h => by
    cases l' with
    | nil => simp [Sy.merges] at e
    | cons y l' =>
      simp only [Sy.merges] at e
      split at e
      · rename_i r' hr
        simp only [Option.some.injEq] at e; subst e
        by_cases hc : (c.den η).toB = true
        · rw [if_pos hc] at h; simp only [Rels] at h ⊢
          obtain ⟨v, t, rfl, h2, h3⟩ := h
          exact ⟨v, t, rfl, Rel.merge x y v (by rw [if_pos hc]; exact h2), Rels.merges l l' r' t hr (by rw [if_pos hc]; exact h3)⟩
        · rw [if_neg hc] at h; simp only [Rels] at h ⊢
          obtain ⟨v, t, rfl, h2, h3⟩ := h
          exact ⟨v, t, rfl, Rel.merge x y v (by rw [if_neg hc]; exact h2), Rels.merges l l' r' t hr (by rw [if_neg hc]; exact h3)⟩
      · cases e
end

/-! ### Memory -/
/-- What the objects that are told by their contents alone are: 'kind', contents, handle, the blocks they own. -/
structure Om where
  is : Nat → D → Hd → (Nat → Prop) → World → Prop
  loc : ∀ k d h F w w', is k d h F w → (∀ x, F x → w'.heap[x]? = w.heap[x]?) → is k d h F w'
def Om.none : Om := ⟨fun _ _ _ _ _ => False, fun _ _ _ _ _ _ h _ => h⟩

/-- An entry of a map. -/
def MapRow (d : D) (e : MapEntry) : Prop := ∃ k v, d = .ls [.i k, .i v] ∧ e.key = .int .i64 k ∧ e.val = .int .u8 v
def MEnc : List D → List MapEntry → Prop
  | [], [] => True
  | d :: ds, e :: es => MapRow d e ∧ MEnc ds es
  | _, _ => False
def Chunk.holds (Ω : Om) (η : Env) (ρ : List Hd) (h : Hd) (F : Nat → Prop) (w : World) : Chunk → Prop
  | .row cells ty => ∃ b vs, h = .blk b ∧ w.heap[b]? = some (.cells ⟨vs⟩ ty (0, 0)) ∧ Rels η ρ cells vs ∧ ∀ x, F x ↔ x = b
  | .arr t e => (∃ b o n cs ty fz, h = .arr b o n ∧ w.heap[b]? = some (.cells ⟨cs⟩ ty fz) ∧ (∀ i, i < cs.length → ¬ (fz.1 ≤ i ∧ i < fz.2)) ∧ (e.den η).toL.length ≤ n ∧
      o + n * t.width ≤ cs.length ∧ EncA η.R t (e.den η).toL (cs.drop o) ∧ ∀ x, F x ↔ x = b) ∨ (h = .none ∧ (e.den η).toL = [] ∧ ∀ x, ¬ F x)
  | .map e => ∃ r es clock, h = .val (.map (some r)) ∧ w.heap[r]? = some (.map es clock) ∧ MEnc (e.den η).toL es.toList ∧ ∀ x, F x ↔ x = r
  | .opq k e => Ω.is k (e.den η) h F w
  | .dead => True

variable {Ω : Om}
theorem Chunk.holds_mono {h : Hd} {F : Nat → Prop} {w w' : World} (hρ : ρ <+: ρ') (hw : ∀ x, F x → w'.heap[x]? = w.heap[x]?) : ∀ {ch : Chunk}, ch.holds Ω η ρ h F w → ch.holds Ω η ρ' h F w'
  | .row cells ty, r => by
    simp only [Chunk.holds] at *
    obtain ⟨b, vs, h1, h2, h3, h4⟩ := r
    exact ⟨b, vs, h1, by rw [hw b ((h4 b).2 rfl)]; exact h2, Rels.mono hρ _ _ h3, h4⟩
  | .arr t e, r => by
    simp only [Chunk.holds] at *
    rcases r with ⟨b, o, n, cs, ty, fz, h1, h2, h3, h4, h5, h6, h7⟩ | r
    · exact .inl ⟨b, o, n, cs, ty, fz, h1, by rw [hw b ((h7 b).2 rfl)]; exact h2, h3, h4, h5, h6, h7⟩
    · exact .inr r
  | .map e, r => by
    simp only [Chunk.holds] at *
    obtain ⟨b, es, ck, h1, h2, h3, h4⟩ := r
    exact ⟨b, es, ck, h1, by rw [hw b ((h4 b).2 rfl)]; exact h2, h3, h4⟩
  | .opq k e, r => by simp only [Chunk.holds] at *; exact Ω.loc _ _ _ _ _ _ r hw
  | .dead, _ => by simp only [Chunk.holds]

/-- But for the blocks of T, what stood in B stands. -/
structure Keep (B : World) (T : Nat → Prop) (w : World) : Prop where
  os : w.os = B.os
  tape : w.tape = B.tape
  output : w.output = B.output
  size : B.heap.size ≤ w.heap.size
  block : ∀ k, k < B.heap.size → ¬ T k → w.heap[k]? = B.heap[k]?
theorem Keep.refl (B : World) (T : Nat → Prop) : Keep B T B := ⟨rfl, rfl, rfl, Nat.le_refl _, fun _ _ _ => rfl⟩

/-- The blocks that are only read are older than all, and are let alone. -/
def RoOk (η : Env) (B : World) (T : Nat → Prop) : Prop :=
  ∀ b cs, η.R b = some cs → ¬ T b ∧ b < B.heap.size ∧ ∃ ty fz, B.heap[b]? = some (.cells ⟨cs⟩ ty fz)
structure Inv (Ω : Om) (η : Env) (B : World) (T : Nat → Prop) (ρ : List Hd) (m : List Chunk) (w : World) : Prop where
  len : ρ.length = m.length
  keep : Keep B T w
  ro : RoOk η B T
  foot : ∃ F : Nat → Nat → Prop, (∀ (c : Nat) (ch : Chunk) (h : Hd), m[c]? = some ch → ρ[c]? = some h → ch.holds Ω η ρ h (F c) w) ∧
    (∀ c c' x, F c x → F c' x → c = c') ∧ (∀ c x, F c x → x < w.heap.size ∧ (T x ∨ B.heap.size ≤ x))

variable {B : World} {T : Nat → Prop} {m : List Chunk} {w w' : World}

/-- The world has moved on where nobody looks. -/
theorem Inv.step (h : Inv Ω η B T ρ m w) (h1 : w'.os = w.os) (h2 : w'.tape = w.tape) (h3 : w'.output = w.output) (h4 : w.heap.size ≤ w'.heap.size)
    (h5 : ∀ k, k < w.heap.size → w'.heap[k]? = w.heap[k]?) : Inv Ω η B T ρ m w' := by
  obtain ⟨F, f1, f2, f3⟩ := h.foot
  have kk := h.keep
  refine ⟨h.len, ⟨h1.trans kk.os, h2.trans kk.tape, h3.trans kk.output, Nat.le_trans kk.size h4, fun k hk ht => (h5 k (Nat.lt_of_lt_of_le hk kk.size)).trans (kk.block k hk ht)⟩, h.ro, F, ?_, f2, ?_⟩
  · exact fun c ch hh e1 e2 => Chunk.holds_mono (List.prefix_refl _) (fun x hx => h5 x (f3 c x hx).1) (f1 c ch hh e1 e2)
  · exact fun c x hx => ⟨Nat.lt_of_lt_of_le (f3 c x hx).1 h4, (f3 c x hx).2⟩
theorem Inv.drawn (h : Inv Ω η B T ρ m w) (n : Nat) : Inv Ω η B T ρ m { w with drawn := n } :=
  h.step rfl rfl rfl (Nat.le_refl _) (fun _ _ => rfl)
/-- A block that is only read. -/
theorem Inv.read (h : Inv Ω η B T ρ m w) {b : Nat} {cs : List Value} (hb : η.R b = some cs) : ∃ ty fz, w.heap[b]? = some (.cells ⟨cs⟩ ty fz) := by
  obtain ⟨h1, h2, ty, fz, h3⟩ := h.ro b cs hb
  exact ⟨ty, fz, (h.keep.block b h2 h1).trans h3⟩

theorem getElem?_snoc {α : Type} {l : List α} {x : α} {i : Nat} {y : α} (h : (l ++ [x])[i]? = some y) : (i < l.length ∧ l[i]? = some y) ∨ (i = l.length ∧ y = x) := by
  rcases Nat.lt_or_ge i l.length with hi | hi
  · left; rw [List.getElem?_append_left hi] at h; exact ⟨hi, h⟩
  · right
    rw [List.getElem?_append_right hi] at h
    have : i - l.length = 0 := by
      rcases Nat.eq_zero_or_pos (i - l.length) with h0 | h0
      · exact h0
      · rw [List.getElem?_eq_none (by simp; omega)] at h; cases h
    rw [this] at h
    simp at h
    exact ⟨by omega, h.symm⟩

/-- A new chunk, of new blocks. -/
theorem Inv.push (h : Inv Ω η B T ρ m w) {ch : Chunk} {hd : Hd} {G : Nat → Prop} (h1 : w'.os = w.os) (h2 : w'.tape = w.tape) (h3 : w'.output = w.output) (h4 : w.heap.size ≤ w'.heap.size)
    (h5 : ∀ k, k < w.heap.size → w'.heap[k]? = w.heap[k]?) (hh : ch.holds Ω η (ρ ++ [hd]) hd G w') (hG : ∀ x, G x → w.heap.size ≤ x ∧ x < w'.heap.size) :
    Inv Ω η B T (ρ ++ [hd]) (m ++ [ch]) w' := by
  obtain ⟨F, f1, f2, f3⟩ := h.foot
  have kk := h.keep
  refine ⟨by simp [h.len], ⟨h1.trans kk.os, h2.trans kk.tape, h3.trans kk.output, Nat.le_trans kk.size h4, fun k hk ht => (h5 k (Nat.lt_of_lt_of_le hk kk.size)).trans (kk.block k hk ht)⟩, h.ro,
    fun c x => if c = m.length then G x else F c x, ?_, ?_, ?_⟩
  · intro c ch' hh' e1 e2
    rcases getElem?_snoc e1 with ⟨hc, e1⟩ | ⟨hc, rfl⟩
    · have hne : c ≠ m.length := by omega
      rcases getElem?_snoc e2 with ⟨_, e2⟩ | ⟨hc', _⟩
      · simp only [hne, if_false]
        exact Chunk.holds_mono (List.prefix_append _ _) (fun x hx => h5 x (f3 c x hx).1) (f1 c ch' hh' e1 e2)
      · rw [h.len] at hc'; exact absurd hc' hne
    · subst hc
      rcases getElem?_snoc e2 with ⟨hc', _⟩ | ⟨_, rfl⟩
      · rw [h.len] at hc'; omega
      · simpa using hh
  · intro c c' x hx hx'
    by_cases hc : c = m.length <;> by_cases hc' : c' = m.length
    · omega
    · simp only [hc, if_true, hc', if_false] at hx hx'
      have := (f3 c' x hx').1; have := (hG x hx).1; omega
    · simp only [hc, if_false, hc', if_true] at hx hx'
      have := (f3 c x hx).1; have := (hG x hx').1; omega
    · simp only [hc, if_false, hc'] at hx hx'
      exact f2 c c' x hx hx'
  · intro c x hx
    by_cases hc : c = m.length
    · simp only [hc, if_true] at hx
      have := hG x hx
      exact ⟨this.2, .inr (Nat.le_trans kk.size this.1)⟩
    · simp only [hc, if_false] at hx
      exact ⟨Nat.lt_of_lt_of_le (f3 c x hx).1 h4, (f3 c x hx).2⟩
theorem Inv.new (h : Inv Ω η B T ρ m w) {ch : Chunk} {hd : Hd} {o : Obj} (hh : ch.holds Ω η (ρ ++ [hd]) hd (fun x => x = w.heap.size) (w.alloc o)) : Inv Ω η B T (ρ ++ [hd]) (m ++ [ch]) (w.alloc o) :=
  h.push rfl rfl rfl (by simp) (fun k hk => RowKit.Below.heap_alloc _ _ _ hk) hh (fun x hx => by subst hx; simp)
theorem Inv.alloc (h : Inv Ω η B T ρ m w) {l : List SV} {vs : List Value} (ty : TypeId) (r : Rels η ρ l vs) :
    Inv Ω η B T (ρ ++ [.blk w.heap.size]) (m ++ [.row l ty]) (w.alloc (.cells ⟨vs⟩ ty)) := by
  refine h.new ?_
  simp only [Chunk.holds]
  exact ⟨w.heap.size, vs, rfl, (by show (w.heap.push _)[w.heap.size]? = _; simp), Rels.mono (List.prefix_append _ _) _ _ r, fun x => by simp⟩
/-- A chunk without a block. -/
theorem Inv.pushNone (h : Inv Ω η B T ρ m w) (t : ET) : Inv Ω η B T (ρ ++ [.none]) (m ++ [.arr t eNil]) w :=
  h.push (G := fun _ => False) rfl rfl rfl (Nat.le_refl _) (fun _ _ => rfl) (by simp only [Chunk.holds]; exact .inr ⟨by simp, rfl, fun x hx => hx⟩) (fun _ hx => hx.elim)

/-- What a row's chunk says. -/
theorem Inv.row (h : Inv Ω η B T ρ m w) {c : Nat} {l : List SV} {ty : TypeId} (hr : rowOf m c = some (l, ty)) {b : Nat} (hb : ρ[c]? = some (.blk b)) :
    ∃ vs, w.heap[b]? = some (.cells ⟨vs⟩ ty (0, 0)) ∧ Rels η ρ l vs := by
  obtain ⟨F, f1, _, _⟩ := h.foot
  unfold rowOf at hr
  split at hr
  · rename_i l' t' hm
    simp only [Option.some.injEq, Prod.mk.injEq] at hr
    obtain ⟨rfl, rfl⟩ := hr
    have := f1 c _ _ hm hb
    simp only [Chunk.holds] at this
    obtain ⟨b', vs, h1, h2, h3, _⟩ := this
    injection h1 with h1; subst h1
    exact ⟨vs, h2, h3⟩
  · cases hr
theorem rowOf_get {c : Nat} {l : List SV} {ty : TypeId} (hr : rowOf m c = some (l, ty)) : m[c]? = some (.row l ty) := by
  unfold rowOf at hr
  split at hr
  · rename_i l' t' hm
    simp only [Option.some.injEq, Prod.mk.injEq] at hr
    obtain ⟨rfl, rfl⟩ := hr
    exact hm
  · cases hr

theorem cell_of_row {b : Nat} {vs : List Value} {ty : TypeId} (h : w.heap[b]? = some (.cells ⟨vs⟩ ty (0, 0))) (o : Nat) : w.cell? ⟨b, o, none⟩ = vs[o]? := by
  simp [World.cell?, h]
theorem frozen_of_row {b : Nat} {vs : List Value} {ty : TypeId} (h : w.heap[b]? = some (.cells ⟨vs⟩ ty (0, 0))) (o : Nat) : w.frozen? ⟨b, o, none⟩ = false := by
  simp [World.frozen?, h]

/-- A chunk of one block is turned, and the block with it. -/
theorem Inv.turn (h : Inv Ω η B T ρ m w) {c : Nat} {ch ch' : Chunk} {hd : Hd} (hm : m[c]? = some ch) (hr : ρ[c]? = some hd) {b : Nat}
    (key : ∀ F, ch.holds Ω η ρ hd F w → ∀ x, F x ↔ x = b) (new : ∀ F : Nat → Prop, (∀ x, F x ↔ x = b) → ch'.holds Ω η ρ hd F w')
    (h1 : w'.os = w.os) (h2 : w'.tape = w.tape) (h3 : w'.output = w.output) (h4 : w'.heap.size = w.heap.size)
    (h5 : ∀ k, k ≠ b → w'.heap[k]? = w.heap[k]?) : Inv Ω η B T ρ (m.set c ch') w' := by
  obtain ⟨F, f1, f2, f3⟩ := h.foot
  have kk := h.keep
  have e4 := key _ (f1 c _ _ hm hr)
  have hF : F c b := (e4 b).2 rfl
  have hT := (f3 c b hF)
  refine ⟨by simp [h.len], ⟨h1.trans kk.os, h2.trans kk.tape, h3.trans kk.output, by rw [h4]; exact kk.size, fun k hk ht => ?_⟩, h.ro, F, ?_, f2, fun c x hx => by rw [h4]; exact f3 c x hx⟩
  · have : k ≠ b := by
      rintro rfl
      rcases hT.2 with h' | h'
      · exact ht h'
      · omega
    rw [h5 k this]; exact kk.block k hk ht
  · intro d ch0 hh e1' e2'
    by_cases hd' : d = c
    · subst hd'
      have hlt : d < m.length := (List.getElem?_eq_some_iff.1 hm).1
      rw [List.getElem?_set_self hlt] at e1'
      simp only [Option.some.injEq] at e1'; subst e1'
      have : hh = hd := by rw [hr] at e2'; injection e2' with e; exact e.symm
      subst this
      exact new _ e4
    · rw [List.getElem?_set_ne (Ne.symm hd')] at e1'
      refine Chunk.holds_mono (List.prefix_refl _) (fun x hx => h5 x ?_) (f1 d ch0 hh e1' e2')
      rintro rfl
      exact hd' (f2 d c _ hx hF)
/-- A chunk is let go of. -/
theorem Inv.kill (h : Inv Ω η B T ρ m w) (c : Nat) : Inv Ω η B T ρ (m.set c .dead) w := by
  obtain ⟨F, f1, f2, f3⟩ := h.foot
  refine ⟨by simp [h.len], h.keep, h.ro, F, ?_, f2, f3⟩
  intro d ch0 hh e1' e2'
  by_cases hd' : d = c
  · subst hd'
    have hlt : d < (m.set d .dead).length := (List.getElem?_eq_some_iff.1 e1').1
    rw [List.getElem?_set_self (by simpa using hlt)] at e1'
    simp only [Option.some.injEq] at e1'; subst e1'
    simp only [Chunk.holds]
  · rw [List.getElem?_set_ne (Ne.symm hd')] at e1'
    exact f1 d ch0 hh e1' e2'
/-- A chunk of one block goes over into a new one. -/
theorem Inv.move (h : Inv Ω η B T ρ m w) {c : Nat} {ch ch' : Chunk} {hd hd' : Hd} (hm : m[c]? = some ch) (hr : ρ[c]? = some hd) {b : Nat}
    (key : ∀ F, ch.holds Ω η ρ hd F w → ∀ x, F x ↔ x = b) (new : ch'.holds Ω η (ρ ++ [hd']) hd' (fun x => x = b) w')
    (h1 : w'.os = w.os) (h2 : w'.tape = w.tape) (h3 : w'.output = w.output) (h4 : w'.heap.size = w.heap.size)
    (h5 : ∀ k, k ≠ b → w'.heap[k]? = w.heap[k]?) : Inv Ω η B T (ρ ++ [hd']) (m.set c .dead ++ [ch']) w' := by
  obtain ⟨F, f1, f2, f3⟩ := h.foot
  have kk := h.keep
  have e4 := key _ (f1 c _ _ hm hr)
  have hF : F c b := (e4 b).2 rfl
  have hT := (f3 c b hF)
  have hlc : c < m.length := (List.getElem?_eq_some_iff.1 hm).1
  refine ⟨by simp [h.len], ⟨h1.trans kk.os, h2.trans kk.tape, h3.trans kk.output, by rw [h4]; exact kk.size, fun k hk ht => ?_⟩, h.ro,
    fun d x => if d = c then False else if d = m.length then x = b else F d x, ?_, ?_, ?_⟩
  · have : k ≠ b := by
      rintro rfl
      rcases hT.2 with h' | h'
      · exact ht h'
      · omega
    rw [h5 k this]; exact kk.block k hk ht
  · intro d ch0 hh e1 e2
    rcases getElem?_snoc e1 with ⟨hc, e1⟩ | ⟨hc, rfl⟩
    · simp only [List.length_set] at hc
      have hne : d ≠ m.length := by omega
      rcases getElem?_snoc e2 with ⟨_, e2⟩ | ⟨hc', _⟩
      · by_cases hd0 : d = c
        · subst hd0
          rw [List.getElem?_set_self hlc] at e1
          simp only [Option.some.injEq] at e1; subst e1
          simp only [Chunk.holds]
        · rw [List.getElem?_set_ne (Ne.symm hd0)] at e1
          simp only [hd0, hne, if_false]
          refine Chunk.holds_mono (List.prefix_append _ _) (fun x hx => h5 x ?_) (f1 d ch0 hh e1 e2)
          rintro rfl
          exact hd0 (f2 d c _ hx hF)
      · rw [h.len] at hc'; exact absurd hc' hne
    · simp only [List.length_set] at hc
      subst hc
      rcases getElem?_snoc e2 with ⟨hc', _⟩ | ⟨_, rfl⟩
      · rw [h.len] at hc'; omega
      · have : m.length ≠ c := by omega
        simpa [this] using new
  · intro d d' x hx hx'
    by_cases hc : d = c
    · simp [hc] at hx
    · by_cases hc' : d' = c
      · simp [hc'] at hx'
      · simp only [hc, hc', if_false] at hx hx'
        by_cases hm1 : d = m.length <;> by_cases hm2 : d' = m.length
        · omega
        · simp only [hm1, if_true, hm2, if_false] at hx hx'
          subst hx
          exact absurd (f2 d' c _ hx' hF) hc'
        · simp only [hm1, if_false, hm2, if_true] at hx hx'
          subst hx'
          exact absurd (f2 d c _ hx hF) hc
        · simp only [hm1, hm2, if_false] at hx hx'
          exact f2 d d' x hx hx'
  · intro d x hx
    by_cases hc : d = c
    · simp [hc] at hx
    · simp only [hc, if_false] at hx
      by_cases hm1 : d = m.length
      · simp only [hm1, if_true] at hx
        subst hx
        rw [h4]; exact hT
      · simp only [hm1, if_false] at hx
        rw [h4]; exact f3 d x hx
/-- A row is written anew. -/
theorem Inv.write (h : Inv Ω η B T ρ m w) {c : Nat} {l l' : List SV} {ty : TypeId} (hr : rowOf m c = some (l, ty)) {b : Nat} (hb : ρ[c]? = some (.blk b)) {vs' : List Value}
    (h1 : w'.os = w.os) (h2 : w'.tape = w.tape) (h3 : w'.output = w.output) (h4 : w'.heap.size = w.heap.size)
    (h5 : ∀ k, k ≠ b → w'.heap[k]? = w.heap[k]?) (h6 : w'.heap[b]? = some (.cells ⟨vs'⟩ ty (0, 0))) (r : Rels η ρ l' vs') : Inv Ω η B T ρ (m.set c (.row l' ty)) w' := by
  refine h.turn (rowOf_get hr) hb (b := b) ?_ ?_ h1 h2 h3 h4 h5
  · intro F hF
    simp only [Chunk.holds] at hF
    obtain ⟨b', vs, e1, e2, e3, e4⟩ := hF
    injection e1 with e1; subst e1
    exact e4
  · intro F hF
    simp only [Chunk.holds]
    exact ⟨b, vs', rfl, h6, r, hF⟩

/-- The chunks from n on are forgotten. -/
theorem Chunk.holds_cut {h : Hd} {F : Nat → Prop} (n : Nat) : ∀ {ch : Chunk}, ch.under n = true → ch.holds Ω η ρ h F w → ch.holds Ω η (ρ.take n) h F w
  | .row cells ty, u, r => by
    simp only [Chunk.holds, Chunk.under] at *
    obtain ⟨b, vs, h1, h2, h3, h4⟩ := r
    exact ⟨b, vs, h1, h2, Rels.cut n _ _ u h3, h4⟩
  | .arr t e, _, r => by simp only [Chunk.holds] at *; exact r
  | .map e, _, r => by simp only [Chunk.holds] at *; exact r
  | .opq k e, _, r => by simp only [Chunk.holds] at *; exact r
  | .dead, _, _ => by simp only [Chunk.holds]
theorem Inv.cut (n : Nat) (hu : memUnder n m = true) (h : Inv Ω η B T ρ m w) : Inv Ω η B T (ρ.take n) (m.take n) w := by
  obtain ⟨F, f1, f2, f3⟩ := h.foot
  refine ⟨by simp [h.len], h.keep, h.ro, F, ?_, f2, f3⟩
  intro c ch hh e1 e2
  rcases Nat.lt_or_ge c n with hc | hc
  · have e1' := e1
    rw [getElem?_take_lt hc] at e1 e2
    refine Chunk.holds_cut n ?_ (f1 c ch hh e1 e2)
    unfold memUnder at hu
    rw [List.all_eq_true] at hu
    exact hu ch (List.mem_of_getElem? e1')
  · rw [List.getElem?_take] at e1; simp [Nat.not_lt.2 hc] at e1

theorem mergeMem_spec {c : E} : ∀ {m1 m2 m3 : List Chunk}, mergeMem c m1 m2 = some m3 → ∀ (i : Nat) (ch3 : Chunk), m3[i]? = some ch3 → ∃ ch1 ch2 : Chunk, m1[i]? = some ch1 ∧ m2[i]? = some ch2 ∧ mergeChunk c ch1 ch2 = some ch3
  | [], [], m3, h, i, ch3, hi => by simp only [mergeMem, Option.some.injEq] at h; subst h; simp at hi
  | [], _ :: _, m3, h, _, _, _ => by simp [mergeMem] at h
  | _ :: _, [], m3, h, _, _, _ => by simp [mergeMem] at h
  | x :: l, y :: l', m3, h, i, ch3, hi => by
    simp only [mergeMem] at h
    split at h
    · rename_i z r hz hr
      simp only [Option.some.injEq] at h; subst h
      cases i with
      | zero => simp at hi; subst hi; exact ⟨x, y, rfl, rfl, hz⟩
      | succ i => simpa using mergeMem_spec hr i ch3 (by simpa using hi)
    · cases h
theorem mergeMem_length {c : E} : ∀ {m1 m2 m3 : List Chunk}, mergeMem c m1 m2 = some m3 → m3.length = m1.length ∧ m3.length = m2.length
  | [], [], m3, h => by simp only [mergeMem, Option.some.injEq] at h; subst h; simp
  | [], _ :: _, m3, h => by simp [mergeMem] at h
  | _ :: _, [], m3, h => by simp [mergeMem] at h
  | x :: l, y :: l', m3, h => by
    simp only [mergeMem] at h
    split at h
    · rename_i z r hz hr
      simp only [Option.some.injEq] at h; subst h
      have := mergeMem_length hr
      simp; omega
    · cases h
theorem Chunk.holds_merge {c : E} {h : Hd} {F : Nat → Prop} {ch1 ch2 ch3 : Chunk} (e : mergeChunk c ch1 ch2 = some ch3)
    (hh : (if (c.den η).toB then ch1 else ch2).holds Ω η ρ h F w) : ch3.holds Ω η ρ h F w := by
  cases ch1 with
  | row l t =>
    cases ch2 with
    | row l' t' =>
      simp only [mergeChunk] at e
      split at e
      · rename_i ht
        have ht : t = t' := Nat.eq_of_beq_eq_true ht
        subst ht
        cases hmr : mergeRow c l l' with
        | none => rw [hmr] at e; cases e
        | some r =>
          rw [hmr] at e
          simp only [Option.map_some, Option.some.injEq] at e; subst e
          have hm : merges c l l' = some r := by
            unfold mergeRow at hmr
            split at hmr
            · split at hmr
              · cases hmr
              · rename_i hq _; rw [hq]; exact hmr
            · cases hmr
          by_cases hc : (c.den η).toB = true
          · rw [if_pos hc] at hh; simp only [Chunk.holds] at hh ⊢
            obtain ⟨b, vs, h1, h2, h3, h4⟩ := hh
            exact ⟨b, vs, h1, h2, Rels.merges l l' r vs hm (by rw [if_pos hc]; exact h3), h4⟩
          · rw [if_neg hc] at hh; simp only [Chunk.holds] at hh ⊢
            obtain ⟨b, vs, h1, h2, h3, h4⟩ := hh
            exact ⟨b, vs, h1, h2, Rels.merges l l' r vs hm (by rw [if_neg hc]; exact h3), h4⟩
      · cases e
    | _ => simp [mergeChunk] at e
  | arr t a =>
    cases ch2 with
    | arr t' a' =>
      simp only [mergeChunk] at e
      split at e
      · rename_i ht
        have ht := ET.eqb_eq _ _ ht
        subst ht
        simp only [Option.some.injEq] at e; subst e
        simp only [Chunk.holds, den_mkIteL]
        by_cases hc : (c.den η).toB = true
        · rw [if_pos hc] at hh ⊢; simpa only [Chunk.holds] using hh
        · rw [if_neg hc] at hh ⊢; simpa only [Chunk.holds] using hh
      · cases e
    | _ => simp [mergeChunk] at e
  | map a =>
    cases ch2 with
    | map a' =>
      simp only [mergeChunk, Option.some.injEq] at e; subst e
      simp only [Chunk.holds, den_mkIteL]
      by_cases hc : (c.den η).toB = true
      · rw [if_pos hc] at hh ⊢; simpa only [Chunk.holds] using hh
      · rw [if_neg hc] at hh ⊢; simpa only [Chunk.holds] using hh
    | _ => simp [mergeChunk] at e
  | opq k a =>
    cases ch2 with
    | opq k' a' =>
      simp only [mergeChunk] at e
      split at e
      · rename_i hk
        have hk : k = k' := Nat.eq_of_beq_eq_true hk
        subst hk
        simp only [Option.some.injEq] at e; subst e
        simp only [Chunk.holds]
        rw [den_mkIte]
        by_cases hc : (c.den η).toB = true
        · rw [if_pos hc] at hh ⊢; simpa only [Chunk.holds] using hh
        · rw [if_neg hc] at hh ⊢; simpa only [Chunk.holds] using hh
      · cases e
    | _ => simp [mergeChunk] at e
  | dead =>
    cases ch2 with
    | dead => simp only [mergeChunk, Option.some.injEq] at e; subst e; simp only [Chunk.holds]
    | _ => simp [mergeChunk] at e
theorem Inv.merge {c : E} {m1 m2 m3 : List Chunk} (e : mergeMem c m1 m2 = some m3) (h : Inv Ω η B T ρ (if (c.den η).toB then m1 else m2) w) : Inv Ω η B T ρ m3 w := by
  have hl := mergeMem_length e
  obtain ⟨F, f1, f2, f3⟩ := h.foot
  refine ⟨?_, h.keep, h.ro, F, ?_, f2, f3⟩
  · rw [h.len]; split <;> omega
  · intro i ch3 hh e1 e2
    obtain ⟨ch1, ch2, g1, g2, g3⟩ := mergeMem_spec e i ch3 e1
    refine Chunk.holds_merge g3 ?_
    by_cases hc : (c.den η).toB = true
    · rw [if_pos hc] at f1 ⊢; exact f1 i ch1 hh g1 e2
    · rw [if_neg hc] at f1 ⊢; exact f1 i ch2 hh g2 e2
end

/-! ### States -/
/-- A frame's slots and a world are as the state says. -/
structure At (Ω : Om) (η : Env) (B : World) (T : Nat → Prop) (ρ : List Hd) (s : St) (vs : List Value) (w : World) : Prop where
  inv : Inv Ω η B T ρ s.mem w
  fr : Rels η ρ s.fr vs
section
variable {Ω : Om} {η : Env} {B : World} {T : Nat → Prop} {ρ ρ0 : List Hd} {s s1 s2 s3 : St} {vs : List Value} {w : World}
theorem prefix_take {α : Type} {l l' : List α} (h : l <+: l') {n : Nat} (hn : l.length ≤ n) : l <+: l'.take n := by
  obtain ⟨r, rfl⟩ := h
  rw [List.take_append]
  exact ⟨r.take (n - l.length), by rw [List.take_of_length_le hn]⟩
theorem At.cut (n : Nat) (h : At Ω η B T ρ s vs w) (hp : ρ0 <+: ρ) (hn : ρ0.length ≤ n) : ∃ ρ', ρ0 <+: ρ' ∧ At Ω η B T ρ' (cutSt n s) vs w := by
  unfold cutSt
  split
  · rename_i hc
    simp only [Bool.and_eq_true] at hc
    exact ⟨ρ.take n, prefix_take hp hn, h.inv.cut n hc.2, Rels.cut n _ _ hc.1 h.fr⟩
  · exact ⟨ρ, hp, h⟩
theorem At.merge' {c : E} (e : mergeSt' c s1 s2 = some s3) (h : At Ω η B T ρ (if (c.den η).toB then s1 else s2) vs w) : At Ω η B T ρ s3 vs w := by
  unfold mergeSt' at e
  split at e
  · rename_i f m hf hm
    simp only [Option.some.injEq] at e; subst e
    refine ⟨Inv.merge hm ?_, Rels.merges _ _ _ _ hf ?_⟩
    · by_cases hc : (c.den η).toB = true
      · rw [if_pos hc] at h ⊢; exact h.inv
      · rw [if_neg hc] at h ⊢; exact h.inv
    · by_cases hc : (c.den η).toB = true
      · rw [if_pos hc] at h ⊢; exact h.fr
      · rw [if_neg hc] at h ⊢; exact h.fr
  · cases e
theorem At.merge {c : E} {n : Nat} (e : mergeSt n c s1 s2 = some s3) (h : At Ω η B T ρ (if (c.den η).toB then s1 else s2) vs w) (hp : ρ0 <+: ρ) (hn : ρ0.length ≤ n) :
    ∃ ρ', ρ0 <+: ρ' ∧ At Ω η B T ρ' s3 vs w := by
  unfold mergeSt at e
  split at e
  · exact ⟨ρ, hp, At.merge' e h⟩
  · by_cases hc : (c.den η).toB = true
    · rw [if_pos hc] at h
      obtain ⟨ρ', h1, h2⟩ := h.cut n hp hn
      exact ⟨ρ', h1, At.merge' e (by rw [if_pos hc]; exact h2)⟩
    · rw [if_neg hc] at h
      obtain ⟨ρ', h1, h2⟩ := h.cut n hp hn
      exact ⟨ρ', h1, At.merge' e (by rw [if_neg hc]; exact h2)⟩
end

/-! ### Trees -/
section
variable {α β : Type} {η : Env}
theorem T.holds_mono {K K' : α → Prop} (h : ∀ a, K a → K' a) : ∀ {t : T α}, t.holds η K → t.holds η K'
  | .ret a, r => h a r
  | .ite c t e, r => ⟨fun hc => T.holds_mono h (r.1 hc), fun hc => T.holds_mono h (r.2 hc)⟩
  | .asrt c t, r => ⟨r.1, T.holds_mono h r.2⟩
  | .fail _, r => r
theorem T.holds_bind {f : α → T β} {K : β → Prop} : ∀ {t : T α}, (t.bind f).holds η K → t.holds η fun a => (f a).holds η K
  | .ret _, r => r
  | .ite c t e, r => ⟨fun hc => T.holds_bind (r.1 hc), fun hc => T.holds_bind (r.2 hc)⟩
  | .asrt c t, r => ⟨r.1, T.holds_bind r.2⟩
  | .fail _, r => r
theorem T.holds_need {c : E} {t : T α} {K : α → Prop} (h : (T.need c t).holds η K) : (c.den η).toB = true ∧ t.holds η K := by
  unfold T.need at h
  split at h
  · exact ⟨rfl, h⟩
  · exact h
theorem T.holds_opt {why : String} {o : Option α} {K : α → Prop} (h : (T.opt why o).holds η K) : ∃ a, o = some a ∧ K a := by
  cases o with
  | none => exact h.elim
  | some a => exact ⟨a, rfl, h⟩

/-- 'K' asks no more of what says less. -/
def Less (n : Nat) (K : X × St → Prop) : Prop := ∀ (x : X) (c : E) (s1 s2 s3 : St), mergeSt n c s1 s2 = some s3 → K (x, s3) → K (x, if (c.den η).toB then s1 else s2)
theorem joinLeaf_holds {n : Nat} {K : X × St → Prop} (hK : Less (η := η) n K) {c : E} {x y : X × St} (h : (joinLeaf n c x y).holds η K) : (T.ite c (.ret x) (.ret y)).holds η K := by
  unfold joinLeaf at h
  split at h
  · rename_i hx
    split at h
    · rename_i s hs
      have := hK x.1 c x.2 y.2 s hs h
      refine ⟨fun hc => ?_, fun hc => ?_⟩
      · rw [if_pos hc] at this; exact this
      · rw [if_neg (by simp [hc]), hx] at this; exact this
    · exact h
  · exact h
theorem toB_ite_l {c a : E} (h : ((mkIteB c a eTrue).den η).toB = true) (hc : (c.den η).toB = true) : (a.den η).toB = true := by
  rw [den_mkIteB, if_pos hc] at h; exact h
theorem toB_ite_r {c a : E} (h : ((mkIteB c eTrue a).den η).toB = true) (hc : (c.den η).toB = false) : (a.den η).toB = true := by
  rw [den_mkIteB, if_neg (by simp [hc])] at h; exact h
theorem joinR_holds {n : Nat} {K : X × St → Prop} (hK : Less (η := η) n K) {c : E} {x : X × St} : ∀ {t : T (X × St)}, (joinR n c x t).holds η K → (T.ite c (.ret x) t).holds η K
  | .asrt a t, h => by
    simp only [joinR, T.holds] at h
    have := joinR_holds hK h.2
    exact ⟨this.1, fun hc => ⟨toB_ite_r h.1 hc, this.2 hc⟩⟩
  | .ret y, h => joinLeaf_holds hK h
  | .ite .., h => h
  | .fail _, h => h
theorem joinL_holds {n : Nat} {K : X × St → Prop} (hK : Less (η := η) n K) {c : E} {e : T (X × St)} : ∀ {t : T (X × St)}, (joinL n c t e).holds η K → (T.ite c t e).holds η K
  | .asrt a t, h => by
    simp only [joinL, T.holds] at h
    have := joinL_holds hK h.2
    exact ⟨fun hc => ⟨toB_ite_l h.1 hc, this.1 hc⟩, this.2⟩
  | .ret y, h => joinR_holds hK h
  | .ite .., h => h
  | .fail _, h => h
theorem join_holds {n : Nat} {K : X × St → Prop} (hK : Less (η := η) n K) : ∀ {t : T (X × St)}, (join n t).holds η K → t.holds η K
  | .ite c t e, h => by
    have := joinL_holds hK h
    exact ⟨fun hc => join_holds hK (this.1 hc), fun hc => join_holds hK (this.2 hc)⟩
  | .asrt a t, h => ⟨h.1, join_holds hK h.2⟩
  | .ret _, h => h
  | .fail _, h => h
end

/-! ### Renumbered -/
section
variable {η : Env} {ρ ρ2 : List Hd} {τ : Nat → Nat} {p : Nat → Bool}
mutual
theorem Rel.mapR (hτ : ∀ (c : Nat) (h : Hd), p c = true → ρ[c]? = some h → ρ2[τ c]? = some h) : ∀ (x : SV) (v : Value), x.allC p = true → Rel η ρ x v → Rel η ρ2 (x.mapR τ id) v
  | .top, _, _, _ => by simp only [SV.mapR, Rel]
  | .unk, _, _, r => by simp only [SV.mapR, Rel] at *; exact r
  | .int .., _, _, r => by simp only [SV.mapR, Rel, id] at *; exact r
  | .bool _, _, _, r => by simp only [SV.mapR, Rel, id] at *; exact r
  | .str _, _, _, r => by simp only [SV.mapR, Rel, id] at *; exact r
  | .nil, _, _, r => by simp only [SV.mapR, Rel] at *; exact r
  | .ptr .., _, q, r => by simp only [SV.mapR, Rel, SV.allC] at *; obtain ⟨b, h1, h2⟩ := r; exact ⟨b, hτ _ _ q h1, h2⟩
  | .snil, _, _, r => by simp only [SV.mapR, Rel] at *; exact r
  | .slice .., _, q, r => by simp only [SV.mapR, Rel, SV.allC] at *; obtain ⟨b, h1, h2⟩ := r; exact ⟨b, hτ _ _ q h1, h2⟩
  | .asl .., _, q, r => by
    simp only [SV.mapR, Rel, SV.allC, id] at *
    split
    · rename_i hn
      rw [if_pos hn] at r
      obtain ⟨b, o, n, off', l, cap, h1, h2⟩ := r
      exact ⟨b, o, n, off', l, cap, hτ _ _ q h1, h2⟩
    · rename_i hn
      rw [if_neg hn] at r
      exact r
  | .eptr .., _, q, r => by simp only [SV.mapR, Rel, SV.allC, id] at *; obtain ⟨b, o, n, k, h1, h2⟩ := r; exact ⟨b, o, n, k, hτ _ _ q h1, h2⟩
  | .rsl .., _, _, r => by simp only [SV.mapR, Rel, id] at *; exact r
  | .rptr .., _, _, r => by simp only [SV.mapR, Rel, id] at *; exact r
  | .hnd _, _, q, r => by simp only [SV.mapR, Rel, SV.allC] at *; exact ⟨hτ _ _ q r.1, r.2⟩
  | .fn _, _, _, r => by simp only [SV.mapR, Rel] at *; exact r
  | .clo _ l, _, q, r => by simp only [SV.mapR, Rel, SV.allC] at *; obtain ⟨vs, h1, h2⟩ := r; exact ⟨vs, h1, Rels.mapR hτ l vs q h2⟩
  | .agg l, _, q, r => by simp only [SV.mapR, Rel, SV.allC] at *; obtain ⟨vs, h1, h2⟩ := r; exact ⟨vs, h1, Rels.mapR hτ l vs q h2⟩
  | .tup l, _, q, r => by simp only [SV.mapR, Rel, SV.allC] at *; obtain ⟨vs, h1, h2⟩ := r; exact ⟨vs, h1, Rels.mapR hτ l vs q h2⟩
theorem Rels.mapR (hτ : ∀ (c : Nat) (h : Hd), p c = true → ρ[c]? = some h → ρ2[τ c]? = some h) : ∀ (l : List SV) (vs : List Value), SV.allCs p l = true → Rels η ρ l vs → Rels η ρ2 (SV.mapRs τ id l) vs
  | [], _, _, r => by simp only [SV.mapRs, Rels] at *; exact r
  | x :: l, _, q, r => by
    simp only [SV.mapRs, Rels, SV.allCs, Bool.and_eq_true] at *
    obtain ⟨v, t, h1, h2, h3⟩ := r
    exact ⟨v, t, h1, Rel.mapR hτ x v q.1 h2, Rels.mapR hτ l t q.2 h3⟩
end
theorem Chunk.holds_mapR {Ω : Om} {h : Hd} {F : Nat → Prop} {w : World} (hτ : ∀ (c : Nat) (h : Hd), p c = true → ρ[c]? = some h → ρ2[τ c]? = some h) : ∀ {ch : Chunk}, ch.allC p = true → ch.holds Ω η ρ h F w → (ch.mapR τ id).holds Ω η ρ2 h F w
  | .row cells ty, q, r => by
    simp only [Chunk.mapR, Chunk.holds, Chunk.allC] at *
    obtain ⟨b, vs, h1, h2, h3, h4⟩ := r
    exact ⟨b, vs, h1, h2, Rels.mapR hτ _ _ q h3, h4⟩
  | .arr t e, _, r => by simp only [Chunk.mapR, Chunk.holds, id] at *; exact r
  | .map e, _, r => by simp only [Chunk.mapR, Chunk.holds, id] at *; exact r
  | .opq k e, _, r => by simp only [Chunk.mapR, Chunk.holds, id] at *; exact r
  | .dead, _, _ => by simp only [Chunk.mapR, Chunk.holds]
theorem prefix_of_get {α : Type} {l l' : List α} (h : ∀ i, i < l.length → l'[i]? = l[i]?) : l <+: l' := by
  have : l = l'.take l.length := by
    apply List.ext_getElem?
    intro i
    rw [List.getElem?_take]
    split
    · rename_i hi; exact (h i hi).symm
    · rename_i hi; exact List.getElem?_eq_none (by omega)
  rw [this]; exact List.take_prefix _ _
theorem At.canon {Ω : Om} {B : World} {T : Nat → Prop} {ρ0 : List Hd} {s : St} {vs : List Value} {w : World} (n : Nat) (h : At Ω η B T ρ s vs w) (hp : ρ0 <+: ρ) (hn : ρ0.length ≤ n) :
    ∃ ρ', ρ0 <+: ρ' ∧ At Ω η B T ρ' (canon n s) vs w := by
  unfold Sy.canon
  split
  · exact ⟨ρ, hp, h⟩
  generalize bfs s.mem s.mem.length 0 (SV.refss (List.range n) s.fr) = π
  simp only
  split
  · rename_i hc
    unfold canonOk at hc
    simp only [Bool.and_eq_true, List.all_eq_true] at hc
    obtain ⟨⟨c1, c2⟩, c3⟩ := hc
    have hlen := h.inv.len
    have k1 : ∀ i, i < n → π[i]? = some i := by
      intro i hi
      have := c1 i (List.mem_range.2 hi)
      split at this
      · rename_i c hc; rw [hc, Nat.eq_of_beq_eq_true this]
      · cases this
    have k2 : ∀ (i c : Nat), π[i]? = some c → posOf c 0 π = i ∧ ∃ ch, s.mem[c]? = some ch ∧ ch.allC (fun d => match π[posOf d 0 π]? with | some d' => Nat.beq d' d | none => false) = true := by
      intro i c hi
      have := c2 i (List.mem_range.2 (List.getElem?_eq_some_iff.1 hi).1)
      rw [hi] at this
      simp only [Bool.and_eq_true] at this
      refine ⟨Nat.eq_of_beq_eq_true this.1, ?_⟩
      have h2 := this.2
      split at h2
      · rename_i ch hch; exact ⟨ch, hch, h2⟩
      · cases h2
    let ρ' : List Hd := π.map fun c => (ρ[c]?).getD .none
    have hτ : ∀ (c : Nat) (hd : Hd), (match π[posOf c 0 π]? with | some d' => Nat.beq d' c | none => false) = true → ρ[c]? = some hd → ρ'[posOf c 0 π]? = some hd := by
      intro c hd hcc hr
      split at hcc
      · rename_i d hd'
        have := Nat.eq_of_beq_eq_true hcc; subst this
        simp [ρ', List.getElem?_map, hd', hr]
      · cases hcc
    obtain ⟨F, f1, f2, f3⟩ := h.inv.foot
    refine ⟨ρ', prefix_of_get fun i hi => ?_, ⟨?_, h.inv.keep, h.inv.ro, fun i x => ∃ c, π[i]? = some c ∧ F c x, ?_, ?_, ?_⟩, ?_⟩
    · have hil : i < ρ.length := Nat.lt_of_lt_of_le hi hp.length_le
      have e := getElem?_prefix hp (List.getElem?_eq_getElem hi)
      simp [ρ', List.getElem?_map, k1 i (by omega), e, List.getElem?_eq_getElem hi]
    · simp [ρ', canonAt]
    · intro i ch hd e1 e2
      simp only [canonAt, List.getElem?_map] at e1
      cases hi : π[i]? with
      | none => rw [hi] at e1; cases e1
      | some c =>
        rw [hi] at e1
        simp only [Option.map_some, Option.some.injEq] at e1
        obtain ⟨_, ch0, g1, g2⟩ := k2 i c hi
        have hm : s.mem.getD c .dead = ch0 := by rw [List.getD_eq_getElem?_getD, g1]; rfl
        rw [hm] at e1; subst e1
        have hcl : c < ρ.length := by rw [hlen]; exact (List.getElem?_eq_some_iff.1 g1).1
        have hd' : ρ[c]? = some hd := by
          simp only [ρ', List.getElem?_map, hi, Option.map_some, Option.some.injEq] at e2
          rw [List.getElem?_eq_getElem hcl] at e2 ⊢
          simpa using e2
        have hF : ((fun i x => ∃ c, π[i]? = some c ∧ F c x) : Nat → Nat → Prop) i = F c := by
          funext x; apply propext
          exact ⟨fun ⟨c', e, hx⟩ => by rw [hi] at e; injection e with e; subst e; exact hx, fun hx => ⟨c, hi, hx⟩⟩
        rw [hF]
        exact Chunk.holds_mapR hτ g2 (f1 c ch0 hd g1 hd')
    · rintro i j x ⟨c, h1, h2⟩ ⟨c', h1', h2'⟩
      have := f2 _ _ _ h2 h2'; subst this
      rw [← (k2 i c h1).1, ← (k2 j c h1').1]
    · rintro i x ⟨c, h1, h2⟩
      exact f3 c x h2
    · exact Rels.mapR hτ _ _ c3 h.fr
  · exact ⟨ρ, hp, h⟩
end
end Go.Sy
