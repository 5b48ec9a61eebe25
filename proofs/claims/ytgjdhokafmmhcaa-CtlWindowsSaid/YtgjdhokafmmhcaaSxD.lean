/- The symbolic executor, fourth part: where ways meet; memory. Own work of this session. -/
import Derived.Test.YtgjdhokafmmhcaaSxC
set_option linter.unusedVariables false
namespace Go.Sx
section
variable {η : Nat → D} {ρ ρ' : List Hd}

theorem if_rel {c : Prop} [Decidable c] {x y : SV} {v : Value} (h : Rel η ρ (if c then x else y) v) : (c → Rel η ρ x v) ∧ (¬ c → Rel η ρ y v) := by
  by_cases hc : c
  · rw [if_pos hc] at h; exact ⟨fun _ => h, fun h' => absurd hc h'⟩
  · rw [if_neg hc] at h; exact ⟨fun h' => absurd h' hc, fun _ => h⟩

mutual
theorem Rel.merge {c : E} : ∀ (x y : SV) (v : Value), Rel η ρ (if (c.den η).toB then x else y) v → Rel η ρ (merge c x y) v
  | .int k a, y, v, h => by
    cases y with
    | int k' b =>
      simp only [Sx.merge, mergeK]
      split
      · rename_i hk; subst hk
        simp only [Rel]
        rw [den_mkIteI]
        by_cases hc : (c.den η).toB = true
        · rw [if_pos hc] at h; rw [if_pos hc]; simpa only [Rel] using h
        · rw [if_neg hc] at h; rw [if_neg hc]; simpa only [Rel] using h
      · simp only [Rel]
        by_cases hc : (c.den η).toB = true
        · rw [if_pos hc] at h; simp only [Rel] at h; subst h; rfl
        · rw [if_neg hc] at h; simp only [Rel] at h; subst h; rfl
    | _ => exact Rel.merge_fall h
  | .bool a, y, v, h => by
    cases y with
    | bool b =>
      simp only [Sx.merge, Rel]
      rw [den_mkIteB]
      by_cases hc : (c.den η).toB = true
      · rw [if_pos hc] at h; rw [if_pos hc]; simpa only [Rel] using h
      · rw [if_neg hc] at h; rw [if_neg hc]; simpa only [Rel] using h
    | _ => exact Rel.merge_fall h
  | .str a, y, v, h => by
    cases y with
    | str b =>
      simp only [Sx.merge, Rel]
      rw [den_mkIteS]
      by_cases hc : (c.den η).toB = true
      · rw [if_pos hc] at h; rw [if_pos hc]; simpa only [Rel] using h
      · rw [if_neg hc] at h; rw [if_neg hc]; simpa only [Rel] using h
    | _ => exact Rel.merge_fall h
  | .agg l, y, v, h => by
    cases y with
    | agg l' =>
      simp only [Sx.merge]
      split
      · rename_i r hr
        by_cases hc : (c.den η).toB = true
        · rw [if_pos hc] at h; simp only [Rel] at h ⊢
          obtain ⟨vs, rfl, h2⟩ := h
          exact ⟨vs, rfl, Rels.merges l l' r vs hr (by rw [if_pos hc]; exact h2)⟩
        · rw [if_neg hc] at h; simp only [Rel] at h ⊢
          obtain ⟨vs, rfl, h2⟩ := h
          exact ⟨vs, rfl, Rels.merges l l' r vs hr (by rw [if_neg hc]; exact h2)⟩
      · simp only [Rel]
    | _ => exact Rel.merge_fall h
  | .tup l, y, v, h => by
    cases y with
    | tup l' =>
      simp only [Sx.merge]
      split
      · rename_i r hr
        by_cases hc : (c.den η).toB = true
        · rw [if_pos hc] at h; simp only [Rel] at h ⊢
          obtain ⟨vs, rfl, h2⟩ := h
          exact ⟨vs, rfl, Rels.merges l l' r vs hr (by rw [if_pos hc]; exact h2)⟩
        · rw [if_neg hc] at h; simp only [Rel] at h ⊢
          obtain ⟨vs, rfl, h2⟩ := h
          exact ⟨vs, rfl, Rels.merges l l' r vs hr (by rw [if_neg hc]; exact h2)⟩
      · simp only [Rel]
    | _ => exact Rel.merge_fall h
  | .top, y, v, h => by cases y <;> exact Rel.merge_fall h
  | .unk, y, v, h => by cases y <;> exact Rel.merge_fall h
  | .nil, y, v, h => by cases y <;> exact Rel.merge_fall h
  | .ptr .., y, v, h => by cases y <;> exact Rel.merge_fall h
  | .snil, y, v, h => by cases y <;> exact Rel.merge_fall h
  | .slice .., y, v, h => by cases y <;> exact Rel.merge_fall h
  | .hnd _, y, v, h => by cases y <;> exact Rel.merge_fall h
  | .fn _, y, v, h => by cases y <;> exact Rel.merge_fall h
  | .clo .., y, v, h => by cases y <;> exact Rel.merge_fall h
theorem Rels.merges {c : E} : ∀ (l l' r : List SV) (vs : List Value), merges c l l' = some r → Rels η ρ (if (c.den η).toB then l else l') vs → Rels η ρ r vs
  | [], l', r, vs, e, h => by
    cases l' with
    | nil => simp only [Sx.merges, Option.some.injEq] at e; subst e; simpa using h
    | cons y l' => simp [Sx.merges] at e
  | x :: l, l', r, vs, e, h => by
    cases l' with
    | nil => simp [Sx.merges] at e
    | cons y l' =>
      simp only [Sx.merges] at e
      split at e
      · rename_i r' hr
        simp only [Option.some.injEq] at e; subst e
        by_cases hc : (c.den η).toB = true
        · rw [if_pos hc] at h; simp only [Rels] at h ⊢
          obtain ⟨v, t, rfl, h2, h3⟩ := h
          exact ⟨v, t, rfl, Rel.merge x y v (by rw [if_pos hc]; exact h2), Rels.merges l l' r' t hr (by rw [if_pos hc]; exact h3)⟩
        · rw [if_neg hc] at h; simp only [Rels] at h ⊢
          obtain ⟨v, t, rfl, h2, h3⟩ := h
          exact ⟨v, t, rfl, Rel.merge x y v (by rw [if_neg hc]; exact h2), Rels.merges l l' r' t hr (by rw [if_neg hc]; exact h3)⟩
      · cases e
end

/-! ### Memory -/
/-- What the objects that are told by their contents alone are: 'kind', contents, handle, the blocks they own. -/
structure Om where
  is : Nat → D → Hd → (Nat → Prop) → World → Prop
  loc : ∀ k d h F w w', is k d h F w → (∀ x, F x → w'.heap[x]? = w.heap[x]?) → is k d h F w'
def Om.none : Om := ⟨fun _ _ _ _ _ => False, fun _ _ _ _ _ _ h _ => h⟩

def Chunk.holds (Ω : Om) (η : Nat → D) (ρ : List Hd) (h : Hd) (F : Nat → Prop) (w : World) : Chunk → Prop
  | .row cells ty => ∃ b vs, h = .blk b ∧ w.heap[b]? = some (.cells ⟨vs⟩ ty (0, 0)) ∧ Rels η ρ cells vs ∧ ∀ x, F x ↔ x = b
  | .opq k e => Ω.is k (e.den η) h F w
  | .dead => True

variable {Ω : Om}
theorem Chunk.holds_mono {h : Hd} {F : Nat → Prop} {w w' : World} (hρ : ρ <+: ρ') (hw : ∀ x, F x → w'.heap[x]? = w.heap[x]?) : ∀ {ch : Chunk}, ch.holds Ω η ρ h F w → ch.holds Ω η ρ' h F w'
  | .row cells ty, r => by
    simp only [Chunk.holds] at *
    obtain ⟨b, vs, h1, h2, h3, h4⟩ := r
    exact ⟨b, vs, h1, by rw [hw b ((h4 b).2 rfl)]; exact h2, Rels.mono hρ _ _ h3, h4⟩
  | .opq k e, r => by simp only [Chunk.holds] at *; exact Ω.loc _ _ _ _ _ _ r hw
  | .dead, _ => by simp only [Chunk.holds]

/-- But for the blocks of T, what stood in B stands. -/
structure Keep (B : World) (T : Nat → Prop) (w : World) : Prop where
  os : w.os = B.os
  tape : w.tape = B.tape
  output : w.output = B.output
  size : B.heap.size ≤ w.heap.size
  block : ∀ k, k < B.heap.size → ¬ T k → w.heap[k]? = B.heap[k]?
theorem Keep.refl (B : World) (T : Nat → Prop) : Keep B T B := ⟨rfl, rfl, rfl, Nat.le_refl _, fun _ _ _ => rfl⟩

structure Inv (Ω : Om) (η : Nat → D) (B : World) (T : Nat → Prop) (ρ : List Hd) (m : List Chunk) (w : World) : Prop where
  len : ρ.length = m.length
  keep : Keep B T w
  foot : ∃ F : Nat → Nat → Prop, (∀ (c : Nat) (ch : Chunk) (h : Hd), m[c]? = some ch → ρ[c]? = some h → ch.holds Ω η ρ h (F c) w) ∧
    (∀ c c' x, F c x → F c' x → c = c') ∧ (∀ c x, F c x → x < w.heap.size ∧ (T x ∨ B.heap.size ≤ x))

variable {B : World} {T : Nat → Prop} {m : List Chunk} {w w' : World}

/-- The world has moved on where nobody looks. -/
theorem Inv.step (h : Inv Ω η B T ρ m w) (h1 : w'.os = w.os) (h2 : w'.tape = w.tape) (h3 : w'.output = w.output) (h4 : w.heap.size ≤ w'.heap.size)
    (h5 : ∀ k, k < w.heap.size → w'.heap[k]? = w.heap[k]?) : Inv Ω η B T ρ m w' := by
  obtain ⟨F, f1, f2, f3⟩ := h.foot
  have kk := h.keep
  refine ⟨h.len, ⟨h1.trans kk.os, h2.trans kk.tape, h3.trans kk.output, Nat.le_trans kk.size h4, fun k hk ht => (h5 k (Nat.lt_of_lt_of_le hk kk.size)).trans (kk.block k hk ht)⟩, F, ?_, f2, ?_⟩
  · exact fun c ch hh e1 e2 => Chunk.holds_mono (List.prefix_refl _) (fun x hx => h5 x (f3 c x hx).1) (f1 c ch hh e1 e2)
  · exact fun c x hx => ⟨Nat.lt_of_lt_of_le (f3 c x hx).1 h4, (f3 c x hx).2⟩
theorem Inv.drawn (h : Inv Ω η B T ρ m w) (n : Nat) : Inv Ω η B T ρ m { w with drawn := n } :=
  h.step rfl rfl rfl (Nat.le_refl _) (fun _ _ => rfl)

theorem getElem?_snoc {α : Type} {l : List α} {x : α} {i : Nat} {y : α} (h : (l ++ [x])[i]? = some y) : (i < l.length ∧ l[i]? = some y) ∨ (i = l.length ∧ y = x) := by
  rcases Nat.lt_or_ge i l.length with hi | hi
  · left; rw [List.getElem?_append_left hi] at h; exact ⟨hi, h⟩
  · right
    rw [List.getElem?_append_right hi] at h
    have : i - l.length = 0 := by
      rcases Nat.eq_zero_or_pos (i - l.length) with h0 | h0
      · exact h0
      · rw [List.getElem?_eq_none (by simp; omega)] at h; cases h
    rw [this] at h
    simp at h
    exact ⟨by omega, h.symm⟩

theorem Inv.alloc (h : Inv Ω η B T ρ m w) {l : List SV} {vs : List Value} (ty : TypeId) (r : Rels η ρ l vs) :
    Inv Ω η B T (ρ ++ [.blk w.heap.size]) (m ++ [.row l ty]) (w.alloc (.cells ⟨vs⟩ ty)) := by
  obtain ⟨F, f1, f2, f3⟩ := h.foot
  have kk := h.keep
  have hold : ∀ k, k < w.heap.size → (w.alloc (.cells ⟨vs⟩ ty)).heap[k]? = w.heap[k]? := fun k hk => RowKit.Below.heap_alloc _ _ _ hk
  refine ⟨by simp [h.len], ⟨kk.os, kk.tape, kk.output, by simp; exact Nat.le_trans kk.size (Nat.le_succ _), fun k hk ht => (hold k (Nat.lt_of_lt_of_le hk kk.size)).trans (kk.block k hk ht)⟩,
    fun c x => if c = m.length then x = w.heap.size else F c x, ?_, ?_, ?_⟩
  · intro c ch hh e1 e2
    rcases getElem?_snoc e1 with ⟨hc, e1⟩ | ⟨hc, rfl⟩
    · have hne : c ≠ m.length := by omega
      rcases getElem?_snoc e2 with ⟨_, e2⟩ | ⟨hc', _⟩
      · simp only [hne, if_false]
        exact Chunk.holds_mono (List.prefix_append _ _) (fun x hx => hold x (f3 c x hx).1) (f1 c ch hh e1 e2)
      · rw [h.len] at hc'; exact absurd hc' hne
    · subst hc
      rcases getElem?_snoc e2 with ⟨hc', _⟩ | ⟨_, rfl⟩
      · rw [h.len] at hc'; omega
      · simp only [Chunk.holds]
        exact ⟨w.heap.size, vs, rfl, (by show (w.heap.push _)[w.heap.size]? = _; simp), Rels.mono (List.prefix_append _ _) _ _ r, fun x => by simp⟩
  · intro c c' x hx hx'
    by_cases hc : c = m.length <;> by_cases hc' : c' = m.length
    · omega
    · simp only [hc, if_true, hc', if_false] at hx hx'
      have := (f3 c' x hx').1; omega
    · simp only [hc, if_false, hc', if_true] at hx hx'
      have := (f3 c x hx).1; omega
    · simp only [hc, if_false, hc'] at hx hx'
      exact f2 c c' x hx hx'
  · intro c x hx
    by_cases hc : c = m.length
    · simp only [hc, if_true] at hx
      subst hx
      exact ⟨by simp, .inr kk.size⟩
    · simp only [hc, if_false] at hx
      exact ⟨by simp; exact Nat.lt_succ_of_lt (f3 c x hx).1, (f3 c x hx).2⟩

/-- What a row's chunk says. -/
theorem Inv.row (h : Inv Ω η B T ρ m w) {c : Nat} {l : List SV} {ty : TypeId} (hr : rowOf m c = some (l, ty)) {b : Nat} (hb : ρ[c]? = some (.blk b)) :
    ∃ vs, w.heap[b]? = some (.cells ⟨vs⟩ ty (0, 0)) ∧ Rels η ρ l vs := by
  obtain ⟨F, f1, _, _⟩ := h.foot
  unfold rowOf at hr
  split at hr
  · rename_i l' t' hm
    simp only [Option.some.injEq, Prod.mk.injEq] at hr
    obtain ⟨rfl, rfl⟩ := hr
    have := f1 c _ _ hm hb
    simp only [Chunk.holds] at this
    obtain ⟨b', vs, h1, h2, h3, _⟩ := this
    injection h1 with h1; subst h1
    exact ⟨vs, h2, h3⟩
  · cases hr
theorem rowOf_get {c : Nat} {l : List SV} {ty : TypeId} (hr : rowOf m c = some (l, ty)) : m[c]? = some (.row l ty) := by
  unfold rowOf at hr
  split at hr
  · rename_i l' t' hm
    simp only [Option.some.injEq, Prod.mk.injEq] at hr
    obtain ⟨rfl, rfl⟩ := hr
    exact hm
  · cases hr

theorem cell_of_row {b : Nat} {vs : List Value} {ty : TypeId} (h : w.heap[b]? = some (.cells ⟨vs⟩ ty (0, 0))) (o : Nat) : w.cell? ⟨b, o, none⟩ = vs[o]? := by
  simp [World.cell?, h]
theorem frozen_of_row {b : Nat} {vs : List Value} {ty : TypeId} (h : w.heap[b]? = some (.cells ⟨vs⟩ ty (0, 0))) (o : Nat) : w.frozen? ⟨b, o, none⟩ = false := by
  simp [World.frozen?, h]

/-- A row is written anew. -/
theorem Inv.write (h : Inv Ω η B T ρ m w) {c : Nat} {l l' : List SV} {ty : TypeId} (hr : rowOf m c = some (l, ty)) {b : Nat} (hb : ρ[c]? = some (.blk b)) {vs' : List Value}
    (h1 : w'.os = w.os) (h2 : w'.tape = w.tape) (h3 : w'.output = w.output) (h4 : w'.heap.size = w.heap.size)
    (h5 : ∀ k, k ≠ b → w'.heap[k]? = w.heap[k]?) (h6 : w'.heap[b]? = some (.cells ⟨vs'⟩ ty (0, 0))) (r : Rels η ρ l' vs') : Inv Ω η B T ρ (m.set c (.row l' ty)) w' := by
  obtain ⟨F, f1, f2, f3⟩ := h.foot
  have kk := h.keep
  have hm := rowOf_get hr
  have hc := f1 c _ _ hm hb
  simp only [Chunk.holds] at hc
  obtain ⟨b', vs, e1, e2, e3, e4⟩ := hc
  injection e1 with e1; subst e1
  have hF : F c b := (e4 b).2 rfl
  have hT := (f3 c b hF)
  refine ⟨by simp [h.len], ⟨h1.trans kk.os, h2.trans kk.tape, h3.trans kk.output, by rw [h4]; exact kk.size, fun k hk ht => ?_⟩, F, ?_, f2, fun c x hx => by rw [h4]; exact f3 c x hx⟩
  · have : k ≠ b := by
      rintro rfl
      rcases hT.2 with h' | h'
      · exact ht h'
      · omega
    rw [h5 k this]; exact kk.block k hk ht
  · intro d ch hh e1' e2'
    by_cases hd : d = c
    · subst hd
      have hlt : d < m.length := (List.getElem?_eq_some_iff.1 hm).1
      rw [List.getElem?_set_self hlt] at e1'
      simp only [Option.some.injEq] at e1'; subst e1'
      have : hh = .blk b := by rw [hb] at e2'; injection e2' with e; exact e.symm
      subst this
      simp only [Chunk.holds]
      exact ⟨b, vs', rfl, h6, r, e4⟩
    · rw [List.getElem?_set_ne (Ne.symm hd)] at e1'
      refine Chunk.holds_mono (List.prefix_refl _) (fun x hx => h5 x ?_) (f1 d ch hh e1' e2')
      rintro rfl
      exact hd (f2 d c _ hx hF)

/-- The chunks from n on are forgotten. -/
theorem Chunk.holds_cut {h : Hd} {F : Nat → Prop} (n : Nat) : ∀ {ch : Chunk}, ch.under n = true → ch.holds Ω η ρ h F w → ch.holds Ω η (ρ.take n) h F w
  | .row cells ty, u, r => by
    simp only [Chunk.holds, Chunk.under] at *
    obtain ⟨b, vs, h1, h2, h3, h4⟩ := r
    exact ⟨b, vs, h1, h2, Rels.cut n _ _ u h3, h4⟩
  | .opq k e, _, r => by simp only [Chunk.holds] at *; exact r
  | .dead, _, _ => by simp only [Chunk.holds]
theorem Inv.cut (n : Nat) (hu : memUnder n m = true) (h : Inv Ω η B T ρ m w) : Inv Ω η B T (ρ.take n) (m.take n) w := by
  obtain ⟨F, f1, f2, f3⟩ := h.foot
  refine ⟨by simp [h.len], h.keep, F, ?_, f2, f3⟩
  intro c ch hh e1 e2
  rcases Nat.lt_or_ge c n with hc | hc
  · have e1' := e1
    rw [getElem?_take_lt hc] at e1 e2
    refine Chunk.holds_cut n ?_ (f1 c ch hh e1 e2)
    unfold memUnder at hu
    rw [List.all_eq_true] at hu
    exact hu ch (List.mem_of_getElem? e1')
  · rw [List.getElem?_take] at e1; simp [Nat.not_lt.2 hc] at e1

theorem mergeMem_spec {c : E} : ∀ {m1 m2 m3 : List Chunk}, mergeMem c m1 m2 = some m3 → ∀ (i : Nat) (ch3 : Chunk), m3[i]? = some ch3 → ∃ ch1 ch2 : Chunk, m1[i]? = some ch1 ∧ m2[i]? = some ch2 ∧ mergeChunk c ch1 ch2 = some ch3
  | [], [], m3, h, i, ch3, hi => by simp only [mergeMem, Option.some.injEq] at h; subst h; simp at hi
  | [], _ :: _, m3, h, _, _, _ => by simp [mergeMem] at h
  | _ :: _, [], m3, h, _, _, _ => by simp [mergeMem] at h
  | x :: l, y :: l', m3, h, i, ch3, hi => by
    simp only [mergeMem] at h
    split at h
    · rename_i z r hz hr
      simp only [Option.some.injEq] at h; subst h
      cases i with
      | zero => simp at hi; subst hi; exact ⟨x, y, rfl, rfl, hz⟩
      | succ i => simpa using mergeMem_spec hr i ch3 (by simpa using hi)
    · cases h
theorem mergeMem_length {c : E} : ∀ {m1 m2 m3 : List Chunk}, mergeMem c m1 m2 = some m3 → m3.length = m1.length ∧ m3.length = m2.length
  | [], [], m3, h => by simp only [mergeMem, Option.some.injEq] at h; subst h; simp
  | [], _ :: _, m3, h => by simp [mergeMem] at h
  | _ :: _, [], m3, h => by simp [mergeMem] at h
  | x :: l, y :: l', m3, h => by
    simp only [mergeMem] at h
    split at h
    · rename_i z r hz hr
      simp only [Option.some.injEq] at h; subst h
      have := mergeMem_length hr
      simp; omega
    · cases h
theorem Chunk.holds_merge {c : E} {h : Hd} {F : Nat → Prop} {ch1 ch2 ch3 : Chunk} (e : mergeChunk c ch1 ch2 = some ch3)
    (hh : (if (c.den η).toB then ch1 else ch2).holds Ω η ρ h F w) : ch3.holds Ω η ρ h F w := by
  cases ch1 with
  | row l t =>
    cases ch2 with
    | row l' t' =>
      simp only [mergeChunk] at e
      split at e
      · rename_i ht
        have ht : t = t' := Nat.eq_of_beq_eq_true ht
        subst ht
        cases hm : merges c l l' with
        | none => rw [hm] at e; cases e
        | some r =>
          rw [hm] at e
          simp only [Option.map_some, Option.some.injEq] at e; subst e
          by_cases hc : (c.den η).toB = true
          · rw [if_pos hc] at hh; simp only [Chunk.holds] at hh ⊢
            obtain ⟨b, vs, h1, h2, h3, h4⟩ := hh
            exact ⟨b, vs, h1, h2, Rels.merges l l' r vs hm (by rw [if_pos hc]; exact h3), h4⟩
          · rw [if_neg hc] at hh; simp only [Chunk.holds] at hh ⊢
            obtain ⟨b, vs, h1, h2, h3, h4⟩ := hh
            exact ⟨b, vs, h1, h2, Rels.merges l l' r vs hm (by rw [if_neg hc]; exact h3), h4⟩
      · cases e
    | _ => simp [mergeChunk] at e
  | opq k a =>
    cases ch2 with
    | opq k' a' =>
      simp only [mergeChunk] at e
      split at e
      · rename_i hk
        have hk : k = k' := Nat.eq_of_beq_eq_true hk
        subst hk
        simp only [Option.some.injEq] at e; subst e
        simp only [Chunk.holds]
        rw [den_mkIte]
        by_cases hc : (c.den η).toB = true
        · rw [if_pos hc] at hh ⊢; simpa only [Chunk.holds] using hh
        · rw [if_neg hc] at hh ⊢; simpa only [Chunk.holds] using hh
      · cases e
    | _ => simp [mergeChunk] at e
  | dead =>
    cases ch2 with
    | dead => simp only [mergeChunk, Option.some.injEq] at e; subst e; simp only [Chunk.holds]
    | _ => simp [mergeChunk] at e
theorem Inv.merge {c : E} {m1 m2 m3 : List Chunk} (e : mergeMem c m1 m2 = some m3) (h : Inv Ω η B T ρ (if (c.den η).toB then m1 else m2) w) : Inv Ω η B T ρ m3 w := by
  have hl := mergeMem_length e
  obtain ⟨F, f1, f2, f3⟩ := h.foot
  refine ⟨?_, h.keep, F, ?_, f2, f3⟩
  · rw [h.len]; split <;> omega
  · intro i ch3 hh e1 e2
    obtain ⟨ch1, ch2, g1, g2, g3⟩ := mergeMem_spec e i ch3 e1
    refine Chunk.holds_merge g3 ?_
    by_cases hc : (c.den η).toB = true
    · rw [if_pos hc] at f1 ⊢; exact f1 i ch1 hh g1 e2
    · rw [if_neg hc] at f1 ⊢; exact f1 i ch2 hh g2 e2
end

/-! ### States -/
/-- A frame's slots and a world are as the state says. -/
structure At (Ω : Om) (η : Nat → D) (B : World) (T : Nat → Prop) (ρ : List Hd) (s : St) (vs : List Value) (w : World) : Prop where
  inv : Inv Ω η B T ρ s.mem w
  fr : Rels η ρ s.fr vs
section
variable {Ω : Om} {η : Nat → D} {B : World} {T : Nat → Prop} {ρ ρ0 : List Hd} {s s1 s2 s3 : St} {vs : List Value} {w : World}
theorem prefix_take {α : Type} {l l' : List α} (h : l <+: l') {n : Nat} (hn : l.length ≤ n) : l <+: l'.take n := by
  obtain ⟨r, rfl⟩ := h
  rw [List.take_append]
  exact ⟨r.take (n - l.length), by rw [List.take_of_length_le hn]⟩
theorem At.cut (n : Nat) (h : At Ω η B T ρ s vs w) (hp : ρ0 <+: ρ) (hn : ρ0.length ≤ n) : ∃ ρ', ρ0 <+: ρ' ∧ At Ω η B T ρ' (cutSt n s) vs w := by
  unfold cutSt
  split
  · rename_i hc
    simp only [Bool.and_eq_true] at hc
    exact ⟨ρ.take n, prefix_take hp hn, h.inv.cut n hc.2, Rels.cut n _ _ hc.1 h.fr⟩
  · exact ⟨ρ, hp, h⟩
theorem At.merge' {c : E} (e : mergeSt' c s1 s2 = some s3) (h : At Ω η B T ρ (if (c.den η).toB then s1 else s2) vs w) : At Ω η B T ρ s3 vs w := by
  unfold mergeSt' at e
  split at e
  · rename_i f m hf hm
    simp only [Option.some.injEq] at e; subst e
    refine ⟨Inv.merge hm ?_, Rels.merges _ _ _ _ hf ?_⟩
    · by_cases hc : (c.den η).toB = true
      · rw [if_pos hc] at h ⊢; exact h.inv
      · rw [if_neg hc] at h ⊢; exact h.inv
    · by_cases hc : (c.den η).toB = true
      · rw [if_pos hc] at h ⊢; exact h.fr
      · rw [if_neg hc] at h ⊢; exact h.fr
  · cases e
theorem At.merge {c : E} {n : Nat} (e : mergeSt n c s1 s2 = some s3) (h : At Ω η B T ρ (if (c.den η).toB then s1 else s2) vs w) (hp : ρ0 <+: ρ) (hn : ρ0.length ≤ n) :
    ∃ ρ', ρ0 <+: ρ' ∧ At Ω η B T ρ' s3 vs w := by
  unfold mergeSt at e
  split at e
  · exact ⟨ρ, hp, At.merge' e h⟩
  · by_cases hc : (c.den η).toB = true
    · rw [if_pos hc] at h
      obtain ⟨ρ', h1, h2⟩ := h.cut n hp hn
      exact ⟨ρ', h1, At.merge' e (by rw [if_pos hc]; exact h2)⟩
    · rw [if_neg hc] at h
      obtain ⟨ρ', h1, h2⟩ := h.cut n hp hn
      exact ⟨ρ', h1, At.merge' e (by rw [if_neg hc]; exact h2)⟩
end

/-! ### Trees -/
section
variable {α β : Type} {η : Nat → D}
theorem T.holds_mono {K K' : α → Prop} (h : ∀ a, K a → K' a) : ∀ {t : T α}, t.holds η K → t.holds η K'
  | .ret a, r => h a r
  | .ite c t e, r => ⟨fun hc => T.holds_mono h (r.1 hc), fun hc => T.holds_mono h (r.2 hc)⟩
  | .asrt c t, r => ⟨r.1, T.holds_mono h r.2⟩
  | .fail _, r => r
theorem T.holds_bind {f : α → T β} {K : β → Prop} : ∀ {t : T α}, (t.bind f).holds η K → t.holds η fun a => (f a).holds η K
  | .ret _, r => r
  | .ite c t e, r => ⟨fun hc => T.holds_bind (r.1 hc), fun hc => T.holds_bind (r.2 hc)⟩
  | .asrt c t, r => ⟨r.1, T.holds_bind r.2⟩
  | .fail _, r => r
theorem T.holds_need {c : E} {t : T α} {K : α → Prop} (h : (T.need c t).holds η K) : (c.den η).toB = true ∧ t.holds η K := by
  unfold T.need at h
  split at h
  · exact ⟨rfl, h⟩
  · exact h
theorem T.holds_opt {why : String} {o : Option α} {K : α → Prop} (h : (T.opt why o).holds η K) : ∃ a, o = some a ∧ K a := by
  cases o with
  | none => exact h.elim
  | some a => exact ⟨a, rfl, h⟩

/-- 'K' asks no more of what says less. -/
def Less (n : Nat) (K : X × St → Prop) : Prop := ∀ (x : X) (c : E) (s1 s2 s3 : St), mergeSt n c s1 s2 = some s3 → K (x, s3) → K (x, if (c.den η).toB then s1 else s2)
theorem joinLeaf_holds {n : Nat} {K : X × St → Prop} (hK : Less (η := η) n K) {c : E} {x y : X × St} (h : (joinLeaf n c x y).holds η K) : (T.ite c (.ret x) (.ret y)).holds η K := by
  unfold joinLeaf at h
  split at h
  · rename_i hx
    split at h
    · rename_i s hs
      have := hK x.1 c x.2 y.2 s hs h
      refine ⟨fun hc => ?_, fun hc => ?_⟩
      · rw [if_pos hc] at this; exact this
      · rw [if_neg (by simp [hc]), hx] at this; exact this
    · exact h
  · exact h
theorem toB_ite_l {c a : E} (h : ((mkIteB c a eTrue).den η).toB = true) (hc : (c.den η).toB = true) : (a.den η).toB = true := by
  rw [den_mkIteB, if_pos hc] at h; exact h
theorem toB_ite_r {c a : E} (h : ((mkIteB c eTrue a).den η).toB = true) (hc : (c.den η).toB = false) : (a.den η).toB = true := by
  rw [den_mkIteB, if_neg (by simp [hc])] at h; exact h
theorem joinR_holds {n : Nat} {K : X × St → Prop} (hK : Less (η := η) n K) {c : E} {x : X × St} : ∀ {t : T (X × St)}, (joinR n c x t).holds η K → (T.ite c (.ret x) t).holds η K
  | .asrt a t, h => by
    simp only [joinR, T.holds] at h
    have := joinR_holds hK h.2
    exact ⟨this.1, fun hc => ⟨toB_ite_r h.1 hc, this.2 hc⟩⟩
  | .ret y, h => joinLeaf_holds hK h
  | .ite .., h => h
  | .fail _, h => h
theorem joinL_holds {n : Nat} {K : X × St → Prop} (hK : Less (η := η) n K) {c : E} {e : T (X × St)} : ∀ {t : T (X × St)}, (joinL n c t e).holds η K → (T.ite c t e).holds η K
  | .asrt a t, h => by
    simp only [joinL, T.holds] at h
    have := joinL_holds hK h.2
    exact ⟨fun hc => ⟨toB_ite_l h.1 hc, this.1 hc⟩, this.2⟩
  | .ret y, h => joinR_holds hK h
  | .ite .., h => h
  | .fail _, h => h
theorem join_holds {n : Nat} {K : X × St → Prop} (hK : Less (η := η) n K) : ∀ {t : T (X × St)}, (join n t).holds η K → t.holds η K
  | .ite c t e, h => by
    have := joinL_holds hK h
    exact ⟨fun hc => join_holds hK (this.1 hc), fun hc => join_holds hK (this.2 hc)⟩
  | .asrt a t, h => ⟨h.1, join_holds hK h.2⟩
  | .ret _, h => h
  | .fail _, h => h
end
end Go.Sx
