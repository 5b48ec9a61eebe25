/- The symbolic executor, third part: what a symbolic state says of a world. Own work of this session. -/
import Derived.Test.YtbbippgnmllcoaaSyB
namespace Go.Sy

/-- Where a chunk stands: a block, or a value that is its handle. -/
inductive Hd where
  | blk (b : Nat) | val (v : Value)
  | arr (b o n : Nat)                       -- an array: its block, its first cell, how many elements there is room for
  | none
/-! ### Lists of elements, cell by cell -/
mutual
/-- A cell holds what is told. -/
def EncC (R : Nat → Option (List Value)) : CT → D → Value → Prop
  | .int k, d, v => ∃ n, d = .i n ∧ v = .int k n
  | .bool, d, v => ∃ n, d = .b n ∧ v = .bool n
  | .str, d, v => ∃ s, d = .s s ∧ v = .string ⟨⟨s⟩⟩
  | .sl t, d, v => ∃ ds, d = .ls ds ∧ ((v = .slice none 0 0 ∧ ds = []) ∨ (∃ a, v = .slice (some a) 0 0 ∧ ds = []) ∨
      ∃ b o cap, v = .slice (some ⟨b, o, none⟩) ds.length cap ∧ ds.length ≤ cap ∧ (ds ≠ [] → ∃ cs, R b = some cs ∧ ∀ i d, ds[i]? = some d → EncE R t d ((cs.drop (o + i * t.width)).take t.width)))
/-- An element's cells hold what is told. -/
def EncE (R : Nat → Option (List Value)) : ET → D → List Value → Prop
  | .one c, d, vs => ∃ v, vs = [v] ∧ EncC R c d v
  | .row cs, d, vs => ∃ ds, d = .ls ds ∧ EncCs R cs ds vs
def EncCs (R : Nat → Option (List Value)) : List CT → List D → List Value → Prop
  | [], ds, vs => ds = [] ∧ vs = []
  | c :: cs, ds, vs => ∃ d dr v vr, ds = d :: dr ∧ vs = v :: vr ∧ EncC R c d v ∧ EncCs R cs dr vr
end
/-- An array's cells, from the first one on. -/
def EncA (R : Nat → Option (List Value)) (t : ET) (ds : List D) (cs : List Value) : Prop :=
  ∀ i d, ds[i]? = some d → EncE R t d ((cs.drop (i * t.width)).take t.width)
/-- A slice that is only read holds what is told. -/
def RoSl (R : Nat → Option (List Value)) (t : ET) (ds : List D) (v : Value) : Prop :=
  (v = .slice none 0 0 ∧ ds = []) ∨ (∃ a, v = .slice (some a) 0 0 ∧ ds = []) ∨ ∃ b o cap, v = .slice (some ⟨b, o, none⟩) ds.length cap ∧ ds.length ≤ cap ∧ (ds ≠ [] → ∃ cs, R b = some cs ∧ EncA R t ds (cs.drop o))

mutual
def Rel (η : Env) (ρ : List Hd) : SV → Value → Prop
  | .top, _ => True
  | .unk, v => v.oneCell' = true
  | .int k e, v => v = .int k (e.den η).toI
  | .bool e, v => v = .bool (e.den η).toB
  | .str e, v => v = .string ⟨⟨(e.den η).toS⟩⟩
  | .nil, v => v = .pointer none
  | .ptr c o, v => ∃ b, ρ[c]? = some (.blk b) ∧ v = .pointer (some ⟨b, o, none⟩)
  | .snil, v => v = .slice none 0 0
  | .slice c o l p, v => ∃ b, ρ[c]? = some (.blk b) ∧ v = .slice (some ⟨b, o, none⟩) l p
  | .asl nn c w off len, v =>
    if (nn.den η).toB = true then ∃ b o n off' l cap : Nat, ρ[c]? = some (.arr b o n) ∧ v = .slice (some ⟨b, o + off' * w, none⟩) l cap ∧ (len.den η).toI = (l : Int) ∧ l ≤ cap ∧ off' + cap ≤ n ∧ (l = 0 ∨ (off.den η).toI = (off' : Int))
    else v = .slice none 0 0 ∧ (len.den η).toI = 0
  | .eptr c w i j, v => ∃ b o n k : Nat, ρ[c]? = some (.arr b o n) ∧ (i.den η).toI = (k : Int) ∧ v = .pointer (some ⟨b, o + k * w + j, none⟩)
  | .rsl t e, v => RoSl η.R t (e.den η).toL v
  | .rptr t e i j, v => ∃ b o k cs, v = .pointer (some ⟨b, o + k * t.width + j, none⟩) ∧ (i.den η).toI = (k : Int) ∧ k < (e.den η).toL.length ∧ η.R b = some cs ∧ EncA η.R t (e.den η).toL (cs.drop o)
  | .hnd c, v => ρ[c]? = some (.val v) ∧ v.oneCell' = true
  | .fn f, v => v = .func (.func f) #[] #[]
  | .clo f l, v => ∃ vs, v = .func (.func f) #[] ⟨vs⟩ ∧ Rels η ρ l vs
  | .agg l, v => ∃ vs, v = .agg ⟨vs⟩ ∧ Rels η ρ l vs
  | .tup l, v => ∃ vs, v = .tuple ⟨vs⟩ ∧ Rels η ρ l vs
def Rels (η : Env) (ρ : List Hd) : List SV → List Value → Prop
  | [], vs => vs = []
  | x :: l, vs => ∃ v r, vs = v :: r ∧ Rel η ρ x v ∧ Rels η ρ l r
end

section
variable {η : Env} {ρ ρ' : List Hd}

theorem getElem?_prefix {α : Type} {l l' : List α} (h : l <+: l') {i : Nat} {x : α} (hx : l[i]? = some x) : l'[i]? = some x := by
  obtain ⟨r, rfl⟩ := h
  rw [List.getElem?_append_left (List.getElem?_eq_some_iff.1 hx).1]
  exact hx

mutual
theorem Rel.mono (h : ρ <+: ρ') : ∀ (x : SV) (v : Value), Rel η ρ x v → Rel η ρ' x v
  | .top, _, _ => by simp only [Rel]
  | .unk, _, r => by simp only [Rel] at *; exact r
  | .int .., _, r => by simp only [Rel] at *; exact r
  | .bool _, _, r => by simp only [Rel] at *; exact r
  | .str _, _, r => by simp only [Rel] at *; exact r
  | .nil, _, r => by simp only [Rel] at *; exact r
  | .ptr .., _, r => by simp only [Rel] at *; obtain ⟨b, h1, h2⟩ := r; exact ⟨b, getElem?_prefix h h1, h2⟩
  | .snil, _, r => by simp only [Rel] at *; exact r
  | .slice .., _, r => by simp only [Rel] at *; obtain ⟨b, h1, h2⟩ := r; exact ⟨b, getElem?_prefix h h1, h2⟩
  | .asl .., _, r => by
    simp only [Rel] at *
    split
    · rename_i hn
      rw [if_pos hn] at r
      obtain ⟨b, o, n, off', l, cap, h1, h2⟩ := r
      exact ⟨b, o, n, off', l, cap, getElem?_prefix h h1, h2⟩
    · rename_i hn
      rw [if_neg hn] at r
      exact r
  | .eptr .., _, r => by simp only [Rel] at *; obtain ⟨b, o, n, k, h1, h2⟩ := r; exact ⟨b, o, n, k, getElem?_prefix h h1, h2⟩
  | .rsl .., _, r => by simp only [Rel] at *; exact r
  | .rptr .., _, r => by simp only [Rel] at *; exact r
  | .hnd _, _, r => by simp only [Rel] at *; exact ⟨getElem?_prefix h r.1, r.2⟩
  | .fn _, _, r => by simp only [Rel] at *; exact r
  | .clo _ l, _, r => by simp only [Rel] at *; obtain ⟨vs, h1, h2⟩ := r; exact ⟨vs, h1, Rels.mono h l vs h2⟩
  | .agg l, _, r => by simp only [Rel] at *; obtain ⟨vs, h1, h2⟩ := r; exact ⟨vs, h1, Rels.mono h l vs h2⟩
  | .tup l, _, r => by simp only [Rel] at *; obtain ⟨vs, h1, h2⟩ := r; exact ⟨vs, h1, Rels.mono h l vs h2⟩
theorem Rels.mono (h : ρ <+: ρ') : ∀ (l : List SV) (vs : List Value), Rels η ρ l vs → Rels η ρ' l vs
  | [], _, r => by simp only [Rels] at *; exact r
  | x :: l, _, r => by simp only [Rels] at *; obtain ⟨v, t, h1, h2, h3⟩ := r; exact ⟨v, t, h1, Rel.mono h x v h2, Rels.mono h l t h3⟩
end

theorem getElem?_take_lt {α : Type} {l : List α} {n i : Nat} (hi : i < n) : (l.take n)[i]? = l[i]? := by
  rw [List.getElem?_take]; simp [hi]

mutual
theorem Rel.cut (n : Nat) : ∀ (x : SV) (v : Value), SV.under n x = true → Rel η ρ x v → Rel η (ρ.take n) x v
  | .top, _, _, _ => by simp only [Rel]
  | .unk, _, _, r => by simp only [Rel] at *; exact r
  | .int .., _, _, r => by simp only [Rel] at *; exact r
  | .bool _, _, _, r => by simp only [Rel] at *; exact r
  | .str _, _, _, r => by simp only [Rel] at *; exact r
  | .nil, _, _, r => by simp only [Rel] at *; exact r
  | .ptr .., _, u, r => by
    simp only [Rel, SV.under] at *
    obtain ⟨b, h1, h2⟩ := r
    exact ⟨b, by rw [getElem?_take_lt (by simpa [Nat.blt_eq] using u)]; exact h1, h2⟩
  | .snil, _, _, r => by simp only [Rel] at *; exact r
  | .slice .., _, u, r => by
    simp only [Rel, SV.under] at *
    obtain ⟨b, h1, h2⟩ := r
    exact ⟨b, by rw [getElem?_take_lt (by simpa [Nat.blt_eq] using u)]; exact h1, h2⟩
  | .asl .., _, u, r => by
    simp only [Rel, SV.under] at *
    split
    · rename_i hn
      rw [if_pos hn] at r
      obtain ⟨b, o, n, off', l, cap, h1, h2⟩ := r
      exact ⟨b, o, n, off', l, cap, by rw [getElem?_take_lt (by simpa [Nat.blt_eq] using u)]; exact h1, h2⟩
    · rename_i hn
      rw [if_neg hn] at r
      exact r
  | .eptr .., _, u, r => by
    simp only [Rel, SV.under] at *
    obtain ⟨b, o, n, k, h1, h2⟩ := r
    exact ⟨b, o, n, k, by rw [getElem?_take_lt (by simpa [Nat.blt_eq] using u)]; exact h1, h2⟩
  | .rsl .., _, _, r => by simp only [Rel] at *; exact r
  | .rptr .., _, _, r => by simp only [Rel] at *; exact r
  | .hnd _, _, u, r => by
    simp only [Rel, SV.under] at *
    exact ⟨by rw [getElem?_take_lt (by simpa [Nat.blt_eq] using u)]; exact r.1, r.2⟩
  | .fn _, _, _, r => by simp only [Rel] at *; exact r
  | .clo _ l, _, u, r => by simp only [Rel, SV.under] at *; obtain ⟨vs, h1, h2⟩ := r; exact ⟨vs, h1, Rels.cut n l vs u h2⟩
  | .agg l, _, u, r => by simp only [Rel, SV.under] at *; obtain ⟨vs, h1, h2⟩ := r; exact ⟨vs, h1, Rels.cut n l vs u h2⟩
  | .tup l, _, u, r => by simp only [Rel, SV.under] at *; obtain ⟨vs, h1, h2⟩ := r; exact ⟨vs, h1, Rels.cut n l vs u h2⟩
theorem Rels.cut (n : Nat) : ∀ (l : List SV) (vs : List Value), SV.unders n l = true → Rels η ρ l vs → Rels η (ρ.take n) l vs
  | [], _, _, r => by simp only [Rels] at *; exact r
  | x :: l, _, u, r => by
    simp only [Rels, SV.unders, Bool.and_eq_true] at *
    obtain ⟨v, t, h1, h2, h3⟩ := r
    exact ⟨v, t, h1, Rel.cut n x v u.1 h2, Rels.cut n l t u.2 h3⟩
end

theorem eqE_eq {a b : E} (h : eqE a b = true) : a = b := E.eqb_eq _ _ h
mutual
theorem eqb_eq : ∀ (x y : SV), SV.eqb x y = true → x = y
  | .top, y, h => by cases y <;> simp [SV.eqb] at h ⊢
  | .unk, y, h => by cases y <;> simp [SV.eqb] at h ⊢
  | .int .., y, h => by
    cases y <;> simp [SV.eqb] at h ⊢
    exact ⟨h.1, eqE_eq h.2⟩
  | .bool _, y, h => by cases y <;> simp [SV.eqb] at h ⊢; exact eqE_eq h
  | .str _, y, h => by cases y <;> simp [SV.eqb] at h ⊢; exact eqE_eq h
  | .nil, y, h => by cases y <;> simp [SV.eqb] at h ⊢
  | .ptr .., y, h => by cases y <;> simp [SV.eqb] at h ⊢; exact h
  | .snil, y, h => by cases y <;> simp [SV.eqb] at h ⊢
  | .slice .., y, h => by cases y <;> simp [SV.eqb] at h ⊢; simp_all
  | .asl .., y, h => by
    cases y <;> simp [SV.eqb] at h ⊢
    obtain ⟨⟨⟨⟨h1, h2⟩, h3⟩, h4⟩, h5⟩ := h
    exact ⟨eqE_eq h1, h2, h3, eqE_eq h4, eqE_eq h5⟩
  | .eptr .., y, h => by
    cases y <;> simp [SV.eqb] at h ⊢
    obtain ⟨⟨⟨h1, h2⟩, h3⟩, h4⟩ := h
    exact ⟨h1, h2, eqE_eq h3, h4⟩
  | .rsl .., y, h => by
    cases y <;> simp [SV.eqb] at h ⊢
    exact ⟨ET.eqb_eq _ _ h.1, eqE_eq h.2⟩
  | .rptr .., y, h => by
    cases y <;> simp [SV.eqb] at h ⊢
    obtain ⟨⟨⟨h1, h2⟩, h3⟩, h4⟩ := h
    exact ⟨ET.eqb_eq _ _ h1, eqE_eq h2, eqE_eq h3, h4⟩
  | .hnd _, y, h => by cases y <;> simp [SV.eqb] at h ⊢; exact h
  | .fn _, y, h => by cases y <;> simp [SV.eqb] at h ⊢; exact h
  | .clo _ l, y, h => by
    cases y <;> simp [SV.eqb] at h ⊢
    exact ⟨h.1, eqbs_eq l _ h.2⟩
  | .agg l, y, h => by cases y <;> simp [SV.eqb] at h ⊢; exact eqbs_eq l _ h
  | .tup l, y, h => by cases y <;> simp [SV.eqb] at h ⊢; exact eqbs_eq l _ h
theorem eqbs_eq : ∀ (l l' : List SV), SV.eqbs l l' = true → l = l'
  | [], l', h => by cases l' <;> simp [SV.eqbs] at h ⊢
  | x :: l, l', h => by
    cases l' with
    | nil => simp [SV.eqbs] at h
    | cons y l' =>
      simp only [SV.eqbs, Bool.and_eq_true] at h
      rw [eqb_eq x y h.1, eqbs_eq l l' h.2]
end

mutual
theorem Rel.uniq : ∀ (x : SV) (v v' : Value), sure x = true → Rel η ρ x v → Rel η ρ x v' → v = v'
  | .top, _, _, s, _, _ => by simp [sure] at s
  | .unk, _, _, s, _, _ => by simp [sure] at s
  | .int .., _, _, _, r, r' => by simp only [Rel] at *; rw [r, r']
  | .bool _, _, _, _, r, r' => by simp only [Rel] at *; rw [r, r']
  | .str _, _, _, _, r, r' => by simp only [Rel] at *; rw [r, r']
  | .nil, _, _, _, r, r' => by simp only [Rel] at *; rw [r, r']
  | .ptr .., _, _, _, r, r' => by
    simp only [Rel] at *
    obtain ⟨b, h1, h2⟩ := r
    obtain ⟨b', h1', h2'⟩ := r'
    rw [h1] at h1'; injection h1' with h1'; injection h1' with h1'
    rw [h2, h2', h1']
  | .snil, _, _, _, r, r' => by simp only [Rel] at *; rw [r, r']
  | .slice .., _, _, _, r, r' => by
    simp only [Rel] at *
    obtain ⟨b, h1, h2⟩ := r
    obtain ⟨b', h1', h2'⟩ := r'
    rw [h1] at h1'; injection h1' with h1'; injection h1' with h1'
    rw [h2, h2', h1']
  | .asl .., _, _, s, _, _ => by simp [sure] at s
  | .rsl .., _, _, s, _, _ => by simp [sure] at s
  | .rptr .., _, _, s, _, _ => by simp [sure] at s
  | .eptr .., _, _, _, r, r' => by
    simp only [Rel] at *
    obtain ⟨b, o, n, k, h1, h2, h3⟩ := r
    obtain ⟨b', o', n', k', h1', h2', h3'⟩ := r'
    rw [h1] at h1'; injection h1' with h1'; injection h1' with h1' h4 h5
    have : k = k' := by omega
    rw [h3, h3', h1', h4, this]
  | .hnd _, _, _, _, r, r' => by
    simp only [Rel] at *
    have := r.1.symm.trans r'.1
    injection this with this; injection this
  | .fn _, _, _, _, r, r' => by simp only [Rel] at *; rw [r, r']
  | .clo _ l, _, _, s, r, r' => by
    simp only [Rel, sure] at *
    obtain ⟨vs, h1, h2⟩ := r; obtain ⟨vs', h1', h2'⟩ := r'
    rw [h1, h1', Rels.uniq l vs vs' s h2 h2']
  | .agg l, _, _, s, r, r' => by
    simp only [Rel, sure] at *
    obtain ⟨vs, h1, h2⟩ := r; obtain ⟨vs', h1', h2'⟩ := r'
    rw [h1, h1', Rels.uniq l vs vs' s h2 h2']
  | .tup l, _, _, s, r, r' => by
    simp only [Rel, sure] at *
    obtain ⟨vs, h1, h2⟩ := r; obtain ⟨vs', h1', h2'⟩ := r'
    rw [h1, h1', Rels.uniq l vs vs' s h2 h2']
theorem Rels.uniq : ∀ (l : List SV) (vs vs' : List Value), sures l = true → Rels η ρ l vs → Rels η ρ l vs' → vs = vs'
  | [], _, _, _, r, r' => by simp only [Rels] at *; rw [r, r']
  | x :: l, _, _, s, r, r' => by
    simp only [Rels, sures, Bool.and_eq_true] at *
    obtain ⟨v, t, h1, h2, h3⟩ := r; obtain ⟨v', t', h1', h2', h3'⟩ := r'
    rw [h1, h1', Rel.uniq x v v' s.1 h2 h2', Rels.uniq l t t' s.2 h3 h3']
end

theorem Rel.cell : ∀ {x : SV} {v : Value}, x.cellish = true → Rel η ρ x v → v.oneCell' = true := by
  intro x v h r
  cases x <;> simp only [SV.cellish, Rel] at h r
  · cases h
  · exact r
  · subst r; rfl
  · subst r; rfl
  · subst r; rfl
  · subst r; rfl
  · obtain ⟨b, _, rfl⟩ := r; rfl
  · subst r; rfl
  · obtain ⟨b, _, rfl⟩ := r; rfl
  · split at r
    · obtain ⟨b, o, n, off', l, cap, _, rfl, _⟩ := r; rfl
    · obtain ⟨rfl, _⟩ := r; rfl
  · obtain ⟨b, o, n, k, _, _, rfl⟩ := r; rfl
  · rcases r with ⟨rfl, _⟩ | ⟨a, rfl, _⟩ | ⟨b, o, cap, rfl, _⟩ <;> rfl
  · obtain ⟨b, o, k, cs, rfl, _⟩ := r; rfl
  · exact r.2
  · subst r; rfl
  · obtain ⟨vs, rfl, _⟩ := r; rfl
  · cases h
  · cases h

/-! ### Lists -/
theorem Rels.nil : Rels η ρ [] [] := by simp only [Rels]
theorem Rels.cons {x : SV} {v : Value} {l : List SV} {vs : List Value} (h : Rel η ρ x v) (hs : Rels η ρ l vs) : Rels η ρ (x :: l) (v :: vs) := by
  simp only [Rels]; exact ⟨v, vs, rfl, h, hs⟩
theorem Rels.inv {x : SV} {v : Value} {l : List SV} {vs : List Value} (h : Rels η ρ (x :: l) (v :: vs)) : Rel η ρ x v ∧ Rels η ρ l vs := by
  simp only [Rels] at h
  obtain ⟨v', r, h1, h2, h3⟩ := h
  injection h1 with h4 h5
  subst h4 h5
  exact ⟨h2, h3⟩
theorem Rels.length : ∀ {l : List SV} {vs : List Value}, Rels η ρ l vs → vs.length = l.length
  | [], _, r => by simp only [Rels] at r; subst r; rfl
  | _ :: _, _, r => by
    simp only [Rels] at r
    obtain ⟨v, t, rfl, _, h3⟩ := r
    simp [Rels.length h3]
theorem Rels.get : ∀ {l : List SV} {vs : List Value}, Rels η ρ l vs → ∀ {i : Nat} {x : SV}, l[i]? = some x → ∃ v, vs[i]? = some v ∧ Rel η ρ x v
  | [], _, _, _, _, h => by simp at h
  | y :: l, _, r, i, x, h => by
    simp only [Rels] at r
    obtain ⟨v, t, rfl, h2, h3⟩ := r
    cases i with
    | zero => simp at h; subst h; exact ⟨v, rfl, h2⟩
    | succ i => simpa using Rels.get h3 (i := i) (by simpa using h)
theorem Rels.none {l : List SV} {vs : List Value} (r : Rels η ρ l vs) {i : Nat} (h : l[i]? = none) : vs[i]? = none := by
  rw [List.getElem?_eq_none_iff] at *
  rw [r.length]; exact h
theorem Rels.getD {l : List SV} {vs : List Value} (r : Rels η ρ l vs) (i : Nat) : Rel η ρ (l.getD i (.tup [])) (vs.getD i undef) := by
  rw [List.getD_eq_getElem?_getD, List.getD_eq_getElem?_getD]
  cases h : l[i]? with
  | none => rw [r.none h]; simp only [Option.getD_none, Rel]; exact ⟨[], rfl, Rels.nil⟩
  | some x =>
    obtain ⟨v, h1, h2⟩ := r.get h
    rw [h1]; exact h2
theorem Rels.set : ∀ {l : List SV} {vs : List Value}, Rels η ρ l vs → ∀ (i : Nat) {x : SV} {v : Value}, Rel η ρ x v → Rels η ρ (l.set i x) (vs.set i v)
  | [], _, r, _, _, _, _ => by simp only [Rels] at r; subst r; exact Rels.nil
  | y :: l, _, r, i, x, v, h => by
    simp only [Rels] at r
    obtain ⟨u, t, rfl, h2, h3⟩ := r
    cases i with
    | zero => exact Rels.cons h h3
    | succ i => exact Rels.cons h2 (Rels.set h3 i h)
theorem Rels.append : ∀ {l l' : List SV} {vs vs' : List Value}, Rels η ρ l vs → Rels η ρ l' vs' → Rels η ρ (l ++ l') (vs ++ vs')
  | [], _, _, _, r, r' => by simp only [Rels] at r; subst r; exact r'
  | _ :: _, _, _, _, r, r' => by
    simp only [Rels] at r
    obtain ⟨u, t, rfl, h2, h3⟩ := r
    exact Rels.cons h2 (Rels.append h3 r')
theorem Rels.drop : ∀ (n : Nat) {l : List SV} {vs : List Value}, Rels η ρ l vs → Rels η ρ (l.drop n) (vs.drop n)
  | 0, _, _, r => r
  | n + 1, [], _, r => by simp only [Rels] at r; subst r; exact Rels.nil
  | n + 1, _ :: _, _, r => by
    simp only [Rels] at r
    obtain ⟨u, t, rfl, h2, h3⟩ := r
    exact Rels.drop n h3
theorem Rels.take : ∀ (n : Nat) {l : List SV} {vs : List Value}, Rels η ρ l vs → Rels η ρ (l.take n) (vs.take n)
  | 0, _, _, _ => Rels.nil
  | n + 1, [], _, r => by simp only [Rels] at r; subst r; exact Rels.nil
  | n + 1, _ :: _, _, r => by
    simp only [Rels] at r
    obtain ⟨u, t, rfl, h2, h3⟩ := r
    exact Rels.cons h2 (Rels.take n h3)
theorem Rels.map {α : Type} {f : α → SV} {g : α → Value} : ∀ (l : List α), (∀ x ∈ l, Rel η ρ (f x) (g x)) → Rels η ρ (l.map f) (l.map g)
  | [], _ => Rels.nil
  | x :: l, h => Rels.cons (h x (by simp)) (Rels.map l fun y hy => h y (by simp [hy]))
theorem Rels.cells : ∀ {l : List SV} {vs : List Value}, Rels η ρ l vs → l.all SV.cellish = true → ∀ v ∈ vs, v.oneCell' = true
  | [], _, r, _, v, h => by simp only [Rels] at r; subst r; cases h
  | x :: l, _, r, ha, v, h => by
    simp only [Rels] at r
    obtain ⟨u, t, rfl, h2, h3⟩ := r
    simp only [List.all_cons, Bool.and_eq_true] at ha
    cases h with
    | head => exact Rel.cell ha.1 h2
    | tail _ h => exact Rels.cells h3 ha.2 v h

/-! ### Where two ways meet -/
theorem Rel.merge_fall {c : E} {x y : SV} {v : Value} (h : Rel η ρ (if (c.den η).toB then x else y) v) :
    Rel η ρ (if SV.eqb x y then x else if SV.cellish x && SV.cellish y then .unk else .top) v := by
  split
  · rename_i he
    have := eqb_eq x y he
    subst this
    simpa using h
  · split
    · rename_i hc
      simp only [Bool.and_eq_true] at hc
      simp only [Rel]
      split at h
      · exact Rel.cell hc.1 h
      · exact Rel.cell hc.2 h
    · simp only [Rel]
end
end Go.Sy
