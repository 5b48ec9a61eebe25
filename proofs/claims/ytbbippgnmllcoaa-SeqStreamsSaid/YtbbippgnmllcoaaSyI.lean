/- The symbolic executor, ninth part: leaves; arrays' elements; operations that only read the memory. Own work of this session. -/
import Derived.Test.YtbbippgnmllcoaaSyH
set_option linter.unusedVariables false
set_option linter.unusedSimpArgs false
namespace Go.Sy

/-! ### The leaf that the truths lead to -/
def T.leaf {α : Type} (η : Env) : T α → Option α
  | .ret a => some a
  | .ite c t e => if (c.den η).toB then t.leaf η else e.leaf η
  | .asrt c t => if (c.den η).toB then t.leaf η else none
  | .fail _ => none
theorem T.holds_leaf {α : Type} {η : Env} {K : α → Prop} : ∀ {t : T α}, t.holds η K ↔ ∃ a, t.leaf η = some a ∧ K a
  | .ret a => by simp [T.holds, T.leaf]
  | .ite c t e => by
    simp only [T.holds, T.leaf]
    cases hc : (c.den η).toB
    · simp [T.holds_leaf (t := e)]
    · simp [T.holds_leaf (t := t)]
  | .asrt c t => by
    simp only [T.holds, T.leaf]
    cases hc : (c.den η).toB
    · simp
    · simp [T.holds_leaf (t := t)]
  | .fail w => by simp [T.holds, T.leaf]

section
variable {P : Program} {Ω : Om} {η : Env} {B : World} {T' : Nat → Prop} {ρ : List Hd} {m : List Chunk} {w : World}

theorem run_cells (b off : Nat) (cs : List Value) (h : ∀ j v, cs[j]? = some v → w.cell? ⟨b, off + j, none⟩ = some v) : (loadCells ⟨b, off, none⟩ cs.length).run P w = .ok ⟨cs⟩ w := by
  rw [run_loadCells_list w ⟨b, off, none⟩ cs (fun j v hv => by rw [add_mk]; exact h j v hv)]
theorem loadAt_agg {t : TypeId} (ha : isAgg P t = some true) (hs : (P.info? t).isSome = true) {b off : Nat} {cs : List Value} (hl : cs.length = P.cellsOf t)
    (h : ∀ j v, cs[j]? = some v → w.cell? ⟨b, off + j, none⟩ = some v) : (Instr.loadAt t (.pointer (some ⟨b, off, none⟩))).run P w = .ok (.agg ⟨cs⟩) w := by
  obtain ⟨i, hi⟩ := Option.isSome_iff_exists.1 hs
  have := run_cells (P := P) b off cs h
  rw [hl] at this
  simp only [Instr.loadAt, Instr.sureAddr, Sem.run_bind, Sem.run_pure, Result.andThen_ok, loadVar, run_isAgg ha, if_true, run_sizeOf hi, ← cellsOf_eq hi, this]
theorem loadAt_one {t : TypeId} (ha : isAgg P t = some false) {b off : Nat} {v : Value} (h : w.cell? ⟨b, off, none⟩ = some v) : (Instr.loadAt t (.pointer (some ⟨b, off, none⟩))).run P w = .ok v w := by
  simp only [Instr.loadAt, Instr.sureAddr, Sem.run_bind, Sem.run_pure, Result.andThen_ok, loadVar, run_isAgg ha, Bool.false_eq_true, if_false, run_load, h]

/-- A load, in whatever world bears the same cells. -/
theorem load_any {t : TypeId} {l : List SV} {vs : List Value} {off : Nat} {c b : Nat} {ty : TypeId} {v : SV} (hr : rowOf m c = some (l, ty)) (hb : ρ[c]? = some (.blk b))
    (r : Rels η ρ l vs) (h : loadSV P m t (.ptr c off) = some v) :
    ∃ u, Rel η ρ v u ∧ ∀ w' : World, (∀ j, j < loadW P t → w'.cell? ⟨b, off + j, none⟩ = vs[off + j]?) → (Instr.loadAt t (.pointer (some ⟨b, off, none⟩))).run P w' = .ok u w' := by
  simp only [loadSV, hr] at h
  split at h
  · rename_i l' ty' h1 ha
    simp only [Option.some.injEq, Prod.mk.injEq] at h1; obtain ⟨rfl, rfl⟩ := h1
    split at h
    · rename_i hc
      simp only [Bool.and_eq_true] at hc
      simp only [Option.some.injEq] at h; subst h
      have hle : off + P.cellsOf t ≤ vs.length := by rw [r.length]; exact Nat.le_of_ble_eq_true hc.1
      have hlen : ((vs.drop off).take (P.cellsOf t)).length = P.cellsOf t := by simp; omega
      refine ⟨.agg ⟨(vs.drop off).take (P.cellsOf t)⟩, by simp only [Rel]; exact ⟨_, rfl, Rels.take _ (Rels.drop _ r)⟩, fun w' hw => ?_⟩
      refine loadAt_agg ha hc.2 hlen fun j v hv => ?_
      have hj : j < P.cellsOf t := by have := (List.getElem?_eq_some_iff.1 hv).1; omega
      rw [hw j (by unfold loadW; rw [if_pos ha]; exact hj)]
      rw [List.getElem?_take, if_pos hj, List.getElem?_drop] at hv
      exact hv
    · cases h
  · rename_i l' ty' h1 ha
    simp only [Option.some.injEq, Prod.mk.injEq] at h1; obtain ⟨rfl, rfl⟩ := h1
    obtain ⟨u, h2, h3⟩ := r.get h
    refine ⟨u, h3, fun w' hw => loadAt_one ha ?_⟩
    have h4 := hw 0 (by unfold loadW; rw [if_neg (by rw [ha]; simp)]; omega)
    simpa only [Nat.add_zero, h2] using h4
  · cases h

theorem load_rel {t : TypeId} {x v : SV} (hI : Inv Ω η B T' ρ m w) (h : loadSV P m t x = some v) {a : Value} (ha : Rel η ρ x a) : ∃ u, Rel η ρ v u ∧ (Instr.loadAt t a).run P w = .ok u w := by
  have h' := h
  unfold loadSV at h'
  split at h'
  · rename_i c off
    simp only [Rel] at ha; obtain ⟨b, hb, rfl⟩ := ha
    cases hr : rowOf m c with
    | none => rw [hr] at h'; cases h'
    | some p =>
      obtain ⟨l, ty⟩ := p
      obtain ⟨vs, h1, h2⟩ := hI.row hr hb
      obtain ⟨u, h3, h4⟩ := load_any hr hb h2 h
      exact ⟨u, h3, h4 w fun j _ => cell_of_row h1 _⟩
  · cases h'

/-! ### Elements -/
theorem svOf_rel {c : CT} {d : D} {v : Value} (h : EncC η.R c d v) {e : E} (he : e.den η = d) : Rel η ρ (svOf c e) v := by
  cases c with
  | int k =>
    simp only [EncC] at h
    obtain ⟨n, rfl, rfl⟩ := h
    simp only [svOf, Rel, den_wI, he, toI_i]
  | bool =>
    simp only [EncC] at h
    obtain ⟨n, rfl, rfl⟩ := h
    simp only [svOf, Rel, den_wB, he, toB_b]
  | str =>
    simp only [EncC] at h
    obtain ⟨n, rfl, rfl⟩ := h
    simp only [svOf, Rel, den_wS, he, toS_s]
  | sl t =>
    simp only [EncC] at h
    obtain ⟨ds, rfl, h⟩ := h
    simp only [svOf, Rel, den_wL, he, toL_ls]
    rcases h with h | h | ⟨b, o, cap, h1, h2, h3⟩
    · exact .inl h
    · exact .inr (.inl h)
    · refine .inr (.inr ⟨b, o, cap, h1, h2, fun hne => ?_⟩)
      obtain ⟨cs, h4, h5⟩ := h3 hne
      refine ⟨cs, h4, fun i d hd => ?_⟩
      rw [List.drop_drop]
      exact h5 i d hd
theorem unOf_enc {c : CT} {x : SV} {e : E} (h : unOf c x = some e) {v : Value} (r : Rel η ρ x v) : EncC η.R c (e.den η) v := by
  unfold unOf at h
  split at h
  · rename_i k k' a
    split at h
    · rename_i hk; subst hk
      simp only [Option.some.injEq] at h; subst h
      simp only [Rel] at r; subst r
      simp only [EncC]
      exact ⟨_, wI_i η a, rfl⟩
    · cases h
  · simp only [Option.some.injEq] at h; subst h
    simp only [Rel] at r; subst r
    simp only [EncC]
    exact ⟨_, wB_b η _, rfl⟩
  · simp only [Option.some.injEq] at h; subst h
    simp only [Rel] at r; subst r
    simp only [EncC]
    exact ⟨_, wS_s η _, rfl⟩
  · cases h
theorem encCs_length : ∀ {cs : List CT} {ds : List D} {vs : List Value}, EncCs η.R cs ds vs → ds.length = cs.length ∧ vs.length = cs.length
  | [], ds, vs, h => by simp only [EncCs] at h; obtain ⟨rfl, rfl⟩ := h; exact ⟨rfl, rfl⟩
  | c :: cs, ds, vs, h => by
    simp only [EncCs] at h
    obtain ⟨d, dr, v, vr, rfl, rfl, _, h⟩ := h
    have := encCs_length h
    simp; omega
theorem encCs_get : ∀ {cs : List CT} {ds : List D} {vs : List Value}, EncCs η.R cs ds vs → ∀ {j : Nat} {c : CT}, cs[j]? = some c → ∃ d v, ds[j]? = some d ∧ vs[j]? = some v ∧ EncC η.R c d v
  | [], ds, vs, h, j, c, hc => by simp at hc
  | c' :: cs, ds, vs, h, j, c, hc => by
    simp only [EncCs] at h
    obtain ⟨d, dr, v, vr, rfl, rfl, h1, h⟩ := h
    cases j with
    | zero => simp at hc; subst hc; exact ⟨d, v, rfl, rfl, h1⟩
    | succ j => simpa using encCs_get h (by simpa using hc)
theorem encCs_set : ∀ {cs : List CT} {ds : List D} {vs : List Value}, EncCs η.R cs ds vs → ∀ {j : Nat} {c : CT}, cs[j]? = some c → ∀ {d : D} {v : Value}, EncC η.R c d v → EncCs η.R cs (ds.set j d) (vs.set j v)
  | [], ds, vs, h, j, c, hc, _, _, _ => by simp at hc
  | c' :: cs, ds, vs, h, j, c, hc, d, v, hd => by
    simp only [EncCs] at h
    obtain ⟨d', dr, v', vr, rfl, rfl, h1, h⟩ := h
    cases j with
    | zero => simp at hc; subst hc; simp only [List.set_cons_zero, EncCs]; exact ⟨d, dr, v, vr, rfl, rfl, hd, h⟩
    | succ j =>
      simp only [List.set_cons_succ, EncCs]
      exact ⟨d', _, v', _, rfl, rfl, h1, encCs_set h (by simpa using hc) hd⟩
theorem unOfs_enc : ∀ {cs : List CT} {xs : List SV} {es : List E}, unOfs cs xs = some es → ∀ {vs : List Value}, Rels η ρ xs vs → EncCs η.R cs (es.map (E.den η)) vs
  | [], [], es, h, vs, r => by
    simp only [unOfs, Option.some.injEq] at h; subst h
    simp only [Rels] at r; subst r
    simp only [EncCs, List.map_nil]; exact ⟨trivial, trivial⟩
  | c :: cs, [], es, h, vs, r => by simp [unOfs] at h
  | [], _ :: _, es, h, vs, r => by simp [unOfs] at h
  | c :: cs, x :: xs, es, h, vs, r => by
    simp only [unOfs] at h
    split at h
    · rename_i e l h1 h2
      simp only [Option.some.injEq] at h; subst h
      simp only [Rels] at r
      obtain ⟨v, t, rfl, r1, r2⟩ := r
      simp only [EncCs, List.map_cons]
      exact ⟨_, _, v, t, rfl, rfl, unOf_enc h1 r1, unOfs_enc h2 r2⟩
    · cases h
theorem encE_length {t : ET} {d : D} {vs : List Value} (h : EncE η.R t d vs) : vs.length = t.width := by
  cases t with
  | one c => simp only [EncE] at h; obtain ⟨v, rfl, _⟩ := h; rfl
  | row cs => simp only [EncE] at h; obtain ⟨ds, _, h⟩ := h; exact (encCs_length h).2
/-- A cell of an element. -/
theorem encE_cell {t : ET} {d : D} {vs : List Value} (h : EncE η.R t d vs) {j : Nat} {c : CT} (hc : t.cts[j]? = some c) : ∃ v, vs[j]? = some v ∧ ∀ e : E, e.den η = d → Rel η ρ (svOf c (cellE t e j)) v := by
  cases t with
  | one c' =>
    simp only [EncE] at h
    obtain ⟨v, rfl, h⟩ := h
    simp only [ET.cts] at hc
    cases j with
    | zero => simp at hc; subst hc; exact ⟨v, rfl, fun e he => svOf_rel h he⟩
    | succ j => simp at hc
  | row cs =>
    simp only [EncE] at h
    obtain ⟨ds, rfl, h⟩ := h
    obtain ⟨d, v, h1, h2, h3⟩ := encCs_get h hc
    refine ⟨v, h2, fun e he => svOf_rel h3 ?_⟩
    simp only [cellE]
    rw [den_mk1, he]
    simp [O1.den, toL_ls, List.getD_eq_getElem?_getD, h1]
theorem Rels.of_get : ∀ {l : List SV} {vs : List Value}, l.length = vs.length → (∀ (j : Nat) (x : SV), l[j]? = some x → ∃ v, vs[j]? = some v ∧ Rel η ρ x v) → Rels η ρ l vs
  | [], [], _, _ => Rels.nil
  | [], _ :: _, h, _ => by simp at h
  | _ :: _, [], h, _ => by simp at h
  | x :: l, v :: vs, h, hg => by
    obtain ⟨v', h1, h2⟩ := hg 0 x rfl
    simp at h1; subst h1
    exact Rels.cons h2 (Rels.of_get (by simpa using h) fun j y hy => by simpa using hg (j + 1) y (by simpa using hy))
theorem elemCells_rel {t : ET} {d : D} {vs : List Value} (h : EncE η.R t d vs) {e : E} (he : e.den η = d) : Rels η ρ (elemCells t e) vs := by
  refine Rels.of_get ?_ fun j x hx => ?_
  · rw [encE_length h]; simp [elemCells, ET.width]
  · unfold elemCells at hx
    rw [List.getElem?_map, List.getElem?_zipIdx] at hx
    cases hc : t.cts[j]? with
    | none => rw [hc] at hx; simp at hx
    | some c =>
      rw [hc] at hx
      simp at hx
      subst hx
      obtain ⟨v, h1, h2⟩ := encE_cell (ρ := ρ) h hc
      exact ⟨v, h1, h2 e he⟩
/-- A load of an element's cells. -/
theorem elemLoad_rel {t : TypeId} {et : ET} {e : E} {j : Nat} {v : SV} (h : elemLoad P t et e j = some v) {vs : List Value} (hE : EncE η.R et (e.den η) vs) {b off : Nat}
    (hc : ∀ i u, vs[i]? = some u → w.cell? ⟨b, off + i, none⟩ = some u) : ∃ u, Rel η ρ v u ∧ (Instr.loadAt t (.pointer (some ⟨b, off + j, none⟩))).run P w = .ok u w := by
  unfold elemLoad at h
  split at h
  · rename_i ha
    split at h
    · rename_i hx
      simp only [Bool.and_eq_true] at hx
      simp only [Option.some.injEq] at h; subst h
      have hj := Nat.eq_of_beq_eq_true hx.1.1
      subst hj
      refine ⟨.agg ⟨vs⟩, by simp only [Rel]; exact ⟨vs, rfl, elemCells_rel hE rfl⟩, loadAt_agg ha hx.2 ?_ (by simpa using hc)⟩
      rw [encE_length hE]; exact (Nat.eq_of_beq_eq_true hx.1.2).symm
    · cases h
  · rename_i ha
    rw [Option.map_eq_some_iff] at h
    obtain ⟨ct, hct, rfl⟩ := h
    obtain ⟨u, h1, h2⟩ := encE_cell (ρ := ρ) hE hct
    exact ⟨u, h2 e rfl, loadAt_one ha (hc j u h1)⟩
  · cases h

theorem cell_of_cells {b : Nat} {vs : List Value} {ty : TypeId} {fz : Nat × Nat} (h : w.heap[b]? = some (.cells ⟨vs⟩ ty fz)) (o : Nat) : w.cell? ⟨b, o, none⟩ = vs[o]? := by
  simp [World.cell?, h]
/-- What an array's chunk says. -/
theorem Inv.arr (h : Inv Ω η B T' ρ m w) {c : Nat} {t : ET} {e : E} (hr : arrOf m c = some (t, e)) {b o n : Nat} (hb : ρ[c]? = some (.arr b o n)) :
    ∃ cs ty fz, w.heap[b]? = some (.cells ⟨cs⟩ ty fz) ∧ (∀ i, i < cs.length → ¬ (fz.1 ≤ i ∧ i < fz.2)) ∧ (e.den η).toL.length ≤ n ∧ o + n * t.width ≤ cs.length ∧ EncA η.R t (e.den η).toL (cs.drop o) := by
  obtain ⟨F, f1, _, _⟩ := h.foot
  unfold arrOf at hr
  split at hr
  · rename_i t' e' hm
    simp only [Option.some.injEq, Prod.mk.injEq] at hr
    obtain ⟨rfl, rfl⟩ := hr
    have := f1 c _ _ hm hb
    simp only [Chunk.holds] at this
    rcases this with ⟨b', o', n', cs, ty, fz, h1, h2, h3, h4, h5, h6, _⟩ | ⟨h1, _⟩
    · injection h1 with e1 e2 e3
      subst e1 e2 e3
      exact ⟨cs, ty, fz, h2, h3, h4, h5, h6⟩
    · cases h1
  · cases hr
theorem arrOf_get {c : Nat} {t : ET} {e : E} (hr : arrOf m c = some (t, e)) : m[c]? = some (.arr t e) := by
  unfold arrOf at hr
  split at hr
  · rename_i t' e' hm
    simp only [Option.some.injEq, Prod.mk.injEq] at hr
    obtain ⟨rfl, rfl⟩ := hr
    exact hm
  · cases hr
theorem mapOf_get {c : Nat} {e : E} (hr : mapOf m c = some e) : m[c]? = some (.map e) := by
  unfold mapOf at hr
  split at hr
  · rename_i e' hm
    simp only [Option.some.injEq] at hr; subst hr
    exact hm
  · cases hr
/-- What a map's chunk says. -/
theorem Inv.map (h : Inv Ω η B T' ρ m w) {c : Nat} {e : E} (hr : mapOf m c = some e) {v : Value} (hb : ρ[c]? = some (.val v)) :
    ∃ r es clock, v = .map (some r) ∧ w.heap[r]? = some (.map es clock) ∧ MEnc (e.den η).toL es.toList := by
  obtain ⟨F, f1, _, _⟩ := h.foot
  have := f1 c _ _ (mapOf_get hr) hb
  simp only [Chunk.holds] at this
  obtain ⟨r, es, ck, h1, h2, h3, _⟩ := this
  injection h1 with h1
  exact ⟨r, es, ck, h1, h2, h3⟩

theorem elem_in {cs : List Value} {o k wd i : Nat} {u : Value} (h : (((cs.drop o).drop (k * wd)).take wd)[i]? = some u) : cs[o + k * wd + i]? = some u := by
  rw [List.getElem?_take] at h
  split at h
  · rw [List.drop_drop, List.getElem?_drop] at h; exact h
  · cases h

/-! ### Maps -/
theorem menc_length : ∀ {ds : List D} {es : List MapEntry}, MEnc ds es → es.length = ds.length
  | [], [], _ => rfl
  | _ :: _, _ :: _, h => by simp only [MEnc] at h; simp [menc_length h.2]
  | [], _ :: _, h => by simp [MEnc] at h
  | _ :: _, [], h => by simp [MEnc] at h
theorem mapRow_key {d : D} {e : MapEntry} (h : MapRow d e) : e.key = .int .i64 (dkey d) ∧ e.val = .int .u8 (dval d) := by
  obtain ⟨k, v, rfl, h1, h2⟩ := h
  exact ⟨h1, h2⟩
theorem findNow_int (k : Int) : ∀ {ds : List D} {es : List MapEntry} (i : Nat), MEnc ds es →
    (∃ j d e, ds[j]? = some d ∧ es[j]? = some e ∧ dkey d = k ∧ (∀ j' < j, ∀ d', ds[j']? = some d' → dkey d' ≠ k) ∧ mfind k ds = some (dval d) ∧ Instr.findNow (.int .i64) (.int .i64 k) es i = some (some (i + j, .int .u8 (dval d)))) ∨
    ((∀ d ∈ ds, dkey d ≠ k) ∧ mfind k ds = none ∧ Instr.findNow (.int .i64) (.int .i64 k) es i = some none)
  | [], [], i, _ => .inr ⟨by simp, rfl, rfl⟩
  | [], _ :: _, i, h => by simp [MEnc] at h
  | _ :: _, [], i, h => by simp [MEnc] at h
  | d :: ds, e :: es, i, h => by
    simp only [MEnc] at h
    obtain ⟨h1, h2⟩ := mapRow_key h.1
    by_cases hk : dkey d = k
    · refine .inl ⟨0, d, e, rfl, rfl, hk, by simp, by simp [mfind, hk], ?_⟩
      simp [Instr.findNow, Instr.sameNow, h1, hk, h2]
    · rcases findNow_int k (i + 1) h.2 with ⟨j, d', e', g1, g2, g3, g4, g5, g6⟩ | ⟨g1, g2, g3⟩
      · refine .inl ⟨j + 1, d', e', by simpa using g1, by simpa using g2, g3, ?_, by simp [mfind, hk, g5], ?_⟩
        · intro j' hj' d'' hd''
          cases j' with
          | zero => simp at hd''; subst hd''; exact hk
          | succ j' => exact g4 j' (by omega) d'' (by simpa using hd'')
        · have : (k == dkey d) = false := by simp; exact fun h => hk h.symm
          simp [Instr.findNow, Instr.sameNow, h1, this, g6]; omega
      · refine .inr ⟨?_, by simp [mfind, hk, g2], ?_⟩
        · intro x hx
          cases hx with
          | head => exact hk
          | tail _ hx => exact g1 x hx
        · have : (k == dkey d) = false := by simp; exact fun h => hk h.symm
          simp [Instr.findNow, Instr.sameNow, h1, this, g3]
structure MapTy (P : Program) (t k v : TypeId) : Prop where
  mp : P.underlying t = some (.map k v)
  ky : P.underlying k = some (.int .i64)
  vl : P.underlying v = some (.int .u8)
  z : ∀ w, (zeroValue v).run P w = .ok (.int .u8 0) w
theorem mapTy_of {t : TypeId} (h : isMapType P t = true) : ∃ k v, MapTy P t k v := by
  unfold isMapType at h
  split at h
  · rename_i k v hm
    rw [Bool.and_eq_true] at h
    obtain ⟨h1, h2⟩ := h
    split at h1
    · rename_i hk hv
      split at h2
      · rename_i i hi
        split at h2
        · rename_i hz
          exact ⟨k, v, hm, hk, hv, fun w => by simp [zeroValue, run_typeInfo hi, hz]⟩
        · cases h2
      · cases h2
    · cases h1
  · cases h
theorem checkKey_int {k : TypeId} (h : P.underlying k = some (.int .i64)) (em : Bool) (n : Int) : (Instr.checkKey em 10000 k (.int .i64 n)).run P w = .ok () w := by
  show (Instr.checkKey em (9999 + 1) k (.int .i64 n)).run P w = .ok () w
  unfold Instr.checkKey
  simp only [Sem.run_bind, run_underlying h, Result.andThen_ok]
  rfl
end
end Go.Sy
