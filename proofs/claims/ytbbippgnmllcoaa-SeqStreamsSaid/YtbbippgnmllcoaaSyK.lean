/- The symbolic executor, eleventh part: operations that turn the memory. Own work of this session. -/
import Derived.Test.YtbbippgnmllcoaaSyJ
import Derived.Deep.AppendSrc
import Derived.Deep.Upon
set_option linter.unusedVariables false
set_option linter.unusedSimpArgs false
namespace Go.Sy
section
variable {P : Program} {Ω : Om} {η : Env} {B : World} {T' : Nat → Prop} {ρ : List Hd} {m : List Chunk} {w : World}

theorem frozen_of_cells {b : Nat} {vs : List Value} {ty : TypeId} {fz : Nat × Nat} (h : w.heap[b]? = some (.cells ⟨vs⟩ ty fz)) (hz : ∀ i, i < vs.length → ¬ (fz.1 ≤ i ∧ i < fz.2)) (o : Nat) (ho : o < vs.length) : w.frozen? ⟨b, o, none⟩ = false := by
  have := hz o ho
  simp only [World.frozen?, h]
  simpa using this
theorem run_storeCells (b : Nat) (ty : TypeId) (fz : Nat × Nat) : ∀ (ys : List Value) (off i : Nat) (vs : List Value) (w : World), w.heap[b]? = some (.cells ⟨vs⟩ ty fz) → (∀ i, i < vs.length → ¬ (fz.1 ≤ i ∧ i < fz.2)) →
    off + i + ys.length ≤ vs.length → (∀ y ∈ ys, y.oneCell' = true) →
    ∃ w', (storeCells ⟨b, off, none⟩ ys i).run P w = .ok () w' ∧ w'.os = w.os ∧ w'.tape = w.tape ∧ w'.output = w.output ∧ w'.heap.size = w.heap.size ∧ (∀ k, k ≠ b → w'.heap[k]? = w.heap[k]?) ∧
      w'.heap[b]? = some (.cells ⟨putAll vs (off + i) ys⟩ ty fz)
  | [], off, i, vs, w, hb, hz, hl, h1 => ⟨w, by simp [storeCells], rfl, rfl, rfl, rfl, fun _ _ => rfl, hb⟩
  | y :: ys, off, i, vs, w, hb, hz, hl, h1 => by
    have hlt : off + i < vs.length := by simp at hl; omega
    have hc : w.cell? ⟨b, off + i, none⟩ = some vs[off + i] := by rw [cell_of_cells hb]; simp [hlt]
    have hf := frozen_of_cells hb hz (off + i) hlt
    have hs : (store (⟨b, off + i, none⟩ : Addr) y).run P w = .ok () (w.setCell ⟨b, off + i, none⟩ y) := by
      rw [run_store P w _ y .plain (h1 y (by simp)), hc]
      simp [hf]
    have hb' : (w.setCell ⟨b, off + i, none⟩ y).heap[b]? = some (.cells ⟨vs.set (off + i) y⟩ ty fz) := by
      simp [World.setCell, Array.getElem?_modify, hb]
    obtain ⟨w', g1, g2, g3, g4, g5, g6, g7⟩ := run_storeCells b ty fz ys off (i + 1) (vs.set (off + i) y) (w.setCell ⟨b, off + i, none⟩ y) hb' (by simpa using hz) (by simp at hl ⊢; omega) (fun x hx => h1 x (by simp [hx]))
    refine ⟨w', ?_, g2, g3, g4, by rw [g5]; simp, fun k hk => ?_, by rw [g7]; simp [putAll, Nat.add_assoc]⟩
    · simp only [storeCells, Sem.run_bind, add_mk, hs, Result.andThen_ok, g1]
    · rw [g6 k hk]; exact RowKit.Below.heap_setCell _ _ _ _ hk
theorem heap_setCells (b : Nat) (ty : TypeId) (fz : Nat × Nat) : ∀ (ys : List Value) (off : Nat) (vs : List Value) (w : World), w.heap[b]? = some (.cells ⟨vs⟩ ty fz) →
    (w.setCells b off ys).os = w.os ∧ (w.setCells b off ys).tape = w.tape ∧ (w.setCells b off ys).output = w.output ∧ (w.setCells b off ys).heap.size = w.heap.size ∧ (∀ k, k ≠ b → (w.setCells b off ys).heap[k]? = w.heap[k]?) ∧
      (w.setCells b off ys).heap[b]? = some (.cells ⟨putAll vs off ys⟩ ty fz)
  | [], off, vs, w, hb => ⟨rfl, rfl, rfl, rfl, fun _ _ => rfl, hb⟩
  | y :: ys, off, vs, w, hb => by
    have hb' : (w.setCell ⟨b, off, none⟩ y).heap[b]? = some (.cells ⟨vs.set off y⟩ ty fz) := by
      simp [World.setCell, Array.getElem?_modify, hb]
    obtain ⟨g2, g3, g4, g5, g6, g7⟩ := heap_setCells b ty fz ys (off + 1) _ _ hb'
    refine ⟨g2, g3, g4, by rw [World.setCells, g5]; simp, fun k hk => ?_, by rw [World.setCells, g7]; rfl⟩
    rw [World.setCells, g6 k hk]; exact RowKit.Below.heap_setCell _ _ _ _ hk

theorem putAll_get {α : Type} : ∀ (ys l : List α) (off i : Nat), (putAll l off ys)[i]? = if off ≤ i ∧ i < off + ys.length ∧ i < l.length then ys[i - off]? else l[i]?
  | [], l, off, i => by
    simp only [putAll, List.length_nil, Nat.add_zero]
    rw [if_neg (by omega)]
  | y :: ys, l, off, i => by
    simp only [putAll]
    rw [putAll_get ys (l.set off y) (off + 1) i]
    simp only [List.length_set, List.length_cons]
    by_cases h : off = i
    · subst h
      rw [if_neg (by omega)]
      by_cases hl : off < l.length
      · rw [if_pos (by omega), List.getElem?_set_self hl]; simp
      · rw [if_neg (by omega)]
        rw [List.getElem?_eq_none (by simp; omega), List.getElem?_eq_none (by omega)]
    · rw [List.getElem?_set_ne h]
      by_cases hc : off + 1 ≤ i ∧ i < off + 1 + ys.length ∧ i < l.length
      · rw [if_pos hc, if_pos (by omega)]
        rw [show i - off = (i - (off + 1)) + 1 by omega]; simp
      · rw [if_neg hc, if_neg (by omega)]
theorem store_rel {t : TypeId} {x y : SV} {m' : List Chunk} (hI : Inv Ω η B T' ρ m w) (h : storeSV P m t x y = some m') {a v : Value} (ha : Rel η ρ x a) (hv : Rel η ρ y v) :
    ∃ w', (Instr.storeAt t a v).run P w = .ok () w' ∧ Inv Ω η B T' ρ m' w' := by
  unfold storeSV at h
  split at h
  · rename_i c off xs hx
    split at h
    · rename_i l ty hr
      split at h
      · rename_i hc
        simp only [Bool.and_eq_true] at hc
        obtain ⟨⟨⟨hc1, hc2⟩, hc3⟩, hc4⟩ := hc
        simp only [Option.some.injEq] at h; subst h
        simp only [Rel] at ha; obtain ⟨b, hb, rfl⟩ := ha
        obtain ⟨vs, h1, h2⟩ := hI.row hr hb
        obtain ⟨ys, hys, hrs⟩ := cells_rel hx hv
        obtain ⟨i, hi⟩ := Option.isSome_iff_exists.1 hc3
        have hle : off + ys.length ≤ vs.length := by rw [hrs.length, h2.length]; exact Nat.le_of_ble_eq_true hc1
        have hsz : ys.length = i.size := by rw [hrs.length, Nat.eq_of_beq_eq_true hc2, cellsOf_eq hi]
        obtain ⟨w', g1, g2, g3, g4, g5, g6, g7⟩ := run_storeCells (P := P) b ty (0, 0) ys off 0 vs w h1 (by intro i _; simp) (by simpa using hle) (Rels.cells hrs hc4)
        refine ⟨w', ?_, Inv.write hI hr hb g2 g3 g4 g5 g6 g7 (putAll_rel hrs _ h2)⟩
        have hs : v.cells.size = i.size := by rw [hys]; exact hsz
        have hl : v.cells.toList = ys := by rw [hys]
        simp only [Instr.storeAt, Instr.sureAddr, Sem.run_bind, Sem.run_pure, Result.andThen_ok, storeVar, run_sizeOf hi, hs, ne_eq, not_true_eq_false, if_false, hl, g1]
      · cases h
    · cases h
  · cases h

theorem prefix_snoc {α : Type} (l : List α) (x : α) : l <+: l ++ [x] := List.prefix_append _ _
/-- A new row. -/
theorem newVar_rel {t : TypeId} {l : List SV} {v : Value} {vs : List Value} (hI : Inv Ω η B T' ρ m w) (hv : v.cells = ⟨vs⟩) (r : Rels η ρ l vs) :
    ∃ w', (newVar t v).run P w = .ok ⟨w.heap.size, 0, none⟩ w' ∧ Inv Ω η B T' (ρ ++ [.blk w.heap.size]) (m ++ [.row l t]) w' ∧ Rel η (ρ ++ [.blk w.heap.size]) (.ptr m.length 0) (.pointer (some ⟨w.heap.size, 0, none⟩)) := by
  refine ⟨w.alloc (.cells ⟨vs⟩ t), ?_, hI.alloc t r, ?_⟩
  · simp only [newVar, newRow, hv, Sem.run_bind, run_newObj, Result.andThen_ok, Sem.run_pure]; rfl
  · simp only [Rel]
    exact ⟨_, by rw [← hI.len]; simp, rfl⟩

/-! ### Elements written -/
theorem encC_one {c : CT} {d : D} {v : Value} (h : EncC η.R c d v) : v.oneCell' = true := by
  cases c <;> simp only [EncC] at h
  · obtain ⟨n, _, rfl⟩ := h; rfl
  · obtain ⟨n, _, rfl⟩ := h; rfl
  · obtain ⟨n, _, rfl⟩ := h; rfl
  · obtain ⟨ds, _, ⟨rfl, _⟩ | ⟨a, rfl, _⟩ | ⟨b, o, cap, rfl, _⟩⟩ := h <;> rfl
theorem encE_one {t : ET} {d : D} {vs : List Value} (h : EncE η.R t d vs) : ∀ v ∈ vs, v.oneCell' = true := by
  intro v hv
  cases t with
  | one c => simp only [EncE] at h; obtain ⟨u, rfl, h⟩ := h; simp at hv; subst hv; exact encC_one h
  | row cs =>
    simp only [EncE] at h
    obtain ⟨ds, _, h⟩ := h
    obtain ⟨j, hj⟩ := List.getElem?_of_mem hv
    have hl := (encCs_length h).2
    have hjl := (List.getElem?_eq_some_iff.1 hj).1
    obtain ⟨d, v', _, h2, h3⟩ := encCs_get h (j := j) (c := cs[j]'(by omega)) (List.getElem?_eq_getElem (by omega))
    rw [hj] at h2; injection h2 with h2; subst h2
    exact encC_one h3
/-- New cells of element k. -/
theorem encA_store {t : ET} {ds : List D} {cs ys : List Value} {o k j : Nat} {d' : D} (h : EncA η.R t ds (cs.drop o)) (hk : k < ds.length) (hj : j + ys.length ≤ t.width)
    (hn : ∀ old, ((cs.drop o).drop (k * t.width)).take t.width = old → EncE η.R t d' (putAll old j ys)) : EncA η.R t (ds.set k d') ((putAll cs (o + k * t.width + j) ys).drop o) := by
  intro i d hd
  by_cases hi : i = k
  · subst hi
    rw [List.getElem?_set_self hk] at hd
    simp only [Option.some.injEq] at hd; subst hd
    have := hn _ rfl
    have hlen := encE_length (h i _ (List.getElem?_eq_getElem hk))
    have he : ((((putAll cs (o + i * t.width + j) ys).drop o).drop (i * t.width)).take t.width) = putAll (((cs.drop o).drop (i * t.width)).take t.width) j ys := by
      apply List.ext_getElem?
      intro x
      rw [putAll_get]
      rw [hlen]
      rw [List.getElem?_take, List.getElem?_take, List.drop_drop, List.drop_drop, List.getElem?_drop, List.getElem?_drop, putAll_get]
      have hcl : o + i * t.width + t.width ≤ cs.length ∨ t.width = 0 := by
        simp only [List.length_take, List.length_drop] at hlen; omega
      by_cases hx : x < t.width
      · rw [if_pos hx, if_pos hx]
        by_cases hc : j ≤ x ∧ x < j + ys.length
        · rw [if_pos (by omega), if_pos (by omega)]
          rw [show o + i * t.width + x - (o + i * t.width + j) = x - j by omega]
        · rw [if_neg (by omega), if_neg (by omega)]
      · rw [if_neg hx, if_neg hx, if_neg (by omega)]
    rw [he]; exact this
  · rw [List.getElem?_set_ne (Ne.symm hi)] at hd
    have := h i d hd
    have he : ((((putAll cs (o + k * t.width + j) ys).drop o).drop (i * t.width)).take t.width) = (((cs.drop o).drop (i * t.width)).take t.width) := by
      apply List.ext_getElem?
      intro x
      rw [List.getElem?_take, List.getElem?_take, List.drop_drop, List.drop_drop, List.getElem?_drop, List.getElem?_drop, putAll_get]
      by_cases hx : x < t.width
      · rw [if_pos hx, if_pos hx]
        rw [if_neg]
        intro hc
        rcases Nat.lt_or_gt_of_ne hi with hlt | hgt
        · have := Nat.mul_le_mul_right t.width (show i + 1 ≤ k from hlt)
          rw [Nat.add_mul] at this
          omega
        · have := Nat.mul_le_mul_right t.width (show k + 1 ≤ i from hgt)
          rw [Nat.add_mul] at this
          omega
      · rw [if_neg hx, if_neg hx]
    rw [he]; exact this
theorem putAll_self {ys old : List Value} (h : old.length = ys.length) : putAll old 0 ys = ys := by
  apply List.ext_getElem?
  intro x
  rw [putAll_get]
  by_cases hx : x < ys.length
  · rw [if_pos (by omega)]; simp
  · rw [if_neg (by omega), List.getElem?_eq_none (by omega), List.getElem?_eq_none (by omega)]
/-- The core of a store into an element. -/
theorem elem_write {t : TypeId} {et : ET} {e e' : E} {c b o n k j : Nat} {v : Value} {ys : List Value} {d' : D} (hI : Inv Ω η B T' ρ m w) (hq : arrOf m c = some (et, e)) (hb : ρ[c]? = some (.arr b o n))
    (hk : k < (e.den η).toL.length) {i : TypeInfo} (hi : P.info? t = some i) (hys : v.cells = ⟨ys⟩) (hsz : ys.length = i.size) (hj : j + ys.length ≤ et.width) (h1 : ∀ y ∈ ys, y.oneCell' = true)
    (hn : ∀ old, EncE η.R et ((e.den η).toL.getD k (.i 0)) old → EncE η.R et d' (putAll old j ys)) (he' : (e'.den η).toL = (e.den η).toL.set k d') :
    ∃ w', (Instr.storeAt t (.pointer (some ⟨b, o + k * et.width + j, none⟩)) v).run P w = .ok () w' ∧ Inv Ω η B T' ρ (m.set c (.arr et e')) w' := by
  obtain ⟨cs, ty, fz, g1, g2, g3, g4, g5⟩ := hI.arr hq hb
  have hkn : k + 1 ≤ n := by omega
  have hmul := Nat.mul_le_mul_right et.width hkn
  rw [Nat.add_mul] at hmul
  obtain ⟨w', r1, r2, r3, r4, r5, r6, r7⟩ := run_storeCells (P := P) b ty fz ys (o + k * et.width + j) 0 cs w g1 g2 (by omega) h1
  have hs : v.cells.size = i.size := by rw [hys]; exact hsz
  have hl : v.cells.toList = ys := by rw [hys]
  refine ⟨w', ?_, ?_⟩
  · simp only [Instr.storeAt, Instr.sureAddr, Sem.run_bind, Sem.run_pure, Result.andThen_ok, storeVar, run_sizeOf hi, hs, ne_eq, not_true_eq_false, if_false, hl, r1]
  · refine hI.turn (arrOf_get hq) hb (b := b) ?_ ?_ r2 r3 r4 r5 r6
    · intro F hF
      simp only [Chunk.holds] at hF
      rcases hF with ⟨b', o', n', cs', ty', fz', e1, _, _, _, _, _, e7⟩ | ⟨e1, _⟩
      · injection e1 with e1; subst e1; exact e7
      · cases e1
    · intro F hF
      simp only [Chunk.holds]
      refine .inl ⟨b, o, n, _, ty, fz, rfl, r7, ?_, ?_, ?_, ?_, hF⟩
      · rw [putAll_length]; exact g2
      · rw [he']; simpa using g3
      · rw [putAll_length]; exact g4
      · rw [he', Nat.add_zero]
        refine encA_store g5 hk hj fun old hold => hn old ?_
        rw [← hold]
        exact g5 k _ (by rw [List.getD_eq_getElem?_getD]; simp [hk])
theorem unOf_cells {c : CT} {x : SV} {e : E} (h : unOf c x = some e) : x.cells = some [x] ∧ x.cellish = true := by
  unfold unOf at h
  split at h
  · exact ⟨rfl, rfl⟩
  · exact ⟨rfl, rfl⟩
  · exact ⟨rfl, rfl⟩
  · cases h
theorem elemStore_rel {t : TypeId} {et : ET} {e e' i : E} {c j : Nat} {y : SV} (hI : Inv Ω η B T' ρ m w) (hq : arrOf m c = some (et, e)) (h : elemStore P t et e i j y = some e')
    (hlt : ((mk2 .lt i (mk1 .lenL e)).den η).toB = true) {a v : Value} (ha : Rel η ρ (.eptr c et.width i j) a) (hv : Rel η ρ y v) :
    ∃ w', (Instr.storeAt t a v).run P w = .ok () w' ∧ Inv Ω η B T' ρ (m.set c (.arr et e')) w' := by
  simp only [Rel] at ha
  obtain ⟨b, o, n, k, hb, hk, rfl⟩ := ha
  have hlt := lt_of hlt
  rw [den_lenL, hk] at hlt
  have hkl : k < (e.den η).toL.length := by omega
  unfold elemStore at h
  split at h
  · -- a whole element
    split at h
    · rename_i hc
      simp only [Bool.and_eq_true] at hc
      obtain ⟨⟨hj, hsz⟩, hinf⟩ := hc
      have hj := Nat.eq_of_beq_eq_true hj
      have hsz := Nat.eq_of_beq_eq_true hsz
      subst hj
      obtain ⟨inf, hi⟩ := Option.isSome_iff_exists.1 hinf
      split at h
      · rename_i l
        split at h
        · rename_i es hes
          rw [Option.map_eq_some_iff] at h
          obtain ⟨d, hd, rfl⟩ := h
          simp only [Rel] at hv
          obtain ⟨ys, rfl, hr⟩ := hv
          have hE := unOfs_enc hes hr
          have hEE : EncE η.R et (d.den η) ys := by
            unfold elemOf at hd
            cases et with
            | one c' =>
              cases es with
              | nil => simp at hd
              | cons e1 es =>
                cases es with
                | cons _ _ => simp at hd
                | nil =>
                  simp only [Option.some.injEq] at hd; subst hd
                  simp only [ET.cts, List.map_cons, List.map_nil, EncCs] at hE
                  obtain ⟨d1, dr, v1, vr, e1', rfl, h1, rfl, rfl⟩ := hE
                  simp at e1'; subst e1'
                  simp only [EncE]
                  exact ⟨v1, rfl, h1⟩
            | row cs =>
              simp only [Option.some.injEq] at hd; subst hd
              simp only [EncE]
              exact ⟨_, den_mkRow η es, hE⟩
          have hl := encE_length hEE
          refine elem_write (d' := d.den η) hI hq hb hkl hi rfl (by rw [hl, ← hsz, cellsOf_eq hi]) (by omega) (encE_one hEE) ?_ ?_
          · intro old hold
            rw [putAll_self (by rw [encE_length hold, hl])]
            exact hEE
          · rw [den_mk3]; simp [O3.den, toL_ls, hk]
        · cases h
      · cases h
    · cases h
  · split at h
    · rename_i hc
      simp only [Bool.and_eq_true] at hc
      obtain ⟨hsz, hinf⟩ := hc
      have hsz := Nat.eq_of_beq_eq_true hsz
      obtain ⟨inf, hi⟩ := Option.isSome_iff_exists.1 hinf
      split at h
      · rename_i c' ct hct
        rw [Option.map_eq_some_iff] at h
        obtain ⟨d, hd, rfl⟩ := h
        obtain ⟨q1, q2⟩ := unOf_cells hd
        obtain ⟨ys, hys, hr⟩ := cells_rel q1 hv
        have hvy : ys = [v] := by
          simp only [Rels] at hr
          obtain ⟨v', r, rfl, hr1, rfl⟩ := hr
          have := Rel.cell q2 hv
          cases v <;> first | (simp [Value.cells] at hys; rw [← hys]) | (simp [Value.oneCell'] at this)
        subst hvy
        have hE := unOf_enc hd hv
        simp only [ET.cts] at hct
        cases j with
        | succ j => simp at hct
        | zero =>
          simp at hct; subst hct
          refine elem_write (d' := d.den η) hI hq hb hkl hi hys (by rw [← cellsOf_eq hi, hsz]; rfl) (by simp [ET.width, ET.cts]) ?_ ?_ ?_
          · intro y hy; simp at hy; subst hy; exact encC_one hE
          · intro old hold
            rw [putAll_self (by rw [encE_length hold]; rfl)]
            simp only [EncE]
            exact ⟨v, rfl, hE⟩
          · rw [den_mk3]; simp [O3.den, toL_ls, hk]
      · rename_i cs ct hct
        rw [Option.map_eq_some_iff] at h
        obtain ⟨d, hd, rfl⟩ := h
        obtain ⟨q1, q2⟩ := unOf_cells hd
        obtain ⟨ys, hys, hr⟩ := cells_rel q1 hv
        have hvy : ys = [v] := by
          simp only [Rels] at hr
          obtain ⟨v', r, rfl, hr1, rfl⟩ := hr
          have := Rel.cell q2 hv
          cases v <;> first | (simp [Value.cells] at hys; rw [← hys]) | (simp [Value.oneCell'] at this)
        subst hvy
        have hE := unOf_enc hd hv
        simp only [ET.cts] at hct
        have hjl : j < cs.length := (List.getElem?_eq_some_iff.1 hct).1
        refine elem_write (d' := .ls ((((e.den η).toL.getD k (.i 0)).toL).set j (d.den η))) hI hq hb hkl hi hys (by rw [← cellsOf_eq hi, hsz]; rfl) (by simp [ET.width, ET.cts]; omega) ?_ ?_ ?_
        · intro y hy; simp at hy; subst hy; exact encC_one hE
        · intro old hold
          simp only [EncE] at hold ⊢
          obtain ⟨ds, hds, hold⟩ := hold
          refine ⟨ds.set j (d.den η), by rw [hds]; rfl, ?_⟩
          simp only [putAll]
          exact encCs_set hold hct hE
        · rw [den_mk3]; simp [O3.den, toL_ls, hk]
      · cases h
    · cases h
  · cases h
end
end Go.Sy
