/- The symbolic executor, fifth part: the operations that hang on their operands alone are as the model has them. Own work of this session. -/
import Derived.Test.YtbbippgnmllcoaaSyD
set_option linter.unusedVariables false
set_option linter.unusedSimpArgs false
namespace Go.Sy
section
variable {P : Program} {η : Env} {ρ : List Hd}

theorem run_typeInfo {t : TypeId} {i : TypeInfo} (h : P.info? t = some i) (w : World) : (typeInfo t).run P w = .ok i w := by simp [typeInfo, h]
theorem run_sizeOf {t : TypeId} {i : TypeInfo} (h : P.info? t = some i) (w : World) : (sizeOf t).run P w = .ok i.size w := by simp [sizeOf, run_typeInfo h]
theorem cellsOf_eq {t : TypeId} {i : TypeInfo} (h : P.info? t = some i) : P.cellsOf t = i.size := by simp [Program.cellsOf, h]
theorem run_isAgg {t : TypeId} {b : Bool} (h : Sy.isAgg P t = some b) (w : World) : (Go.isAgg t).run P w = .ok b w := by
  unfold Sy.isAgg at h
  unfold Go.isAgg
  split at h
  · rename_i fs hu; simp only [Option.some.injEq] at h; subst h; simp [run_underlying hu]
  · rename_i n e hu; simp only [Option.some.injEq] at h; subst h; simp [run_underlying hu]
  · rename_i d h1 h2 hu
    simp only [Option.some.injEq] at h; subst h
    simp only [Sem.run_bind, run_underlying hu, Result.andThen_ok]
    rename_i d'
    cases d' <;> simp_all
  · cases h
theorem exec_v (s : Sem Value) (w : World) : (do pure (Next.value (← s)) : Sem Next).run P w = (s.run P w).andThen fun v w' => .ok (.value v) w' := by
  simp [Sem.run_bind]

theorem toList_inj {α : Type} {a : Array α} {l : List α} (h : a.toList = l) : a = ⟨l⟩ := by cases a; simp at h; subst h; rfl
theorem ofScalar_rel : ∀ (v : Value), Rel η ρ (ofScalar v) v := by
  intro v
  unfold ofScalar
  split
  · simp only [Rel, E.den, D.toB]
  · simp only [Rel, eInt, E.den, D.toI]
  · rename_i s; simp only [Rel, E.den, D.toS]
  · simp only [Rel]
  · simp only [Rel]
  · split
    · rename_i h1 h2
      simp only [Rel]
      rw [toList_inj h1, toList_inj h2]
    · simp only [Rel]
  · simp only [Rel]
theorem ofValue_rel (v : Value) : Rel η ρ (ofValue v) v := by
  unfold ofValue
  split
  · rename_i cs
    dsimp only
    split
    · simp only [Rel]
      refine ⟨cs.toList, rfl, ?_⟩
      have := Rels.map (η := η) (ρ := ρ) (f := ofScalar) (g := fun v => v) cs.toList (fun v _ => ofScalar_rel v)
      simpa using this
    · simp only [Rel]
  · rename_i cs
    split
    · rename_i h
      simp only [Rel]
      exact ⟨[], by rw [toList_inj h], Rels.nil⟩
    · simp only [Rel]
  · exact ofScalar_rel v
theorem ofCell_rel (v : Value) : Rel η ρ (ofCell v) v := by
  unfold ofCell
  split
  · simp only [Rel]
  · simp only [Rel]
  · rename_i h1 h2
    split
    · simp only [Rel]
      cases v <;> first | rfl | (exfalso; exact h1 _ rfl) | (exfalso; exact h2 _ rfl)
    · exact ofScalar_rel v

theorem opd_rel {s : St} {a : Act} (h : Rels η ρ s.fr a.tmps.toList) (x : Operand) : Rel η ρ (opd s x) (a.eval x) := by
  cases x with
  | tmp t =>
    have := h.getD t
    simp only [opd, Act.eval]
    simpa [Array.getD_eq_getD_getElem?] using this
  | const v => exact ofValue_rel v
  | global g => simp only [opd, Rel]
  | func f => simp only [opd, Rel, Act.eval]

theorem cells_rel {x : SV} {l : List SV} {v : Value} (hx : x.cells = some l) (h : Rel η ρ x v) : ∃ vs, v.cells = ⟨vs⟩ ∧ Rels η ρ l vs := by
  unfold SV.cells at hx
  split at hx
  · simp only [Option.some.injEq] at hx; subst hx
    simp only [Rel] at h
    obtain ⟨vs, rfl, h2⟩ := h
    exact ⟨vs, rfl, h2⟩
  · cases hx
  · cases hx
  · rename_i h1 h2 h3
    simp only [Option.some.injEq] at hx; subst hx
    have hc : x.cellish = true := by cases x <;> first | rfl | (exfalso; exact h1 _ rfl) | (exfalso; exact h2 rfl) | (exfalso; exact h3 _ rfl)
    have := Rel.cell hc h
    refine ⟨[v], ?_, Rels.cons h Rels.nil⟩
    cases v <;> first | rfl | (simp [Value.oneCell'] at this)

theorem zeroOf_rel {t : TypeId} {x : SV} (h : zeroOf P t = some x) : ∃ v, (∀ w, (zeroValue t).run P w = .ok v w) ∧ Rel η ρ x v := by
  unfold zeroOf at h
  split at h
  · rename_i i hi
    split at h
    · rename_i cs hz
      dsimp only at h
      split at h
      · simp only [Option.some.injEq] at h; subst h
        refine ⟨.agg cs, fun w => by simp [zeroValue, run_typeInfo hi, hz], ?_⟩
        simp only [Rel]
        refine ⟨cs.toList, rfl, ?_⟩
        have := Rels.map (η := η) (ρ := ρ) (f := ofCell) (g := fun v => v) cs.toList (fun v _ => ofCell_rel v)
        simpa using this
      · cases h
    · rename_i v _ hz
      simp only [Option.some.injEq] at h; subst h
      exact ⟨v, fun w => by simp [zeroValue, run_typeInfo hi, hz], ofCell_rel v⟩
    · cases h
  · cases h
theorem zeroOf_cells {t : TypeId} {x : SV} {l : List SV} (h : zeroOf P t = some x) (hx : x.cells = some l) : l.all SV.cellish = true := by
  unfold zeroOf at h
  split at h
  · split at h
    · dsimp only at h
      split at h
      · rename_i hc
        simp only [Option.some.injEq] at h; subst h
        simp only [SV.cells, Option.some.injEq] at hx; subst hx
        exact hc
      · cases h
    · rename_i v hne hz
      simp only [Option.some.injEq] at h; subst h
      unfold ofCell at hx
      split at hx
      · cases hx
      · cases hx
      · split at hx
        · simp only [SV.cells, Option.some.injEq] at hx; subst hx; rfl
        · rename_i y hy
          unfold ofScalar at hx
          split at hx <;> first
            | (simp only [SV.cells, Option.some.injEq] at hx; subst hx; rfl)
            | (split at hx <;> first | (simp only [SV.cells, Option.some.injEq] at hx; subst hx; rfl) | cases hx)
            | cases hx
    · cases h
  · cases h
theorem zeroCells_rel {t : TypeId} {l : List SV} (h : zeroCellsSV P t = some l) :
    ∃ v vs, (∀ w, (zeroValue t).run P w = .ok v w) ∧ v.cells = ⟨vs⟩ ∧ Rels η ρ l vs ∧ l.all SV.cellish = true := by
  unfold zeroCellsSV at h
  rw [Option.bind_eq_some_iff] at h
  obtain ⟨x, h1, h2⟩ := h
  obtain ⟨v, h3, h4⟩ := zeroOf_rel (η := η) (ρ := ρ) h1
  obtain ⟨vs, h5, h6⟩ := cells_rel h2 h4
  exact ⟨v, vs, h3, h5, h6, zeroOf_cells h1 h2⟩

theorem extract_mk (vs : List Value) (a n : Nat) : (⟨vs⟩ : Array Value).extract a (a + n) = ⟨(vs.drop a).take n⟩ := by
  apply Array.ext'
  rw [Array.toList_extract]
  simp [List.extract]
theorem part_rel {t : TypeId} {l : List SV} {vs : List Value} (r : Rels η ρ l vs) {off : Nat} {x : SV} (h : partSV P t l off = some x) :
    ∃ v, Rel η ρ x v ∧ ∀ w, (part t ⟨vs⟩ off).run P w = .ok v w := by
  unfold partSV at h
  split at h
  · rename_i ha
    split at h
    · rename_i hc
      simp only [Bool.and_eq_true] at hc
      simp only [Option.some.injEq] at h; subst h
      obtain ⟨i, hi⟩ := Option.isSome_iff_exists.1 hc.2
      refine ⟨.agg ⟨(vs.drop off).take (P.cellsOf t)⟩, ?_, fun w => ?_⟩
      · simp only [Rel]; exact ⟨_, rfl, Rels.take _ (Rels.drop _ r)⟩
      · simp only [part, Sem.run_bind, run_isAgg ha, Result.andThen_ok, if_true, run_sizeOf hi, Sem.run_pure, ← cellsOf_eq hi, extract_mk]
    · cases h
  · rename_i ha
    obtain ⟨v, h1, h2⟩ := r.get h
    refine ⟨v, h2, fun w => ?_⟩
    simp only [part, Sem.run_bind, run_isAgg ha, Result.andThen_ok, Bool.false_eq_true, if_false]
    have : (⟨vs⟩ : Array Value)[off]? = some v := by simpa using h1
    simp [this]
  · cases h

theorem putAll_rel : ∀ {xs : List SV} {ys : List Value}, Rels η ρ xs ys → ∀ {l : List SV} {vs : List Value} (off : Nat), Rels η ρ l vs → Rels η ρ (putAll l off xs) (putAll vs off ys)
  | [], _, r, _, _, _, h => by simp only [Rels] at r; subst r; exact h
  | x :: xs, _, r, l, vs, off, h => by
    simp only [Rels] at r
    obtain ⟨u, t, rfl, h2, h3⟩ := r
    exact putAll_rel h3 (off + 1) (h.set off h2)
theorem foldl_put (ys : List Value) : ∀ (n off : Nat) (cs : Array Value), ((ys.zipIdx n).foldl (fun (cs : Array Value) (p : Value × Nat) => cs.setIfInBounds (off + p.2) p.1) cs) = ⟨putAll cs.toList (off + n) ys⟩ := by
  induction ys with
  | nil => intro n off cs; simp [putAll]
  | cons y ys ih =>
    intro n off cs
    simp only [List.zipIdx_cons, List.foldl_cons, putAll]
    rw [ih]
    simp [Nat.add_assoc]
theorem fill_step (off : Nat) (v : Value) (cells : Array Value) :
    (v.cells.zipIdx.foldl (fun cs (p : Value × Nat) => cs.setIfInBounds (off + p.2) p.1) cells) = ⟨putAll cells.toList off v.cells.toList⟩ := by
  rw [← Array.foldl_toList, Array.toList_zipIdx, foldl_put]
  simp
theorem putAll_length {α : Type} : ∀ (xs : List α) (l : List α) (off : Nat), (putAll l off xs).length = l.length
  | [], _, _ => rfl
  | x :: xs, l, off => by simp only [putAll]; rw [putAll_length xs]; simp
theorem fill_rel {place : Nat → Option (Nat × Nat)} : ∀ {parts : List (Nat × SV)} {vparts : List (Nat × Value)} {cells out : List SV} {vs : List Value},
    vparts.map (·.1) = parts.map (·.1) → Rels η ρ (parts.map (·.2)) (vparts.map (·.2)) → Rels η ρ cells vs → fillSV place cells parts = some out →
    ∃ vo, Instr.fill place ⟨vs⟩ vparts = some ⟨vo⟩ ∧ Rels η ρ out vo
  | [], vparts, cells, out, vs, h1, h2, h3, h => by
    cases vparts with
    | nil => simp only [fillSV, Option.some.injEq] at h; subst h; exact ⟨vs, rfl, h3⟩
    | cons p r => simp at h1
  | (i, x) :: rest, vparts, cells, out, vs, h1, h2, h3, h => by
    cases vparts with
    | nil => simp at h1
    | cons p r =>
      obtain ⟨j, v⟩ := p
      simp only [List.map_cons, List.cons.injEq] at h1
      obtain ⟨rfl, h1⟩ := h1
      have h2 := Rels.inv h2
      simp only [fillSV] at h
      split at h
      · rename_i off n xs hp hx
        split at h
        · rename_i hc
          simp only [Bool.and_eq_true] at hc
          obtain ⟨ys, hv, hr⟩ := cells_rel hx h2.1
          have hn : ys.length = n := by rw [hr.length]; exact Nat.eq_of_beq_eq_true hc.1
          have hle : off + ys.length ≤ vs.length := by rw [hr.length, h3.length]; exact Nat.le_of_ble_eq_true hc.2
          have := fill_rel h1 h2.2 (putAll_rel hr off h3) h
          obtain ⟨vo, e1, e2⟩ := this
          refine ⟨vo, ?_, e2⟩
          simp only [Instr.fill, hp]
          have hs : v.cells.size = ys.length := by rw [hv]; rfl
          rw [if_neg]
          · rw [fill_step]; simp only [hv]; exact e1
          · rw [hs]
            intro hbad
            simp at hbad
            omega
        · cases h
      · cases h
theorem placesOf_run : ∀ {fs : List Field} {ps : List (Nat × Nat)}, placesOf P fs = some ps → ∀ w, (fs.mapM fun f => (do pure (f.offset, ← sizeOf f.type) : Sem (Nat × Nat))).run P w = .ok ps w
  | [], ps, h, w => by simp only [placesOf, Option.some.injEq] at h; subst h; simp
  | f :: r, ps, h, w => by
    simp only [placesOf] at h
    split at h
    · rename_i i l hi hl
      simp only [Option.some.injEq] at h; subst h
      have ih := placesOf_run hl
      simp only [List.mapM_cons, Sem.run_bind, run_sizeOf hi, Result.andThen_ok, Sem.run_pure, ih]
    · cases h
theorem build_rel {t : TypeId} {parts : List (Nat × SV)} {vparts : List (Nat × Value)} {x : SV} (h1 : vparts.map (·.1) = parts.map (·.1))
    (h2 : Rels η ρ (parts.map (·.2)) (vparts.map (·.2))) (h : buildSV P t parts = some x) : ∃ v, Rel η ρ x v ∧ ∀ w, (Instr.build t ⟨vparts⟩).run P w = .ok v w := by
  unfold buildSV at h
  split at h
  · rename_i z fs hz hu
    split at h
    · rename_i ps hp
      rw [Option.map_eq_some_iff] at h
      obtain ⟨out, ho, rfl⟩ := h
      obtain ⟨v, vs, g1, g2, g3, _⟩ := zeroCells_rel (η := η) (ρ := ρ) hz
      obtain ⟨vo, e1, e2⟩ := fill_rel h1 h2 g3 ho
      refine ⟨.agg ⟨vo⟩, by simp only [Rel]; exact ⟨vo, rfl, e2⟩, fun w => ?_⟩
      have hm : (fs.mapM fun f => (do pure (f.offset, ← sizeOf f.type) : Sem (Nat × Nat))).run P w = .ok ⟨ps⟩ w := by
        rw [Array.mapM_eq_mapM_toList, Sem.run_map, placesOf_run hp w]; rfl
      simp only [Instr.build, Sem.run_bind, g1, Result.andThen_ok, run_underlying hu, hm, g2]
      have hf : (fun x : Nat => (⟨ps⟩ : Array (Nat × Nat))[x]?) = fun x : Nat => ps[x]? := by funext x; simp
      rw [hf, e1]
      simp
    · cases h
  · rename_i z n elem hz hu
    split at h
    · rename_i i hi
      rw [Option.map_eq_some_iff] at h
      obtain ⟨out, ho, rfl⟩ := h
      obtain ⟨v, vs, g1, g2, g3, _⟩ := zeroCells_rel (η := η) (ρ := ρ) hz
      obtain ⟨vo, e1, e2⟩ := fill_rel h1 h2 g3 ho
      refine ⟨.agg ⟨vo⟩, by simp only [Rel]; exact ⟨vo, rfl, e2⟩, fun w => ?_⟩
      simp only [Instr.build, Sem.run_bind, g1, Result.andThen_ok, run_underlying hu, run_sizeOf hi, g2]
      rw [e1]
      simp
    · cases h
  · cases h
end
end Go.Sy
