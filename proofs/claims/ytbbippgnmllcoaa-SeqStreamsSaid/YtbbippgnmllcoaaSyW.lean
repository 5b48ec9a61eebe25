/- The symbolic executor, nineteenth part: arguments that are slices, with the reach's bound of their texts. Own work. -/
import Derived.Test.YtbbippgnmllcoaaSyV
set_option linter.unusedVariables false
set_option linter.unusedSimpArgs false
namespace Go.Sy
open Go.ChangeShapes Go.WideShapes Go.ChangeAt Go.RowKit
mutual
/-- Each text in it is no longer than B. -/
def InS (B : Nat) : CT → D → Prop
  | .int _, _ => True
  | .bool, _ => True
  | .str, d => d.toS.length ≤ B
  | .sl t, d => ∀ x ∈ d.toL, InSE B t x
def InSE (B : Nat) : ET → D → Prop
  | .one c, d => InS B c d
  | .row cs, d => InSs B cs d.toL
def InSs (B : Nat) : List CT → List D → Prop
  | [], [] => True
  | c :: cs, d :: ds => InS B c d ∧ InSs B cs ds
  | _, _ => False
end
section
variable {H : Type} {enc : TypeId × Value → H} {P : Program} {w : World} {base : Nat} {held : Bool} {B : Nat}
theorem mem_weightsAll {e : TypeId} : ∀ {l : List (DataW H)} {d : DataW H} {m : Nat}, d ∈ l → m ∈ d.weights P e → m ∈ DataW.weightsAll P e l
  | [], _, _, h, _ => by cases h
  | a :: l, d, m, h, hm => by
    simp only [DataW.weightsAll, List.mem_append]
    rcases List.mem_cons.1 h with rfl | h
    · exact .inl hm
    · exact .inr (mem_weightsAll h hm)
theorem mem_weightsEach : ∀ {ts : List TypeId} {l : List (DataW H)} {i : Nat} {t : TypeId} {d : DataW H} {m : Nat}, ts[i]? = some t → l[i]? = some d → m ∈ d.weights P t → m ∈ DataW.weightsEach P ts l
  | [], _, _, _, _, _, h, _, _ => by simp at h
  | _ :: _, [], _, _, _, _, _, h, _ => by simp at h
  | a :: ts, b :: l, 0, t, d, m, h, h', hm => by
    simp only [List.getElem?_cons_zero, Option.some.injEq] at h h'
    subst h h'
    simp only [DataW.weightsEach, List.mem_append]
    exact .inl hm
  | a :: ts, b :: l, i + 1, t, d, m, h, h', hm => by
    simp only [List.getElem?_cons_succ] at h h'
    simp only [DataW.weightsEach, List.mem_append]
    exact .inr (mem_weightsEach h h' hm)
mutual
theorem trod_ctS : ∀ (n : Nat) (t : TypeId) (c : CT) (fuel : Nat) (v : Value) (x : DataW H × List MemPlace), ctOk P n t c = true → DataW.trod enc P w base (fun _ => true) held fuel t [v] = some x → (∀ m ∈ x.1.weights P t, m ≤ B) → ∃ d, EncC (blocksOf w) c d v ∧ InC c d ∧ InS B c d
  | 0, _, _, _, _, _, h, _, _ => by simp [ctOk] at h
  | n + 1, t, .int k, fuel, v, x, h, ht, hz => by
    simp only [ctOk] at h
    split at h
    · rename_i k' hu
      have := of_decide_eq_true h; subst this
      obtain ⟨m, e, _, hw⟩ := DataW.trod_int hu ht
      injection e with e _; subst e
      exact ⟨.i m, by simp only [EncC]; exact ⟨m, rfl, rfl⟩, by simp only [InC, toI_i]; exact wf_has hw, by simp only [InS]⟩
    · cases h
  | n + 1, t, .bool, fuel, v, x, h, ht, hz => by
    simp only [ctOk] at h
    split at h
    · rename_i hu
      obtain ⟨m, e, _⟩ := DataW.trod_bool hu ht
      injection e with e _; subst e
      exact ⟨.b m, by simp only [EncC]; exact ⟨m, rfl, rfl⟩, by simp only [InC], by simp only [InS]⟩
    · cases h
  | n + 1, t, .str, fuel, v, x, h, ht, hz => by
    simp only [ctOk] at h
    split at h
    · rename_i hu
      obtain ⟨s, e, ex, hw⟩ := DataW.trod_string hu ht
      injection e with e _; subst e
      refine ⟨.s s.data.toList, by simp only [EncC]; exact ⟨s.data.toList, rfl, rfl⟩, ?_, by
        subst ex
        simp only [InS, toS_s]
        exact hz _ (by simp [DataW.weights])⟩
      simp only [InC, toS_s]
      have : s.data.toList.length = s.size := Array.length_toList
      rw [maxLenE] at hw
      omega
    · cases h
  | n + 1, t, .sl et, fuel, v, x, h, ht, hz => by
    simp only [ctOk] at h
    split at h
    · rename_i e hu
      simp only [Bool.and_eq_true] at h
      obtain ⟨⟨hE, hw⟩, hpos⟩ := h
      have hw := Nat.eq_of_beq_eq_true hw
      have hpos : 0 < et.width := by simpa [Nat.blt_eq] using hpos
      rcases DataW.trod_slice hu ht with ⟨e1, _⟩ | ⟨a, len, cap, elems, rest, m, _, e1, ex, _, hlc, hcm, hlen, hel, hrest, _⟩
      · injection e1 with e1 _; subst e1
        exact ⟨.ls [], by simp only [EncC]; exact ⟨[], rfl, .inl ⟨trivial, rfl⟩⟩, by simp only [InC, toL_ls]; simp, by simp only [InS, toL_ls]; simp⟩
      · injection e1 with e1 _; subst e1
        have each : ∀ i, i < len → ∃ d cs, w.cells? base (a.add (i * P.cellsOf e)) (P.cellsOf e) = some cs ∧ EncE (blocksOf w) et d cs ∧ InE et d ∧ InSE B et d := by
          intro i hi
          have hb := hel i hi
          have hg : elems[i]? = some (elems[i]'(by omega)) := List.getElem?_eq_getElem (by omega)
          rw [hg, Option.bind_eq_some_iff] at hb
          obtain ⟨cs, h1, h2⟩ := hb
          obtain ⟨d, g1, g2, g3⟩ := trod_etS n e et m cs _ hE h2 (fun z hz' => by
            refine hz z ?_
            subst ex
            simp only [DataW.weights, hu, List.mem_cons, List.mem_append]
            exact .inr (.inl (mem_weightsAll (List.mem_map.2 ⟨elems[i]'(by omega), List.getElem_mem _, rfl⟩) hz')))
          exact ⟨d, cs, h1, g1, g2, g3⟩
        have hch : ∀ k, k ≤ len → ∃ ds : List D, ds.length = k ∧ ∀ i d, ds[i]? = some d → ∃ cs, w.cells? base (a.add (i * P.cellsOf e)) (P.cellsOf e) = some cs ∧ EncE (blocksOf w) et d cs ∧ InE et d ∧ InSE B et d := by
          intro k
          induction k with
          | zero => intro _; exact ⟨[], rfl, by simp⟩
          | succ k ih =>
            intro hk
            obtain ⟨ds, l1, l2⟩ := ih (by omega)
            obtain ⟨d, cs, q⟩ := each k (by omega)
            refine ⟨ds ++ [d], by simp [l1], fun i d' hd => ?_⟩
            rcases getElem?_snoc hd with ⟨_, hd⟩ | ⟨rfl, rfl⟩
            · exact l2 i d' hd
            · rw [l1]; exact ⟨cs, q⟩
        obtain ⟨ds, hdl, hds⟩ := hch len (Nat.le_refl _)
        have hin : InC (.sl et) (.ls ds) := by
          simp only [InC, toL_ls]
          refine ⟨by rw [maxLenE] at hcm; omega, fun y hy => ?_⟩
          obtain ⟨i, hi⟩ := List.getElem?_of_mem hy
          obtain ⟨_, _, _, h3, _⟩ := hds i y hi
          exact h3
        have hin2 : InS B (.sl et) (.ls ds) := by
          simp only [InS, toL_ls]
          intro y hy
          obtain ⟨i, hi⟩ := List.getElem?_of_mem hy
          obtain ⟨_, _, _, _, h3⟩ := hds i y hi
          exact h3
        refine ⟨.ls ds, ?_, hin, hin2⟩
        simp only [EncC]
        refine ⟨ds, rfl, ?_⟩
        have hblk : ∀ i, (a.add i).block = a.block := by intro i; unfold Addr.add; split <;> rfl
        rcases Nat.eq_zero_or_pos cap with hc0 | hc0
        · right; left
          have h0 : len = 0 := by omega
          exact ⟨a, by rw [hc0, h0], List.eq_nil_of_length_eq_zero (by omega)⟩
        · right; right
          have hsn : a.spot = none := by
            rcases Nat.eq_zero_or_pos len with h0 | h0
            · have hr := (hrest rfl).2 0 (by omega)
              have hr1 := (hrest rfl).1
              have hg : rest[0]? = some (rest[0]'(by omega)) := List.getElem?_eq_getElem (by omega)
              rw [hg, Option.bind_eq_some_iff] at hr
              obtain ⟨cs, h1, _⟩ := hr
              have := (cells_block h1 (by omega)).1
              rw [h0] at this
              simpa [Addr.add] using this
            · obtain ⟨d, cs, h1, _⟩ := each 0 h0
              have := (cells_block h1 (by omega)).1
              simpa [Addr.add] using this
          obtain ⟨b, o, spt⟩ := a
          simp only at hsn; subst hsn
          refine ⟨b, o, cap, by rw [hdl], by omega, fun hne => ?_⟩
          have hl0 : 0 < len := by
            rcases Nat.eq_zero_or_pos len with h0 | h0
            · exact absurd (List.eq_nil_of_length_eq_zero (by omega)) hne
            · exact h0
          obtain ⟨d0, cs0, h1, _⟩ := each 0 hl0
          obtain ⟨_, bl, hbl, _⟩ := cells_block h1 (by omega)
          rw [hblk] at hbl
          refine ⟨bl, hbl, fun i d hd => ?_⟩
          obtain ⟨cs, q1, q2, _⟩ := hds i d hd
          obtain ⟨_, bl', hbl', hcs⟩ := cells_block q1 (by omega)
          rw [hblk] at hbl'
          have hbb : bl' = bl := by
            have : blocksOf w b = some bl' := hbl'
            rw [show blocksOf w b = some bl from hbl] at this
            injection this with this; exact this.symm
          subst hbb
          rw [add_mk] at hcs
          simp only at hcs
          rw [← hw, ← hcs]
          exact q2
    · cases h
theorem trod_etS : ∀ (n : Nat) (t : TypeId) (et : ET) (fuel : Nat) (vs : List Value) (x : DataW H × List MemPlace), etOk P n t et = true → DataW.trod enc P w base (fun _ => true) held fuel t vs = some x → (∀ m ∈ x.1.weights P t, m ≤ B) → ∃ d, EncE (blocksOf w) et d vs ∧ InE et d ∧ InSE B et d
  | 0, _, _, _, _, _, h, _, _ => by simp [etOk] at h
  | n + 1, t, .one c, fuel, vs, x, h, ht, hz => by
    simp only [etOk, Bool.and_eq_true] at h
    have hone : ∃ v, vs = [v] := by
      cases c with
      | int k =>
        cases n with
        | zero => simp [ctOk] at h
        | succ n =>
          simp only [ctOk] at h
          split at h
          · rename_i k' hu; obtain ⟨m, e, _⟩ := DataW.trod_int hu ht; exact ⟨_, e⟩
          · simp at h
      | bool =>
        cases n with
        | zero => simp [ctOk] at h
        | succ n =>
          simp only [ctOk] at h
          split at h
          · rename_i hu; obtain ⟨m, e, _⟩ := DataW.trod_bool hu ht; exact ⟨_, e⟩
          · simp at h
      | str =>
        cases n with
        | zero => simp [ctOk] at h
        | succ n =>
          simp only [ctOk] at h
          split at h
          · rename_i hu; obtain ⟨m, e, _⟩ := DataW.trod_string hu ht; exact ⟨_, e⟩
          · simp at h
      | sl et =>
        cases n with
        | zero => simp [ctOk] at h
        | succ n =>
          simp only [ctOk] at h
          split at h
          · rename_i e' hu
            rcases DataW.trod_slice hu ht with ⟨e1, _⟩ | ⟨a, len, cap, elems, rest, m, _, e1, _⟩
            · exact ⟨_, e1⟩
            · exact ⟨_, e1⟩
          · simp at h
    obtain ⟨v, rfl⟩ := hone
    obtain ⟨d, h1, h2, h3⟩ := trod_ctS n t c fuel v x h.1 ht hz
    exact ⟨d, by simp only [EncE]; exact ⟨v, rfl, h1⟩, by simp only [InE]; exact h2, by simp only [InSE]; exact h3⟩
  | n + 1, t, .row cs, fuel, vs, x, h, ht, hz => by
    simp only [etOk] at h
    split at h
    · rename_i fs hu
      simp only [Bool.and_eq_true] at h
      obtain ⟨xs, m, _, ex, hl, hlen, hf⟩ := DataW.trod_struct hu ht
      have hcl := Nat.eq_of_beq_eq_true h.2
      obtain ⟨ds, h1, h2, h3⟩ := trod_fsS n 0 fs.toList cs m vs h.1 (by rw [hl, hcl]; omega) (fun i f hi => by
        have := hf i f (by simpa using hi)
        have hlt : i < xs.length := by rw [hlen]; have := (List.getElem?_eq_some_iff.1 hi).1; simpa using this
        refine ⟨_, this.trans (List.getElem?_eq_getElem hlt), fun z hz' => hz z ?_⟩
        subst ex
        simp only [DataW.weights, hu]
        exact mem_weightsEach (i := i) (by rw [List.getElem?_map, hi]; rfl) (by rw [List.getElem?_map, List.getElem?_eq_getElem hlt]; rfl) hz')
      refine ⟨.ls ds, by simp only [EncE]; exact ⟨ds, rfl, by simpa using h1⟩, by simp only [InE, toL_ls]; exact h2, by simp only [InSE, toL_ls]; exact h3⟩
    · cases h
theorem trod_fsS : ∀ (n : Nat) (o : Nat) (fs : List Field) (cs : List CT) (fuel : Nat) (vs : List Value), fsOk P n o fs cs = true → vs.length = o + cs.length →
    (∀ (i : Nat) (f : Field), fs[i]? = some f → ∃ y, DataW.trod enc P w base (fun _ => true) held fuel f.type ((vs.drop f.offset).take (P.cellsOf f.type)) = some y ∧ ∀ m ∈ y.1.weights P f.type, m ≤ B) → ∃ ds, EncCs (blocksOf w) cs ds (vs.drop o) ∧ InCs cs ds ∧ InSs B cs ds
  | 0, _, _, _, _, _, h, _, _ => by simp [fsOk] at h
  | n + 1, o, [], [], fuel, vs, h, hl, _ => ⟨[], by simp only [EncCs]; exact ⟨trivial, List.drop_eq_nil_of_le (by simp at hl; omega)⟩, by simp only [InCs], by simp only [InSs]⟩
  | n + 1, o, [], _ :: _, fuel, vs, h, _, _ => by simp [fsOk] at h
  | n + 1, o, _ :: _, [], fuel, vs, h, _, _ => by simp [fsOk] at h
  | n + 1, o, f :: fs, c :: cs, fuel, vs, h, hl, hf => by
    simp only [fsOk, Bool.and_eq_true] at h
    obtain ⟨⟨⟨h1, h2⟩, h3⟩, h4⟩ := h
    have e1 := Nat.eq_of_beq_eq_true h1
    have e2 := Nat.eq_of_beq_eq_true h2
    obtain ⟨y, hy, hy2⟩ := hf 0 f rfl
    rw [e1, e2] at hy
    simp only [List.length_cons] at hl
    have hlt : o < vs.length := by omega
    have hd : vs.drop o = vs[o] :: vs.drop (o + 1) := List.drop_eq_getElem_cons hlt
    rw [hd] at hy
    simp only [List.take_succ_cons, List.take_zero] at hy
    obtain ⟨d, g1, g2, g3⟩ := trod_ctS n f.type c fuel vs[o] y h3 hy hy2
    obtain ⟨ds, k1, k2, k3⟩ := trod_fsS n (o + 1) fs cs fuel vs h4 (by omega) (fun i f' hi => hf (i + 1) f' (by simpa using hi))
    exact ⟨d :: ds, by simp only [EncCs]; exact ⟨d, ds, vs[o], vs.drop (o + 1), rfl, hd, g1, k1⟩, by simp only [InCs]; exact ⟨g2, k2⟩, by simp only [InSs]; exact ⟨g3, k3⟩⟩
end
/-- An argument that is a slice. -/
theorem arg_rslS {t : TypeId} {et : ET} {v : Value} {d : DataW H} {p : List MemPlace} (hc : ctOk P 20 t (.sl et) = true) (h : DataW.Trod enc P w base (fun _ => true) held t v d p) (hv : v.cells.toList = [v]) (hz : ∀ m ∈ d.weights P t, m ≤ B) :
    ∃ ds : List D, RoSl (blocksOf w) et ds v ∧ InC (.sl et) (.ls ds) ∧ InS B (.sl et) (.ls ds) := by
  obtain ⟨fuel, h⟩ := h
  rw [hv] at h
  obtain ⟨d', h1, h2, h4⟩ := trod_ctS 20 t (.sl et) fuel v _ hc h hz
  simp only [EncC] at h1
  obtain ⟨ds, rfl, h1⟩ := h1
  refine ⟨ds, ?_, h2, h4⟩
  unfold RoSl
  rcases h1 with h1 | h1 | ⟨b, o, cap, q1, q2, q3⟩
  · exact .inl h1
  · exact .inr (.inl h1)
  · refine .inr (.inr ⟨b, o, cap, q1, q2, fun hne => ?_⟩)
    obtain ⟨cs, r1, r2⟩ := q3 hne
    refine ⟨cs, r1, fun i d hd => ?_⟩
    rw [List.drop_drop]
    exact r2 i d hd
end
/-- The row's own way in, with the bound of what is read handed on. -/
theorem returnsSized {H : Type} {enc : TypeId × Value → H} {a : Assume} {C : Checked} {os : Os} {f : FuncId} {fn : Func} {s : ChangeSpec} {conds : List PathCond} {apart fresh handsOn again : Bool}
    (own : ownKnob C.prog.godebug = none) (started : os.Started) (noInit : C.prog.inits.idxOf? f = none) (hfn : C.prog.funcs[f]? = some fn)
    (witness : ∃ (w : World) (tape : Tape) (i : Input), w.os = os ∧ (w.forCall tape i).Shaped C.prog ∧ i.vars = [] ∧ Input.okWide C.prog (w.forCall tape i) .any w.heap.size f i ∧
      s.pre6 enc C.prog fn conds apart (w.forCall tape i).memory i.args ∧ a.holds C.prog (lone (Frame.enter C.prog f i.args .normal) [] (w.forCall tape i)))
    (con : ∀ (W : World) (base : Nat) (args : Array Value) (ds gs : List (DataW H)) (before : List MemPlace),
      (∀ (j : Nat) t v, fn.params[j]? = some t → args[j]? = some v → Value.okWide C.prog W .any base t v) →
      DataW.Whole enc C.prog fn.params.toList s.vars apart W args.toList ds gs before →
      (DataW.weightsEach C.prog (fn.params.toList ++ s.plain.varTypes C.prog) (ds ++ gs)).all (· ≤ reachBytes) = true →
      Calls C.prog f args W fun e W' => ∃ v, e = .returned v ∧ s.post enc C.prog fn apart fresh handsOn again W args v W') :
    ReturnsInHanded a C os f .any (s.pre6 enc C.prog fn conds apart) (s.post enc C.prog fn apart fresh handsOn again) := by
  refine returnsInHanded_of_calls own started noInit witness ?_
  intro w tape i _ _ _ hok hpre hholds
  obtain ⟨_, _, _, g, hg, _, _, _, _, hval⟩ := hok
  obtain rfl := Option.some.inj (hg.symm.trans hfn)
  obtain ⟨⟨ds, gs, before, hw, _⟩, hz⟩ := hpre
  have hz' := hz.weights hw
  exact (con _ _ _ ds gs before hval (DataW.Whole.of_heap (w' := w.forCall tape i) (by rfl) hw) hz').mono fun e W' ⟨v, he, hp⟩ => by subst he; exact ChangeSpec.post_blind hp
end Go.Sy
