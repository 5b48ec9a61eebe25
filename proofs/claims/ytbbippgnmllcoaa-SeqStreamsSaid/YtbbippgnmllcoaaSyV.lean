/- The symbolic executor, eighteenth part: arguments that are slices, out of the row's reading. Own work of this session. -/
import Derived.Test.YtbbippgnmllcoaaSyU
import Derived.ChangeArms
set_option linter.unusedVariables false
set_option linter.unusedSimpArgs false
namespace Go.Sy
open Go.ChangeShapes Go.WideShapes Go.ChangeAt Go.RowKit

/-- The blocks of a world. -/
def blocksOf (w : World) (b : Nat) : Option (List Value) := match w.heap[b]? with | some (.cells cs _ _) => some cs.toList | _ => none
theorem blocksOf_ok (w : World) (b : Nat) (cs : List Value) (h : blocksOf w b = some cs) : b < w.heap.size ∧ ∃ ty fz, w.heap[b]? = some (.cells ⟨cs⟩ ty fz) := by
  unfold blocksOf at h
  split at h
  · rename_i c ty fz hc
    simp only [Option.some.injEq] at h; subst h
    exact ⟨(Array.getElem?_eq_some_iff.1 hc).1, ty, fz, hc⟩
  · cases h
mutual
/-- Is a type what is said? -/
def ctOk (P : Program) : Nat → TypeId → CT → Bool
  | 0, _, _ => false
  | n + 1, t, .int k => match P.underlying t with | some (.int k') => decide (k = k') | _ => false
  | n + 1, t, .bool => match P.underlying t with | some .bool => true | _ => false
  | n + 1, t, .str => match P.underlying t with | some .string => true | _ => false
  | n + 1, t, .sl et => match P.underlying t with | some (.slice e) => etOk P n e et && Nat.beq (P.cellsOf e) et.width && Nat.blt 0 et.width | _ => false
def etOk (P : Program) : Nat → TypeId → ET → Bool
  | 0, _, _ => false
  | n + 1, t, .one c => ctOk P n t c && Nat.beq (P.cellsOf t) 1
  | n + 1, t, .row cs => match P.underlying t with | some (.struct fs) => fsOk P n 0 fs.toList cs && Nat.beq (P.cellsOf t) cs.length | _ => false
def fsOk (P : Program) : Nat → Nat → List Field → List CT → Bool
  | 0, _, _, _ => false
  | n + 1, o, [], [] => true
  | n + 1, o, f :: fs, c :: cs => Nat.beq f.offset o && Nat.beq (P.cellsOf f.type) 1 && ctOk P n f.type c && fsOk P n (o + 1) fs cs
  | _, _, _, _ => false
end
mutual
/-- Its numbers are of their kinds, its lists and texts are no longer than any may be. -/
def InC : CT → D → Prop
  | .int k, d => k.has d.toI
  | .bool, _ => True
  | .str, d => (d.toS.length : Int) ≤ 9223372036854775807
  | .sl t, d => (d.toL.length : Int) ≤ 9223372036854775807 ∧ ∀ x ∈ d.toL, InE t x
def InE : ET → D → Prop
  | .one c, d => InC c d
  | .row cs, d => InCs cs d.toL
def InCs : List CT → List D → Prop
  | [], [] => True
  | c :: cs, d :: ds => InC c d ∧ InCs cs ds
  | _, _ => False
end
section
variable {H : Type} {enc : TypeId × Value → H} {P : Program} {w : World} {base : Nat} {held : Bool}
theorem maxLenE : maxLen = 9223372036854775807 := rfl
theorem wf_has {k : IntKind} {n : Int} (h : (Lit.int k n).wf = true) : k.has n := by
  simp only [Lit.wf, Bool.and_eq_true, decide_eq_true_eq] at h; exact h
theorem cells_of_blocks {b o : Nat} {cs : List Value} (hb : blocksOf w b = some cs) : w.cell? ⟨b, o, none⟩ = cs[o]? := by
  obtain ⟨_, ty, fz, h⟩ := blocksOf_ok w b cs hb
  rw [cell_of_cells h]
theorem cells_block {a : Addr} {n : Nat} {cs : List Value} (h : w.cells? base a n = some cs) (hn : 0 < n) : a.spot = none ∧ ∃ bl, blocksOf w a.block = some bl ∧ cs = (bl.drop a.off).take n := by
  obtain ⟨_, hl, hc⟩ := World.cells?_some h
  have h0 := hc 0 hn
  have hget : cs[0]? = some (cs[0]'(by omega)) := List.getElem?_eq_getElem (by omega)
  have ha0 : a.add 0 = a := by unfold Addr.add; simp
  rw [hget, ha0] at h0
  unfold World.cell? at h0
  split at h0
  · rename_i c ty fz hh
    split at h0
    · cases h0
    · rename_i hsp
      have hsn : a.spot = none := by cases hs : a.spot with | none => rfl | some x => rw [hs] at hsp; simp at hsp
      have hbl : blocksOf w a.block = some c.toList := by simp [blocksOf, hh]
      refine ⟨hsn, c.toList, hbl, ?_⟩
      apply List.ext_getElem?
      intro i
      rw [List.getElem?_take]
      split
      · rename_i hi
        rw [← hc i hi]
        have ea : a.add i = ⟨a.block, a.off + i, none⟩ := by
          obtain ⟨b, o, s⟩ := a
          simp only at hsn; subst hsn
          exact add_mk b o i
        rw [ea, cells_of_blocks hbl, List.getElem?_drop]
      · rename_i hi
        exact List.getElem?_eq_none (by omega)
  · cases h0
mutual
theorem trod_ct : ∀ (n : Nat) (t : TypeId) (c : CT) (fuel : Nat) (v : Value) (x : DataW H × List MemPlace), ctOk P n t c = true → DataW.trod enc P w base (fun _ => true) held fuel t [v] = some x → ∃ d, EncC (blocksOf w) c d v ∧ InC c d
  | 0, _, _, _, _, _, h, _ => by simp [ctOk] at h
  | n + 1, t, .int k, fuel, v, x, h, ht => by
    simp only [ctOk] at h
    split at h
    · rename_i k' hu
      have := of_decide_eq_true h; subst this
      obtain ⟨m, e, _, hw⟩ := DataW.trod_int hu ht
      injection e with e _; subst e
      exact ⟨.i m, by simp only [EncC]; exact ⟨m, rfl, rfl⟩, by simp only [InC, toI_i]; exact wf_has hw⟩
    · cases h
  | n + 1, t, .bool, fuel, v, x, h, ht => by
    simp only [ctOk] at h
    split at h
    · rename_i hu
      obtain ⟨m, e, _⟩ := DataW.trod_bool hu ht
      injection e with e _; subst e
      exact ⟨.b m, by simp only [EncC]; exact ⟨m, rfl, rfl⟩, by simp only [InC]⟩
    · cases h
  | n + 1, t, .str, fuel, v, x, h, ht => by
    simp only [ctOk] at h
    split at h
    · rename_i hu
      obtain ⟨s, e, _, hw⟩ := DataW.trod_string hu ht
      injection e with e _; subst e
      refine ⟨.s s.data.toList, by simp only [EncC]; exact ⟨s.data.toList, rfl, rfl⟩, ?_⟩
      simp only [InC, toS_s]
      have : s.data.toList.length = s.size := Array.length_toList
      rw [maxLenE] at hw
      omega
    · cases h
  | n + 1, t, .sl et, fuel, v, x, h, ht => by
    simp only [ctOk] at h
    split at h
    · rename_i e hu
      simp only [Bool.and_eq_true] at h
      obtain ⟨⟨hE, hw⟩, hpos⟩ := h
      have hw := Nat.eq_of_beq_eq_true hw
      have hpos : 0 < et.width := by simpa [Nat.blt_eq] using hpos
      rcases DataW.trod_slice hu ht with ⟨e1, _⟩ | ⟨a, len, cap, elems, rest, m, _, e1, _, _, hlc, hcm, hlen, hel, hrest, _⟩
      · injection e1 with e1 _; subst e1
        exact ⟨.ls [], by simp only [EncC]; exact ⟨[], rfl, .inl ⟨trivial, rfl⟩⟩, by simp only [InC, toL_ls]; simp⟩
      · injection e1 with e1 _; subst e1
        have each : ∀ i, i < len → ∃ d cs, w.cells? base (a.add (i * P.cellsOf e)) (P.cellsOf e) = some cs ∧ EncE (blocksOf w) et d cs ∧ InE et d := by
          intro i hi
          have hb := hel i hi
          have hg : elems[i]? = some (elems[i]'(by omega)) := List.getElem?_eq_getElem (by omega)
          rw [hg, Option.bind_eq_some_iff] at hb
          obtain ⟨cs, h1, h2⟩ := hb
          obtain ⟨d, g1, g2⟩ := trod_et n e et m cs _ hE h2
          exact ⟨d, cs, h1, g1, g2⟩
        have hch : ∀ k, k ≤ len → ∃ ds : List D, ds.length = k ∧ ∀ i d, ds[i]? = some d → ∃ cs, w.cells? base (a.add (i * P.cellsOf e)) (P.cellsOf e) = some cs ∧ EncE (blocksOf w) et d cs ∧ InE et d := by
          intro k
          induction k with
          | zero => intro _; exact ⟨[], rfl, by simp⟩
          | succ k ih =>
            intro hk
            obtain ⟨ds, l1, l2⟩ := ih (by omega)
            obtain ⟨d, cs, q⟩ := each k (by omega)
            refine ⟨ds ++ [d], by simp [l1], fun i d' hd => ?_⟩
            rcases getElem?_snoc hd with ⟨_, hd⟩ | ⟨rfl, rfl⟩
            · exact l2 i d' hd
            · rw [l1]; exact ⟨cs, q⟩
        obtain ⟨ds, hdl, hds⟩ := hch len (Nat.le_refl _)
        have hin : InC (.sl et) (.ls ds) := by
          simp only [InC, toL_ls]
          refine ⟨by rw [maxLenE] at hcm; omega, fun y hy => ?_⟩
          obtain ⟨i, hi⟩ := List.getElem?_of_mem hy
          obtain ⟨_, _, _, h3⟩ := hds i y hi
          exact h3
        refine ⟨.ls ds, ?_, hin⟩
        simp only [EncC]
        refine ⟨ds, rfl, ?_⟩
        have hblk : ∀ i, (a.add i).block = a.block := by intro i; unfold Addr.add; split <;> rfl
        rcases Nat.eq_zero_or_pos cap with hc0 | hc0
        · right; left
          have h0 : len = 0 := by omega
          exact ⟨a, by rw [hc0, h0], List.eq_nil_of_length_eq_zero (by omega)⟩
        · right; right
          have hsn : a.spot = none := by
            rcases Nat.eq_zero_or_pos len with h0 | h0
            · have hr := (hrest rfl).2 0 (by omega)
              have hr1 := (hrest rfl).1
              have hg : rest[0]? = some (rest[0]'(by omega)) := List.getElem?_eq_getElem (by omega)
              rw [hg, Option.bind_eq_some_iff] at hr
              obtain ⟨cs, h1, _⟩ := hr
              have := (cells_block h1 (by omega)).1
              rw [h0] at this
              simpa [Addr.add] using this
            · obtain ⟨d, cs, h1, _⟩ := each 0 h0
              have := (cells_block h1 (by omega)).1
              simpa [Addr.add] using this
          obtain ⟨b, o, spt⟩ := a
          simp only at hsn; subst hsn
          refine ⟨b, o, cap, by rw [hdl], by omega, fun hne => ?_⟩
          have hl0 : 0 < len := by
            rcases Nat.eq_zero_or_pos len with h0 | h0
            · exact absurd (List.eq_nil_of_length_eq_zero (by omega)) hne
            · exact h0
          obtain ⟨d0, cs0, h1, _⟩ := each 0 hl0
          obtain ⟨_, bl, hbl, _⟩ := cells_block h1 (by omega)
          rw [hblk] at hbl
          refine ⟨bl, hbl, fun i d hd => ?_⟩
          obtain ⟨cs, q1, q2, _⟩ := hds i d hd
          obtain ⟨_, bl', hbl', hcs⟩ := cells_block q1 (by omega)
          rw [hblk] at hbl'
          have hbb : bl' = bl := by
            have : blocksOf w b = some bl' := hbl'
            rw [show blocksOf w b = some bl from hbl] at this
            injection this with this; exact this.symm
          subst hbb
          rw [add_mk] at hcs
          simp only at hcs
          rw [← hw, ← hcs]
          exact q2
    · cases h
theorem trod_et : ∀ (n : Nat) (t : TypeId) (et : ET) (fuel : Nat) (vs : List Value) (x : DataW H × List MemPlace), etOk P n t et = true → DataW.trod enc P w base (fun _ => true) held fuel t vs = some x → ∃ d, EncE (blocksOf w) et d vs ∧ InE et d
  | 0, _, _, _, _, _, h, _ => by simp [etOk] at h
  | n + 1, t, .one c, fuel, vs, x, h, ht => by
    simp only [etOk, Bool.and_eq_true] at h
    have hone : ∃ v, vs = [v] := by
      cases c with
      | int k =>
        cases n with
        | zero => simp [ctOk] at h
        | succ n =>
          simp only [ctOk] at h
          split at h
          · rename_i k' hu; obtain ⟨m, e, _⟩ := DataW.trod_int hu ht; exact ⟨_, e⟩
          · simp at h
      | bool =>
        cases n with
        | zero => simp [ctOk] at h
        | succ n =>
          simp only [ctOk] at h
          split at h
          · rename_i hu; obtain ⟨m, e, _⟩ := DataW.trod_bool hu ht; exact ⟨_, e⟩
          · simp at h
      | str =>
        cases n with
        | zero => simp [ctOk] at h
        | succ n =>
          simp only [ctOk] at h
          split at h
          · rename_i hu; obtain ⟨m, e, _⟩ := DataW.trod_string hu ht; exact ⟨_, e⟩
          · simp at h
      | sl et =>
        cases n with
        | zero => simp [ctOk] at h
        | succ n =>
          simp only [ctOk] at h
          split at h
          · rename_i e' hu
            rcases DataW.trod_slice hu ht with ⟨e1, _⟩ | ⟨a, len, cap, elems, rest, m, _, e1, _⟩
            · exact ⟨_, e1⟩
            · exact ⟨_, e1⟩
          · simp at h
    obtain ⟨v, rfl⟩ := hone
    obtain ⟨d, h1, h2⟩ := trod_ct n t c fuel v x h.1 ht
    exact ⟨d, by simp only [EncE]; exact ⟨v, rfl, h1⟩, by simp only [InE]; exact h2⟩
  | n + 1, t, .row cs, fuel, vs, x, h, ht => by
    simp only [etOk] at h
    split at h
    · rename_i fs hu
      simp only [Bool.and_eq_true] at h
      obtain ⟨xs, m, _, _, hl, hlen, hf⟩ := DataW.trod_struct hu ht
      have hcl := Nat.eq_of_beq_eq_true h.2
      obtain ⟨ds, h1, h2⟩ := trod_fs n 0 fs.toList cs m vs h.1 (by rw [hl, hcl]; omega) (fun i f hi => by
        have := hf i f (by simpa using hi)
        have hlt : i < xs.length := by rw [hlen]; have := (List.getElem?_eq_some_iff.1 hi).1; simpa using this
        exact ⟨_, this.trans (List.getElem?_eq_getElem hlt)⟩)
      refine ⟨.ls ds, by simp only [EncE]; exact ⟨ds, rfl, by simpa using h1⟩, by simp only [InE, toL_ls]; exact h2⟩
    · cases h
theorem trod_fs : ∀ (n : Nat) (o : Nat) (fs : List Field) (cs : List CT) (fuel : Nat) (vs : List Value), fsOk P n o fs cs = true → vs.length = o + cs.length →
    (∀ (i : Nat) (f : Field), fs[i]? = some f → ∃ y, DataW.trod enc P w base (fun _ => true) held fuel f.type ((vs.drop f.offset).take (P.cellsOf f.type)) = some y) → ∃ ds, EncCs (blocksOf w) cs ds (vs.drop o) ∧ InCs cs ds
  | 0, _, _, _, _, _, h, _, _ => by simp [fsOk] at h
  | n + 1, o, [], [], fuel, vs, h, hl, _ => ⟨[], by simp only [EncCs]; exact ⟨trivial, List.drop_eq_nil_of_le (by simp at hl; omega)⟩, by simp only [InCs]⟩
  | n + 1, o, [], _ :: _, fuel, vs, h, _, _ => by simp [fsOk] at h
  | n + 1, o, _ :: _, [], fuel, vs, h, _, _ => by simp [fsOk] at h
  | n + 1, o, f :: fs, c :: cs, fuel, vs, h, hl, hf => by
    simp only [fsOk, Bool.and_eq_true] at h
    obtain ⟨⟨⟨h1, h2⟩, h3⟩, h4⟩ := h
    have e1 := Nat.eq_of_beq_eq_true h1
    have e2 := Nat.eq_of_beq_eq_true h2
    obtain ⟨y, hy⟩ := hf 0 f rfl
    rw [e1, e2] at hy
    simp only [List.length_cons] at hl
    have hlt : o < vs.length := by omega
    have hd : vs.drop o = vs[o] :: vs.drop (o + 1) := List.drop_eq_getElem_cons hlt
    rw [hd] at hy
    simp only [List.take_succ_cons, List.take_zero] at hy
    obtain ⟨d, g1, g2⟩ := trod_ct n f.type c fuel vs[o] y h3 hy
    obtain ⟨ds, k1, k2⟩ := trod_fs n (o + 1) fs cs fuel vs h4 (by omega) (fun i f' hi => hf (i + 1) f' (by simpa using hi))
    exact ⟨d :: ds, by simp only [EncCs]; exact ⟨d, ds, vs[o], vs.drop (o + 1), rfl, hd, g1, k1⟩, by simp only [InCs]; exact ⟨g2, k2⟩⟩
end
/-- An argument that is a slice. -/
theorem arg_rsl {t : TypeId} {et : ET} {v : Value} {d : DataW H} {p : List MemPlace} (hc : ctOk P 20 t (.sl et) = true) (h : DataW.Trod enc P w base (fun _ => true) held t v d p) (hv : v.cells.toList = [v]) :
    ∃ ds : List D, RoSl (blocksOf w) et ds v ∧ InC (.sl et) (.ls ds) := by
  obtain ⟨fuel, h⟩ := h
  rw [hv] at h
  obtain ⟨d', h1, h2⟩ := trod_ct 20 t (.sl et) fuel v _ hc h
  simp only [EncC] at h1
  obtain ⟨ds, rfl, h1⟩ := h1
  refine ⟨ds, ?_, h2⟩
  unfold RoSl
  rcases h1 with h1 | h1 | ⟨b, o, cap, q1, q2, q3⟩
  · exact .inl h1
  · exact .inr (.inl h1)
  · refine .inr (.inr ⟨b, o, cap, q1, q2, fun hne => ?_⟩)
    obtain ⟨cs, r1, r2⟩ := q3 hne
    refine ⟨cs, r1, fun i d hd => ?_⟩
    rw [List.drop_drop]
    exact r2 i d hd
theorem argWide_slice {t e : TypeId} {r : Reach} {b : Nat} {v : Value} (ht : P.underlying t = some (.slice e)) (h : Value.okWide P w r b t v) : v.cells.toList = [v] := by
  simp only [Value.okWide, ht, Cell.okWide, Cell.ok] at h
  cases v <;> simp_all [Value.cells]
theorem rel_rsl {F : Nat → D → D} {l : List D} {ρ : List Hd} {et : ET} {e : E} {v : Value} {ds : List D} (h : RoSl (blocksOf w) et ds v) (he : ds = (e.den (envL F (blocksOf w) l)).toL) : Rel (envL F (blocksOf w) l) ρ (.rsl et e) v := by
  simp only [Rel]; rw [← he]; exact h
end
end Go.Sy
