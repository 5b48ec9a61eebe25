/- The symbolic executor, ninth part: operations on memory; single steps; regions without a draw. Own work of this session. -/
import Derived.Test.YtgjdhokafmmhcaaSxH
set_option linter.unusedVariables false
set_option linter.unusedSimpArgs false
namespace Go.Sx

/-! ### The leaf that the truths lead to -/
def T.leaf {α : Type} (η : Nat → D) : T α → Option α
  | .ret a => some a
  | .ite c t e => if (c.den η).toB then t.leaf η else e.leaf η
  | .asrt c t => if (c.den η).toB then t.leaf η else none
  | .fail _ => none
theorem T.holds_leaf {α : Type} {η : Nat → D} {K : α → Prop} : ∀ {t : T α}, t.holds η K ↔ ∃ a, t.leaf η = some a ∧ K a
  | .ret a => by simp [T.holds, T.leaf]
  | .ite c t e => by
    simp only [T.holds, T.leaf]
    cases hc : (c.den η).toB
    · simp [T.holds_leaf (t := e)]
    · simp [T.holds_leaf (t := t)]
  | .asrt c t => by
    simp only [T.holds, T.leaf]
    cases hc : (c.den η).toB
    · simp
    · simp [T.holds_leaf (t := t)]
  | .fail w => by simp [T.holds, T.leaf]

section
variable {P : Program} {Ω : Om} {η : Nat → D} {B : World} {T' : Nat → Prop} {ρ : List Hd} {m : List Chunk} {w : World}

theorem run_cells (b off : Nat) (cs : List Value) (h : ∀ j v, cs[j]? = some v → w.cell? ⟨b, off + j, none⟩ = some v) : (loadCells ⟨b, off, none⟩ cs.length).run P w = .ok ⟨cs⟩ w := by
  rw [run_loadCells_list w ⟨b, off, none⟩ cs (fun j v hv => by rw [add_mk]; exact h j v hv)]

/-- A load, in whatever world bears the same cells. -/
theorem load_any {t : TypeId} {l : List SV} {vs : List Value} {off : Nat} {c b : Nat} {ty : TypeId} {v : SV} (hr : rowOf m c = some (l, ty)) (hb : ρ[c]? = some (.blk b))
    (r : Rels η ρ l vs) (h : loadSV P m t (.ptr c off) = some v) :
    ∃ u, Rel η ρ v u ∧ ∀ w' : World, (∀ j, j < loadW P t → w'.cell? ⟨b, off + j, none⟩ = vs[off + j]?) → (Instr.loadAt t (.pointer (some ⟨b, off, none⟩))).run P w' = .ok u w' := by
  simp only [loadSV, hr] at h
  split at h
  · rename_i l' ty' h1 ha
    simp only [Option.some.injEq, Prod.mk.injEq] at h1; obtain ⟨rfl, rfl⟩ := h1
    split at h
    · rename_i hc
      simp only [Bool.and_eq_true] at hc
      simp only [Option.some.injEq] at h; subst h
      obtain ⟨i, hi⟩ := Option.isSome_iff_exists.1 hc.2
      have hle : off + P.cellsOf t ≤ vs.length := by rw [r.length]; exact Nat.le_of_ble_eq_true hc.1
      have hlen : ((vs.drop off).take (P.cellsOf t)).length = P.cellsOf t := by simp; omega
      refine ⟨.agg ⟨(vs.drop off).take (P.cellsOf t)⟩, by simp only [Rel]; exact ⟨_, rfl, Rels.take _ (Rels.drop _ r)⟩, fun w' hw => ?_⟩
      have := run_cells (P := P) (w := w') b off ((vs.drop off).take (P.cellsOf t)) (fun j v hv => by
        have hj : j < P.cellsOf t := by have := (List.getElem?_eq_some_iff.1 hv).1; omega
        rw [hw j (by unfold loadW; rw [if_pos ha]; exact hj)]
        rw [List.getElem?_take, if_pos hj, List.getElem?_drop] at hv
        exact hv)
      rw [hlen] at this
      simp only [Instr.loadAt, Instr.sureAddr, Sem.run_bind, Sem.run_pure, Result.andThen_ok, loadVar, run_isAgg ha, if_true, run_sizeOf hi, ← cellsOf_eq hi, this]
    · cases h
  · rename_i l' ty' h1 ha
    simp only [Option.some.injEq, Prod.mk.injEq] at h1; obtain ⟨rfl, rfl⟩ := h1
    obtain ⟨u, h2, h3⟩ := r.get h
    refine ⟨u, h3, fun w' hw => ?_⟩
    have h4 := hw 0 (by unfold loadW; rw [if_neg (by rw [ha]; simp)]; omega)
    simp only [Nat.add_zero, h2] at h4
    simp only [Instr.loadAt, Instr.sureAddr, Sem.run_bind, Sem.run_pure, Result.andThen_ok, loadVar, run_isAgg ha, Bool.false_eq_true, if_false, run_load, h4]
  · cases h

theorem load_rel {t : TypeId} {x v : SV} (hI : Inv Ω η B T' ρ m w) (h : loadSV P m t x = some v) {a : Value} (ha : Rel η ρ x a) : ∃ u, Rel η ρ v u ∧ (Instr.loadAt t a).run P w = .ok u w := by
  have h' := h
  unfold loadSV at h'
  split at h'
  · rename_i c off
    simp only [Rel] at ha; obtain ⟨b, hb, rfl⟩ := ha
    cases hr : rowOf m c with
    | none => rw [hr] at h'; cases h'
    | some p =>
      obtain ⟨l, ty⟩ := p
      obtain ⟨vs, h1, h2⟩ := hI.row hr hb
      obtain ⟨u, h3, h4⟩ := load_any hr hb h2 h
      exact ⟨u, h3, h4 w fun j _ => cell_of_row h1 _⟩
  · cases h'

theorem run_storeCells (b : Nat) (ty : TypeId) : ∀ (ys : List Value) (off i : Nat) (vs : List Value) (w : World), w.heap[b]? = some (.cells ⟨vs⟩ ty (0, 0)) → off + i + ys.length ≤ vs.length → (∀ y ∈ ys, y.oneCell' = true) →
    ∃ w', (storeCells ⟨b, off, none⟩ ys i).run P w = .ok () w' ∧ w'.os = w.os ∧ w'.tape = w.tape ∧ w'.output = w.output ∧ w'.heap.size = w.heap.size ∧ (∀ k, k ≠ b → w'.heap[k]? = w.heap[k]?) ∧
      w'.heap[b]? = some (.cells ⟨putAll vs (off + i) ys⟩ ty (0, 0))
  | [], off, i, vs, w, hb, hl, h1 => ⟨w, by simp [storeCells], rfl, rfl, rfl, rfl, fun _ _ => rfl, hb⟩
  | y :: ys, off, i, vs, w, hb, hl, h1 => by
    have hlt : off + i < vs.length := by simp at hl; omega
    have hc : w.cell? ⟨b, off + i, none⟩ = some vs[off + i] := by rw [cell_of_row hb]; simp [hlt]
    have hf := frozen_of_row hb (off + i)
    have hs : (store (⟨b, off + i, none⟩ : Addr) y).run P w = .ok () (w.setCell ⟨b, off + i, none⟩ y) := by
      rw [run_store P w _ y .plain (h1 y (by simp)), hc]
      simp [hf]
    have hb' : (w.setCell ⟨b, off + i, none⟩ y).heap[b]? = some (.cells ⟨vs.set (off + i) y⟩ ty (0, 0)) := by
      simp [World.setCell, Array.getElem?_modify, hb]
    obtain ⟨w', g1, g2, g3, g4, g5, g6, g7⟩ := run_storeCells b ty ys off (i + 1) (vs.set (off + i) y) (w.setCell ⟨b, off + i, none⟩ y) hb' (by simp at hl ⊢; omega) (fun x hx => h1 x (by simp [hx]))
    refine ⟨w', ?_, g2, g3, g4, by rw [g5]; simp, fun k hk => ?_, by rw [g7]; simp [putAll, Nat.add_assoc]⟩
    · simp only [storeCells, Sem.run_bind, add_mk, hs, Result.andThen_ok, g1]
    · rw [g6 k hk]; exact RowKit.Below.heap_setCell _ _ _ _ hk

theorem store_rel {t : TypeId} {x y : SV} {m' : List Chunk} (hI : Inv Ω η B T' ρ m w) (h : storeSV P m t x y = some m') {a v : Value} (ha : Rel η ρ x a) (hv : Rel η ρ y v) :
    ∃ w', (Instr.storeAt t a v).run P w = .ok () w' ∧ Inv Ω η B T' ρ m' w' := by
  unfold storeSV at h
  split at h
  · rename_i c off xs hx
    split at h
    · rename_i l ty hr
      split at h
      · rename_i hc
        simp only [Bool.and_eq_true] at hc
        obtain ⟨⟨⟨hc1, hc2⟩, hc3⟩, hc4⟩ := hc
        simp only [Option.some.injEq] at h; subst h
        simp only [Rel] at ha; obtain ⟨b, hb, rfl⟩ := ha
        obtain ⟨vs, h1, h2⟩ := hI.row hr hb
        obtain ⟨ys, hys, hrs⟩ := cells_rel hx hv
        obtain ⟨i, hi⟩ := Option.isSome_iff_exists.1 hc3
        have hle : off + ys.length ≤ vs.length := by rw [hrs.length, h2.length]; exact Nat.le_of_ble_eq_true hc1
        have hsz : ys.length = i.size := by rw [hrs.length, Nat.eq_of_beq_eq_true hc2, cellsOf_eq hi]
        obtain ⟨w', g1, g2, g3, g4, g5, g6, g7⟩ := run_storeCells (P := P) b ty ys off 0 vs w h1 (by simpa using hle) (Rels.cells hrs hc4)
        refine ⟨w', ?_, Inv.write hI hr hb g2 g3 g4 g5 g6 g7 (putAll_rel hrs _ h2)⟩
        have hs : v.cells.size = i.size := by rw [hys]; exact hsz
        have hl : v.cells.toList = ys := by rw [hys]
        simp only [Instr.storeAt, Instr.sureAddr, Sem.run_bind, Sem.run_pure, Result.andThen_ok, storeVar, run_sizeOf hi, hs, ne_eq, not_true_eq_false, if_false, hl, g1]
      · cases h
    · cases h
  · cases h

theorem prefix_snoc {α : Type} (l : List α) (x : α) : l <+: l ++ [x] := List.prefix_append _ _
/-- A new row. -/
theorem newVar_rel {t : TypeId} {l : List SV} {v : Value} {vs : List Value} (hI : Inv Ω η B T' ρ m w) (hv : v.cells = ⟨vs⟩) (r : Rels η ρ l vs) :
    ∃ w', (newVar t v).run P w = .ok ⟨w.heap.size, 0, none⟩ w' ∧ Inv Ω η B T' (ρ ++ [.blk w.heap.size]) (m ++ [.row l t]) w' ∧ Rel η (ρ ++ [.blk w.heap.size]) (.ptr m.length 0) (.pointer (some ⟨w.heap.size, 0, none⟩)) := by
  refine ⟨w.alloc (.cells ⟨vs⟩ t), ?_, hI.alloc t r, ?_⟩
  · simp only [newVar, newRow, hv, Sem.run_bind, run_newObj, Result.andThen_ok, Sem.run_pure]; rfl
  · simp only [Rel]
    exact ⟨_, by rw [← hI.len]; simp, rfl⟩
end

/-! ### Calls, one operation -/
section
variable {P : Program} {Ω : Om} {η : Nat → D} {B : World} {T' : Nat → Prop}

/-- What is asked of whoever carries calls out. -/
def CallSound (P : Program) (Ω : Om) (η : Nat → D) (B : World) (T' : Nat → Prop) (call : FuncId → List SV → List Chunk → T (SV × List Chunk)) : Prop :=
  ∀ (f : FuncId) (args : List SV) (m : List Chunk) (vm : SV × List Chunk), (call f args m).leaf η = some vm →
    ∀ (ρ : List Hd) (vs : List Value) (w : World), Inv Ω η B T' ρ m w → Rels η ρ args vs →
    (∀ as w, (callFunc f as).run P w = .ok (.enter f as) w) ∧
    Calls P f ⟨vs⟩ w fun e w' => ∃ u ρ', e = .returned u ∧ ρ <+: ρ' ∧ Inv Ω η B T' ρ' vm.2 w' ∧ Rel η ρ' vm.1 u

theorem callee_rel {ρ : List Hd} {s : St} {a : Act} (hf : Rels η ρ s.fr a.tmps.toList) {c : Call} {f : FuncId} {args : List SV} (h : evCallee s c = some (f, args)) :
    ∃ vs, Rels η ρ args vs ∧ ∀ ty w, (resolve a.eval c ty >>= fun d => invoke d.target d.args).run P w = (callFunc f ⟨vs⟩).run P w := by
  unfold evCallee at h
  split at h
  · rename_i g hc
    have hg := opd_rel hf g
    split at h
    · rename_i f' hfn
      simp only [Option.some.injEq, Prod.mk.injEq] at h; obtain ⟨rfl, rfl⟩ := h
      rw [hfn] at hg; simp only [Rel] at hg
      refine ⟨_, args_rel hf c.args, fun ty w => ?_⟩
      simp only [resolve, hc, hg, Deferred.ofValue, Sem.run_bind, Sem.run_pure, Result.andThen_ok, invoke]
      congr 2
      apply Array.ext'; simp
    · rename_i f' l hfn
      simp only [Option.some.injEq, Prod.mk.injEq] at h; obtain ⟨rfl, rfl⟩ := h
      rw [hfn] at hg; simp only [Rel] at hg
      obtain ⟨us, hg, hr⟩ := hg
      refine ⟨_, Rels.append (args_rel hf c.args) hr, fun ty w => ?_⟩
      simp only [resolve, hc, hg, Deferred.ofValue, Sem.run_bind, Sem.run_pure, Result.andThen_ok, invoke]
      congr 2
      apply Array.ext'; simp
    · cases h
  · cases h

/-- What one operation leaves, told by the leaf that the truths lead to. -/
def OpGives (P : Program) (Ω : Om) (η : Nat → D) (B : World) (T' : Nat → Prop) (ρ : List Hd) (vm : SV × List Chunk) (w : World) : Result Next → Prop
  | .ok (.value u) w' => ∃ ρ', ρ <+: ρ' ∧ Inv Ω η B T' ρ' vm.2 w' ∧ Rel η ρ' vm.1 u
  | .ok .skip w' => ∃ ρ', ρ <+: ρ' ∧ Inv Ω η B T' ρ' vm.2 w' ∧ Rel η ρ' vm.1 undef
  | .ok (.enter f args) w' => w' = w ∧ Calls P f args w fun e w' => ∃ u ρ', e = .returned u ∧ ρ <+: ρ' ∧ Inv Ω η B T' ρ' vm.2 w' ∧ Rel η ρ' vm.1 u
  | _ => False
theorem undef_rel {ρ : List Hd} : Rel η ρ (.tup []) undef := by simp only [Rel]; exact ⟨[], rfl, Rels.nil⟩

theorem leaf_need {α : Type} {e : E} {t : T α} {a : α} (h : (T.need e t).leaf η = some a) : (e.den η).toB = true ∧ t.leaf η = some a := by
  unfold T.need at h
  split at h
  · exact ⟨rfl, h⟩
  · simp only [T.leaf] at h
    split at h
    · rename_i hc; exact ⟨hc, h⟩
    · cases h
theorem leaf_opt {α : Type} {why : String} {o : Option α} {a : α} (h : (T.opt why o).leaf η = some a) : o = some a := by
  cases o with
  | none => simp [T.opt, T.leaf] at h
  | some b => simpa [T.opt, T.leaf] using h

theorem pure_gives {ρ : List Hd} {s : St} {a : Act} {w : World} (hI : Inv Ω η B T' ρ s.mem w) (hf : Rels η ρ s.fr a.tmps.toList) {o : Oper} {e : E} {v : SV} {vm : SV × List Chunk} (h : evPure P s o.op = some (e, v))
    (hl : (T.need e (.ret (v, s.mem)) : T (SV × List Chunk)).leaf η = some vm) : OpGives P Ω η B T' ρ vm w ((execOp a.eval o).run P w) := by
  obtain ⟨he, hl⟩ := leaf_need hl
  simp only [T.leaf, Option.some.injEq] at hl; subst hl
  obtain ⟨u, h1, h2⟩ := evPure_rel hf h he
  rw [h2]
  exact ⟨ρ, List.prefix_refl _, hI, h1⟩

theorem evOp_gives {call : FuncId → List SV → List Chunk → T (SV × List Chunk)} (hcall : CallSound P Ω η B T' call) {ρ : List Hd} {s : St} {a : Act} {w : World} (hI : Inv Ω η B T' ρ s.mem w)
    (hf : Rels η ρ s.fr a.tmps.toList) {o : Oper} {vm : SV × List Chunk} (h : (evOp P call s o).leaf η = some vm) : OpGives P Ω η B T' ρ vm w ((execOp a.eval o).run P w) := by
  have one : ∀ {x : Operand}, Rel η ρ (opd s x) (a.eval x) := fun {x} => opd_rel hf x
  unfold evOp at h
  split at h
  · -- load
    rename_i t x ho
    have h := leaf_opt h
    rw [Option.map_eq_some_iff] at h
    obtain ⟨v, hv, rfl⟩ := h
    obtain ⟨u, h1, h2⟩ := load_rel hI hv (@one x)
    have : (execOp a.eval o).run P w = .ok (.value u) w := by unfold execOp; rw [ho]; simp only [exec_v, h2]; rfl
    rw [this]
    exact ⟨ρ, List.prefix_refl _, hI, h1⟩
  · rename_i t x y ho
    have h := leaf_opt h
    rw [Option.map_eq_some_iff] at h
    obtain ⟨m', hm, rfl⟩ := h
    obtain ⟨w', h1, h2⟩ := store_rel hI hm (@one x) (@one y)
    have : (execOp a.eval o).run P w = .ok .skip w' := by unfold execOp; rw [ho]; simp only [Sem.run_bind, h1]; rfl
    rw [this]
    exact ⟨ρ, List.prefix_refl _, h2, undef_rel⟩
  · -- alloc
    rename_i t ho
    split at h
    · rename_i l hz
      simp only [T.leaf, Option.some.injEq] at h; subst h
      obtain ⟨v, vs, h1, h2, h3, _⟩ := zeroCells_rel (η := η) (ρ := ρ) hz
      obtain ⟨w', g1, g2, g3⟩ := newVar_rel (P := P) (t := t) hI h2 h3
      have : (execOp a.eval o).run P w = .ok (.value (.pointer (some ⟨w.heap.size, 0, none⟩))) w' := by
        unfold execOp; rw [ho]; simp only [exec_v, Instr.alloc, Sem.run_bind, h1, Result.andThen_ok, g1]; rfl
      rw [this]
      exact ⟨_, prefix_snoc _ _, g2, g3⟩
    · simp [T.leaf] at h
  · -- box
    rename_i t x ho
    split at h
    · rename_i l hl
      split at h
      · simp only [T.leaf, Option.some.injEq] at h; subst h
        obtain ⟨vs, h2, h3⟩ := cells_rel hl (@one x)
        obtain ⟨w', g1, g2, g3⟩ := newVar_rel (P := P) (t := t) hI h2 h3
        have : (execOp a.eval o).run P w = .ok (.value (.pointer (some ⟨w.heap.size, 0, none⟩))) w' := by
          unfold execOp; rw [ho]; simp only [exec_v, Instr.box, Sem.run_bind, Result.andThen_ok, g1]; rfl
        rw [this]
        exact ⟨_, prefix_snoc _ _, g2, g3⟩
      · simp [T.leaf] at h
    · simp [T.leaf] at h
  · -- buildSlice
    rename_i t n parts ho
    split at h
    · rename_i elem hu
      split at h
      · rename_i z i hz hi
        split at h
        · rename_i hc
          simp only [Bool.and_eq_true] at hc
          obtain ⟨⟨⟨hc1, hc2⟩, hc3⟩, hc4⟩ := hc
          split at h
          · rename_i l hl
            split at h
            · rename_i hcell
              simp only [T.leaf, Option.some.injEq] at h; subst h
              obtain ⟨v, vs, h1, h2, h3, _⟩ := zeroCells_rel (η := η) (ρ := ρ) hz
              have hzl : vs.length = i.size := by rw [h3.length]; exact Nat.eq_of_beq_eq_true hc1
              have hrep : Rels η ρ ((List.replicate n z).flatten) ((List.replicate n vs).flatten) := by
                clear hl hc2 hc4 ho
                induction n with
                | zero => exact Rels.nil
                | succ n ih => simp only [List.replicate_succ, List.flatten_cons]; exact Rels.append h3 ih
              have hpos : 0 < i.size := by simpa [Nat.blt_eq] using hc3
              have hsmall : n * i.size ≤ 1000 := Nat.le_of_ble_eq_true hc2
              have hcells : ((Array.range (n * i.size)).map (fun x => v.cells[x % v.cells.size]!)) = ⟨(List.replicate n vs).flatten⟩ := by
                rw [h2]
                apply Array.ext'
                simp only [Array.toList_map, Array.toList_range, List.size_toArray, hzl]
                rw [← hzl]
                clear hl hrep hc2 hc4 hsmall ho
                induction n with
                | zero => simp
                | succ n ih =>
                  rw [List.replicate_succ', List.flatten_append, ← ih]
                  rw [Nat.succ_mul, List.range_add, List.map_append]
                  congr 1
                  simp only [List.flatten_cons, List.flatten_nil, List.append_nil]
                  rw [List.map_map]
                  apply List.ext_getElem
                  · simp
                  · intro j hj hj'
                    simp at hj
                    simp [Nat.mul_add_mod_of_lt, Nat.mod_eq_of_lt hj, hj, Nat.add_mod]
              obtain ⟨p1, p2⟩ := pairs_rel hf parts
              obtain ⟨vo, e1, e2⟩ := fill_rel p1 p2 hrep hl
              refine ?_
              have hrun : (execOp a.eval o).run P w = .ok (.value (.slice (some ⟨w.heap.size, 0, none⟩) n n)) (w.alloc (.cells ⟨vo⟩ elem)) := by
                unfold execOp; rw [ho]
                have h24 : ¬ (n * i.size > 2 ^ 24) := by omega
                have he1 : Instr.fill (fun j => some (j * i.size, i.size)) ⟨(List.replicate n vs).flatten⟩ (parts.map fun (i, x) => (i, a.eval x)).toList = some ⟨vo⟩ := e1
                simp only [exec_v, Instr.buildSlice, Sem.run_bind, run_underlying hu, run_sizeOf hi, Result.andThen_ok]
                rw [if_neg h24]
                have hn : 0 < n := by simpa [Nat.blt_eq] using hc4
                have h0 : ¬ n * i.size = 0 := fun h => by rcases Nat.mul_eq_zero.1 h with h | h <;> omega
                simp only [h0, if_false, Sem.run_bind, h1, Result.andThen_ok, Sem.run_pure, hcells, he1]
                rfl
              rw [hrun]
              refine ⟨ρ ++ [.blk w.heap.size], prefix_snoc _ _, hI.alloc elem e2, ?_⟩
              simp only [Rel]
              exact ⟨_, by rw [← hI.len]; simp, rfl⟩
            · simp [T.leaf] at h
          · simp [T.leaf] at h
        · simp [T.leaf] at h
      · simp [T.leaf] at h
    · simp [T.leaf] at h
  · -- call
    rename_i c ho
    split at h
    · rename_i e v he
      exact pure_gives hI hf (by rw [ho]; exact he) h
    · split at h
      · rename_i f args hcl
        split at h
        · obtain ⟨vs, h1, h2⟩ := callee_rel (P := P) hf hcl
          obtain ⟨g1, g2⟩ := hcall f args s.mem vm h ρ vs w hI h1
          have : (execOp a.eval o).run P w = .ok (.enter f ⟨vs⟩) w := by
            unfold execOp; rw [ho]; rw [← g1 ⟨vs⟩ w, ← h2 o.type w]
          rw [this]
          exact ⟨rfl, g2⟩
        · simp [T.leaf] at h
      · simp [T.leaf] at h
  · -- all other
    rename_i op _ _ _ _ _ _ 
    split at h
    · rename_i e v he
      exact pure_gives hI hf he h
    · simp [T.leaf] at h
end
end Go.Sx
