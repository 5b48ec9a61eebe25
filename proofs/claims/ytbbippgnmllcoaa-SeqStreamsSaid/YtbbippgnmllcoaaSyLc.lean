/- The symbolic executor, twelfth part, c: one operation, by the leaf. Own work of this session. -/
import Derived.Test.YtbbippgnmllcoaaSyLb
set_option linter.unusedVariables false
set_option linter.unusedSimpArgs false
namespace Go.Sy
/-! ### Calls, one operation -/
section
variable {P : Program} {Ω : Om} {η : Env} {B : World} {T' : Nat → Prop}

/-- What is asked of whoever carries calls out. -/
def CallSound (P : Program) (Ω : Om) (η : Env) (B : World) (T' : Nat → Prop) (call : FuncId → List SV → List Chunk → T (SV × List Chunk)) : Prop :=
  ∀ (f : FuncId) (args : List SV) (m : List Chunk) (vm : SV × List Chunk), (call f args m).leaf η = some vm →
    ∀ (ρ : List Hd) (vs : List Value) (w : World), Inv Ω η B T' ρ m w → Rels η ρ args vs →
    (∀ as w, (callFunc f as).run P w = .ok (.enter f as) w) ∧
    Calls P f ⟨vs⟩ w fun e w' => ∃ u ρ', e = .returned u ∧ ρ <+: ρ' ∧ Inv Ω η B T' ρ' vm.2 w' ∧ Rel η ρ' vm.1 u

theorem callee_rel {ρ : List Hd} {s : St} {a : Act} (hf : Rels η ρ s.fr a.tmps.toList) {c : Call} {f : FuncId} {args : List SV} (h : evCallee s c = some (f, args)) :
    ∃ vs, Rels η ρ args vs ∧ ∀ ty w, (resolve a.eval c ty >>= fun d => invoke d.target d.args).run P w = (callFunc f ⟨vs⟩).run P w := by
  unfold evCallee at h
  split at h
  · rename_i g hc
    have hg := opd_rel hf g
    split at h
    · rename_i f' hfn
      simp only [Option.some.injEq, Prod.mk.injEq] at h; obtain ⟨rfl, rfl⟩ := h
      rw [hfn] at hg; simp only [Rel] at hg
      refine ⟨_, args_rel hf c.args, fun ty w => ?_⟩
      simp only [resolve, hc, hg, Deferred.ofValue, Sem.run_bind, Sem.run_pure, Result.andThen_ok, invoke]
      congr 2
      apply Array.ext'; simp
    · rename_i f' l hfn
      simp only [Option.some.injEq, Prod.mk.injEq] at h; obtain ⟨rfl, rfl⟩ := h
      rw [hfn] at hg; simp only [Rel] at hg
      obtain ⟨us, hg, hr⟩ := hg
      refine ⟨_, Rels.append (args_rel hf c.args) hr, fun ty w => ?_⟩
      simp only [resolve, hc, hg, Deferred.ofValue, Sem.run_bind, Sem.run_pure, Result.andThen_ok, invoke]
      congr 2
      apply Array.ext'; simp
    · cases h
  · cases h

/-- What one operation leaves, told by the leaf that the truths lead to. -/
def OpGives (P : Program) (Ω : Om) (η : Env) (B : World) (T' : Nat → Prop) (ρ : List Hd) (vm : SV × List Chunk) (w : World) : Result Next → Prop
  | .ok (.value u) w' => ∃ ρ', ρ <+: ρ' ∧ Inv Ω η B T' ρ' vm.2 w' ∧ Rel η ρ' vm.1 u
  | .ok .skip w' => ∃ ρ', ρ <+: ρ' ∧ Inv Ω η B T' ρ' vm.2 w' ∧ Rel η ρ' vm.1 undef
  | .ok (.enter f args) w' => w' = w ∧ Calls P f args w fun e w' => ∃ u ρ', e = .returned u ∧ ρ <+: ρ' ∧ Inv Ω η B T' ρ' vm.2 w' ∧ Rel η ρ' vm.1 u
  | _ => False
theorem undef_rel {ρ : List Hd} : Rel η ρ (.tup []) undef := by simp only [Rel]; exact ⟨[], rfl, Rels.nil⟩

theorem leaf_need {α : Type} {e : E} {t : T α} {a : α} (h : (T.need e t).leaf η = some a) : (e.den η).toB = true ∧ t.leaf η = some a := by
  unfold T.need at h
  split at h
  · exact ⟨rfl, h⟩
  · simp only [T.leaf] at h
    split at h
    · rename_i hc; exact ⟨hc, h⟩
    · cases h
theorem leaf_opt {α : Type} {why : String} {o : Option α} {a : α} (h : (T.opt why o).leaf η = some a) : o = some a := by
  cases o with
  | none => simp [T.opt, T.leaf] at h
  | some b => simpa [T.opt, T.leaf] using h


theorem read_gives {ρ : List Hd} {s : St} {a : Act} {w : World} (hI : Inv Ω η B T' ρ s.mem w) (hf : Rels η ρ s.fr a.tmps.toList) {o : Oper} {e : E} {v : SV} {vm : SV × List Chunk} (h : evVal P s o.op = some (e, v))
    (hl : (T.need e (.ret (v, s.mem)) : T (SV × List Chunk)).leaf η = some vm) : OpGives P Ω η B T' ρ vm w ((execOp a.eval o).run P w) := by
  obtain ⟨he, hl⟩ := leaf_need hl
  simp only [T.leaf, Option.some.injEq] at hl; subst hl
  obtain ⟨u, h1, h2⟩ := evVal_rel hI hf h he
  rw [h2]
  exact ⟨ρ, List.prefix_refl _, hI, h1⟩

theorem storeOp_rel {ρ : List Hd} {s : St} {w : World} (hI : Inv Ω η B T' ρ s.mem w) {t : TypeId} {x y : SV} {vm : SV × List Chunk} (h : (evStoreOp P s t x y).leaf η = some vm) {a v : Value} (ha : Rel η ρ x a) (hv : Rel η ρ y v) :
    ∃ w', (Instr.storeAt t a v).run P w = .ok () w' ∧ Inv Ω η B T' ρ vm.2 w' ∧ vm.1 = .tup [] := by
  unfold evStoreOp at h
  split at h
  · rename_i c k i j
    split at h
    · rename_i et e hq
      split at h
      · rename_i hw
        have hw := Nat.eq_of_beq_eq_true hw
        split at h
        · rename_i e' he'
          obtain ⟨hg, h⟩ := leaf_need h
          simp only [T.leaf, Option.some.injEq] at h; subst h
          subst hw
          obtain ⟨w', h1, h2⟩ := elemStore_rel hI hq he' hg ha hv
          exact ⟨w', h1, h2, rfl⟩
        · simp [T.leaf] at h
      · simp [T.leaf] at h
    · simp [T.leaf] at h
  · have h := leaf_opt h
    rw [Option.map_eq_some_iff] at h
    obtain ⟨m', hm, rfl⟩ := h
    obtain ⟨w', h1, h2⟩ := store_rel hI hm ha hv
    exact ⟨w', h1, h2, rfl⟩

theorem buildS_gives {ρ : List Hd} {s : St} {a : Act} {w : World} (hI : Inv Ω η B T' ρ s.mem w) (hf : Rels η ρ s.fr a.tmps.toList) {o : Oper} {t : TypeId} {n : Nat} {parts : Array (Nat × Operand)} (ho : o.op = .buildSlice t n parts)
    {vm : SV × List Chunk} (h : (evBuildS P s t n parts).leaf η = some vm) : OpGives P Ω η B T' ρ vm w ((execOp a.eval o).run P w) := by
  unfold evBuildS at h
  split at h
  · rename_i elem hu
    split at h
    · rename_i z i hz hi
      split at h
      · rename_i hc
        simp only [Bool.and_eq_true] at hc
        obtain ⟨⟨⟨hc1, hc2⟩, hc3⟩, hc4⟩ := hc
        split at h
        · rename_i l hl
          split at h
          · rename_i hcell
            obtain ⟨v, vs, h1, h2, h3, _⟩ := zeroCells_rel (η := η) (ρ := ρ) hz
            have hzl : vs.length = i.size := by rw [h3.length]; exact Nat.eq_of_beq_eq_true hc1
            have hrep : Rels η ρ ((List.replicate n z).flatten) ((List.replicate n vs).flatten) := by
              clear hl hc2 hc4 ho h
              induction n with
              | zero => exact Rels.nil
              | succ n ih => simp only [List.replicate_succ, List.flatten_cons]; exact Rels.append h3 ih
            have hpos : 0 < i.size := by simpa [Nat.blt_eq] using hc3
            have hsmall : n * i.size ≤ 1000 := Nat.le_of_ble_eq_true hc2
            have hcells : ((Array.range (n * i.size)).map (fun x => v.cells[x % v.cells.size]!)) = ⟨(List.replicate n vs).flatten⟩ := by
              rw [h2]
              apply Array.ext'
              simp only [Array.toList_map, Array.toList_range, List.size_toArray, hzl]
              rw [← hzl]
              clear hl hrep hc2 hc4 hsmall ho h
              induction n with
              | zero => simp
              | succ n ih =>
                rw [List.replicate_succ', List.flatten_append, ← ih]
                rw [Nat.succ_mul, List.range_add, List.map_append]
                congr 1
                simp only [List.flatten_cons, List.flatten_nil, List.append_nil]
                rw [List.map_map]
                apply List.ext_getElem
                · simp
                · intro j hj hj'
                  simp at hj
                  simp [Nat.mul_add_mod_of_lt, Nat.mod_eq_of_lt hj, hj, Nat.add_mod]
            obtain ⟨p1, p2⟩ := pairs_rel hf parts
            obtain ⟨vo, e1, e2⟩ := fill_rel p1 p2 hrep hl
            refine ?_
            have hrun : (execOp a.eval o).run P w = .ok (.value (.slice (some ⟨w.heap.size, 0, none⟩) n n)) (w.alloc (.cells ⟨vo⟩ elem)) := by
              unfold execOp; rw [ho]
              have h24 : ¬ (n * i.size > 2 ^ 24) := by omega
              have he1 : Instr.fill (fun j => some (j * i.size, i.size)) ⟨(List.replicate n vs).flatten⟩ (parts.map fun (i, x) => (i, a.eval x)).toList = some ⟨vo⟩ := e1
              simp only [exec_v, Instr.buildSlice, Sem.run_bind, run_underlying hu, run_sizeOf hi, Result.andThen_ok]
              rw [if_neg h24]
              have hn : 0 < n := by simpa [Nat.blt_eq] using hc4
              have h0 : ¬ n * i.size = 0 := fun h => by rcases Nat.mul_eq_zero.1 h with h | h <;> omega
              simp only [h0, if_false, Sem.run_bind, h1, Result.andThen_ok, Sem.run_pure, hcells, he1]
              rfl
            rw [hrun]
            split at h
            · rename_i et es hb
              simp only [T.leaf, Option.some.injEq] at h; subst h
              unfold builtOf at hb
              split at hb
              · rename_i et' het
                split at hb
                · rename_i hw
                  have hw := Nat.eq_of_beq_eq_true hw
                  split at hb
                  · rename_i es' hes
                    simp only [Option.some.injEq, Prod.mk.injEq] at hb
                    obtain ⟨rfl, rfl⟩ := hb
                    obtain ⟨q1, q2⟩ := elemsOf_enc hes e2
                    have hrow : ((mkRow es').den η).toL = es'.map (E.den η) := by rw [den_mkRow]; rfl
                    have hvl : vo.length = n * et'.width := by
                      have := encA_len q1
                      rw [hw]
                      have hlo := Rels.length e2
                      have hlr := Rels.length hrep
                      have hfl : ∀ {parts : List (Nat × SV)} {cells out : List SV}, fillSV (fun j => some (j * i.size, i.size)) cells parts = some out → out.length = cells.length := by
                        intro parts
                        induction parts with
                        | nil => intro cells out hh; simp only [fillSV, Option.some.injEq] at hh; subst hh; rfl
                        | cons p rest ih =>
                          intro cells out hh
                          obtain ⟨pi, px⟩ := p
                          simp only [fillSV] at hh
                          split at hh
                          · split at hh
                            · rw [ih hh, putAll_length]
                            · cases hh
                          · cases hh
                      rw [hlo, hfl hl]
                      simp [Nat.eq_of_beq_eq_true hc1]
                    exact ⟨_, prefix_snoc _ _, newArr hI (N := n) (by rw [hrow]; exact q1) (by rw [hrow, List.length_map, q2]; exact Nat.le_refl _) (by rw [hvl]; exact Nat.le_refl _) elem (0, 0) (by intro i _; simp),
                      newArr_rel hI (by simp [eInt, E.den, toI_i]) (Nat.le_refl _) (Nat.le_refl _)⟩
                  · cases hb
                · cases hb
              · cases hb
            · simp only [T.leaf, Option.some.injEq] at h; subst h
              refine ⟨ρ ++ [.blk w.heap.size], prefix_snoc _ _, hI.alloc elem e2, ?_⟩
              simp only [Rel]
              exact ⟨_, by rw [← hI.len]; simp, rfl⟩
          · simp [T.leaf] at h
        · simp [T.leaf] at h
      · simp [T.leaf] at h
    · simp [T.leaf] at h
  · simp [T.leaf] at h

theorem zeroCT_rel {elem : TypeId} {ct : CT} {z : O1} (h : zeroCT P elem = some (ct, z)) : ∃ inf zv d, P.info? elem = some inf ∧ inf.zero = some zv ∧ zv.cells = #[zv] ∧ EncC η.R ct d zv ∧ inf.bytes ≤ 8 ∧ inf.size = 1 ∧
    ∀ a : E, ((mk1 z a).den η).toL = List.replicate (a.den η).toI.toNat d := by
  unfold zeroCT at h
  split at h
  · rename_i k i het hi
    split at h
    · rename_i k2 hz
      split at h
      · rename_i hk; subst hk
        split at h
        · rename_i hc
          rw [Bool.and_eq_true] at hc
          simp only [Option.some.injEq, Prod.mk.injEq] at h; obtain ⟨rfl, rfl⟩ := h
          exact ⟨i, _, .i 0, hi, hz, rfl, by simp only [EncC]; exact ⟨0, rfl, rfl⟩, Nat.le_of_ble_eq_true hc.1, Nat.eq_of_beq_eq_true hc.2, fun a => by rw [den_mk1]; rfl⟩
        · cases h
      · cases h
    · cases h
  · rename_i i het hi
    split at h
    · rename_i hz
      split at h
      · rename_i hc
        rw [Bool.and_eq_true] at hc
        simp only [Option.some.injEq, Prod.mk.injEq] at h; obtain ⟨rfl, rfl⟩ := h
        exact ⟨i, _, .b false, hi, hz, rfl, by simp only [EncC]; exact ⟨false, rfl, rfl⟩, Nat.le_of_ble_eq_true hc.1, Nat.eq_of_beq_eq_true hc.2, fun a => by rw [den_mk1]; rfl⟩
      · cases h
    · cases h
  · cases h

theorem evOp_gives {call : FuncId → List SV → List Chunk → T (SV × List Chunk)} (hcall : CallSound P Ω η B T' call) {ρ : List Hd} {s : St} {a : Act} {w : World} (hI : Inv Ω η B T' ρ s.mem w)
    (hf : Rels η ρ s.fr a.tmps.toList) {o : Oper} {vm : SV × List Chunk} (h : (evOp P call s o).leaf η = some vm) : OpGives P Ω η B T' ρ vm w ((execOp a.eval o).run P w) := by
  have one : ∀ {x : Operand}, Rel η ρ (opd s x) (a.eval x) := fun {x} => opd_rel hf x
  unfold evOp at h
  split at h
  · rename_i e v hv
    exact read_gives hI hf hv h
  · split at h
    · rename_i t x y ho
      obtain ⟨w', h1, h2, h3⟩ := storeOp_rel hI h (@one x) (@one y)
      have : (execOp a.eval o).run P w = .ok .skip w' := by unfold execOp; rw [ho]; simp only [Sem.run_bind, h1]; rfl
      rw [this]
      exact ⟨ρ, List.prefix_refl _, h2, by rw [h3]; exact undef_rel⟩
    · -- alloc
      rename_i t ho
      split at h
      · rename_i l hz
        simp only [T.leaf, Option.some.injEq] at h; subst h
        obtain ⟨v, vs, h1, h2, h3, _⟩ := zeroCells_rel (η := η) (ρ := ρ) hz
        obtain ⟨w', g1, g2, g3⟩ := newVar_rel (P := P) (t := t) hI h2 h3
        have : (execOp a.eval o).run P w = .ok (.value (.pointer (some ⟨w.heap.size, 0, none⟩))) w' := by
          unfold execOp; rw [ho]; simp only [exec_v, Instr.alloc, Sem.run_bind, h1, Result.andThen_ok, g1]; rfl
        rw [this]
        exact ⟨_, prefix_snoc _ _, g2, g3⟩
      · simp [T.leaf] at h
    · -- box
      rename_i t x ho
      split at h
      · rename_i l hl
        split at h
        · simp only [T.leaf, Option.some.injEq] at h; subst h
          obtain ⟨vs, h2, h3⟩ := cells_rel hl (@one x)
          obtain ⟨w', g1, g2, g3⟩ := newVar_rel (P := P) (t := t) hI h2 h3
          have : (execOp a.eval o).run P w = .ok (.value (.pointer (some ⟨w.heap.size, 0, none⟩))) w' := by
            unfold execOp; rw [ho]; simp only [exec_v, Instr.box, Sem.run_bind, Result.andThen_ok, g1]; rfl
          rw [this]
          exact ⟨_, prefix_snoc _ _, g2, g3⟩
        · simp [T.leaf] at h
      · simp [T.leaf] at h
    · rename_i t n parts ho
      exact buildS_gives hI hf ho h
    · -- makeSlice
      rename_i t l c ho
      unfold evMakeS at h
      split at h
      · rename_i elem a' b' hu hl hc
        split at h
        · rename_i hab
          have hab := eqE_eq hab
          subst hab
          split at h
          · rename_i ct z hz
            obtain ⟨hg, h⟩ := leaf_need h
            simp only [T.leaf, Option.some.injEq] at h; subst h
            obtain ⟨inf, zv, d, p1, p2, p3, p4, p5, p6, p7⟩ := zeroCT_rel (η := η) hz
            obtain ⟨hg1, hg2⟩ := toB_and hg
            have hg2 := le_of hg2
            simp only [most, eInt, E.den, toI_i] at hg2
            obtain ⟨ρ', w', r1, r2, r3, r4⟩ := make_rel (P := P) hI hu p1 p2 p3 p4 p5 p6 (ge0_of hg1) hg2 (p7 a')
            have rl := @one l; rw [hl] at rl; simp only [Rel] at rl
            have rc := @one c; rw [hc] at rc; simp only [Rel] at rc
            have : (execOp a.eval o).run P w = .ok (.value (.slice (some ⟨w.heap.size, 0, none⟩) (a'.den η).toI.toNat (a'.den η).toI.toNat)) w' := by
              unfold execOp; rw [ho]; simp only [exec_v, rl, rc, r1]; rfl
            rw [this]
            exact ⟨ρ', r2, r3, r4⟩
          · simp [T.leaf] at h
        · simp [T.leaf] at h
      · simp [T.leaf] at h
    · -- makeMap
      rename_i t ho
      split at h
      · simp only [T.leaf, Option.some.injEq] at h; subst h
        have : (execOp a.eval o).run P w = .ok (.value (.map (some w.heap.size))) (w.alloc (.map #[] 0)) := by
          unfold execOp; rw [ho]
          simp only [exec_v, Instr.makeMap, Option.map_none, Sem.run_bind, run_newObj, Result.andThen_ok, Sem.run_pure]
          rfl
        rw [this]
        refine ⟨ρ ++ [.val (.map (some w.heap.size))], prefix_snoc _ _, hI.new ?_, ?_⟩
        · simp only [Chunk.holds]
          exact ⟨w.heap.size, #[], 0, rfl, by (show (w.heap.push _)[w.heap.size]? = _; simp), by simp [eNil, E.den, toL_ls, MEnc], fun x => Iff.rfl⟩
        · simp only [Rel]
          exact ⟨by rw [← hI.len]; simp, rfl⟩
      · simp [T.leaf] at h
    · -- mapUpdate
      rename_i t x k v ho
      unfold evMapU at h
      split at h
      · rename_i c ke ve hx hk hv
        split at h
        · rename_i e hq
          split at h
          · rename_i hty
            simp only [T.leaf, Option.some.injEq] at h; subst h
            have rx := @one x; rw [hx] at rx
            have rk := @one k; rw [hk] at rk; simp only [Rel] at rk
            have rv := @one v; rw [hv] at rv; simp only [Rel] at rv
            obtain ⟨w', h1, h2⟩ := mapUpdate_rel (P := P) (ke := ke) (ve := ve) hI hty hq rx
            have : (execOp a.eval o).run P w = .ok .skip w' := by unfold execOp; rw [ho]; simp only [Sem.run_bind, rk, rv, h1]; rfl
            rw [this]
            exact ⟨ρ, List.prefix_refl _, h2, undef_rel⟩
          · simp [T.leaf] at h
        · simp [T.leaf] at h
      · simp [T.leaf] at h
    · -- bytes of a string
      rename_i t t' x ho
      unfold evConvB at h
      split at h
      · rename_i e hx
        split at h
        · rename_i hty
          rw [Bool.and_eq_true] at hty
          obtain ⟨h1, h2⟩ := hty
          unfold isBytes at h1
          unfold isStr at h2
          split at h1
          · rename_i el hs
            split at h1
            · rename_i hel
              split at h2
              · rename_i hd
                simp only [T.leaf, Option.some.injEq] at h; subst h
                have rx := @one x; rw [hx] at rx; simp only [Rel] at rx
                have hrun := run_bytes_of_string (P := P) w t t' el ⟨⟨(e.den η).toS⟩⟩ hd hs hel
                have hx2 : (execOp a.eval o).run P w = ((convert t t' (a.eval x)).run P w).andThen fun v w' => .ok (.value v) w' := by unfold execOp; rw [ho]; simp only [exec_v]
                rw [hx2, rx, hrun, Result.andThen_ok]
                have hl : ((mk1 .bytesOf e).den η).toL = bytesOfS (e.den η).toS := by rw [den_mk1]; rfl
                have hsz : (⟨⟨(e.den η).toS⟩⟩ : ByteArray).size = (e.den η).toS.length := strSize _
                have hI1 : Inv Ω η B T' ρ s.mem w.drew := hI.drawn (w.drawn + 1)
                have hge := grownCap_ge w (⟨⟨(e.den η).toS⟩⟩ : ByteArray).size 0 el
                have hrow : bytesRow (⟨⟨(e.den η).toS⟩⟩ : ByteArray) (grownCap w (⟨⟨(e.den η).toS⟩⟩ : ByteArray).size 0 el) =
                    ⟨(bytesOfS (e.den η).toS).map (fun d => .int .u8 d.toI) ++ List.replicate (grownCap w (⟨⟨(e.den η).toS⟩⟩ : ByteArray).size 0 el - (⟨⟨(e.den η).toS⟩⟩ : ByteArray).size) (.int .u8 0)⟩ := by
                  apply Array.ext'
                  simp [bytesRow, bytesOfS, toI_i]
                rw [hrow]
                refine ⟨_, prefix_snoc _ _, newArr hI1 (N := grownCap w (⟨⟨(e.den η).toS⟩⟩ : ByteArray).size 0 el) ?_ ?_ ?_ el _ ?_, newArr_rel hI ?_ hge (Nat.le_refl _)⟩
                · rw [hl]
                  intro i d hd
                  simp only [EncE, EncC, ET.width, ET.cts, List.length_singleton, Nat.mul_one]
                  have hd0 := hd
                  simp only [bytesOfS, List.getElem?_map, Option.map_eq_some_iff] at hd
                  obtain ⟨b, hb, rfl⟩ := hd
                  have hlt : i < (bytesOfS (e.den η).toS).length := (List.getElem?_eq_some_iff.1 hd0).1
                  refine ⟨.int .u8 (b.toNat : Int), ?_, _, rfl, rfl⟩
                  apply List.ext_getElem?
                  intro x
                  rw [List.getElem?_take, List.getElem?_drop]
                  cases x with
                  | zero =>
                    have hg := (List.getElem?_eq_some_iff.1 hd0).2
                    simp [List.getElem?_append, hlt, hg, toI_i]
                  | succ x => simp
                · rw [hl]; simp [bytesOfS]; rw [← hsz]; exact hge
                · simp [ET.width, ET.cts, bytesOfS, hsz] at hge ⊢; omega
                · intro i hi; simp at hi ⊢; omega
                · rw [den_lenL, hl]; simp [bytesOfS, hsz]
              · cases h2
            · cases h1
          · cases h1
        · simp [T.leaf] at h
      · simp [T.leaf] at h
    · -- append
      rename_i args ats ho
      unfold evAppend at h
      split at h
      · rename_i x y t t2 hargs hats
        split at h
        · rename_i g v m' hap
          obtain ⟨hg, h⟩ := leaf_need h
          simp only [T.leaf, Option.some.injEq] at h; subst h
          have ra := args_rel hf args
          rw [hargs] at ra
          simp only [Rels] at ra
          obtain ⟨vx, r1, hvx, rx, vy, r2, rfl, ry, rfl⟩ := ra
          obtain ⟨u, ρ', w', h1, h2, h3, h4⟩ := append_rel (P := P) (ty := o.type) hI hap hg rx ry
          have he : args.map a.eval = #[vx, vy] := by apply Array.ext'; rw [Array.toList_map, hvx]
          have ht : ats = #[t, t2] := toList_inj hats
          have : (execOp a.eval o).run P w = .ok (.value u) w' := by
            unfold execOp; rw [ho]
            simp only [resolve, Sem.run_bind, Sem.run_pure, Result.andThen_ok, invoke, builtin, he, ht, exec_v, h1]
          rw [this]
          exact ⟨ρ', h2, h3, h4⟩
        · simp [T.leaf] at h
      · simp [T.leaf] at h
    · -- delete
      rename_i args ats ho
      unfold evDelete at h
      split at h
      · rename_i c ke t r hargs hats
        split at h
        · rename_i e hq
          split at h
          · rename_i hty
            simp only [T.leaf, Option.some.injEq] at h; subst h
            have ra := args_rel hf args
            rw [hargs] at ra
            simp only [Rels] at ra
            obtain ⟨vx, r1, hvx, rx, vy, r2, rfl, ry, rfl⟩ := ra
            simp only [Rel] at ry; subst ry
            have hat0 : ats[0]? = some t := by
              have : ats.toList[0]? = some t := by rw [hats]; rfl
              simpa using this
            obtain ⟨w', h1, h2⟩ := delete_rel (P := P) (t2 := 0) (ty := o.type) (ke := ke) hI hty hq rx ats hat0
            have he : args.map a.eval = #[vx, .int .i64 (ke.den η).toI] := by apply Array.ext'; rw [Array.toList_map, hvx]
            have : (execOp a.eval o).run P w = .ok (.value (.tuple #[])) w' := by
              unfold execOp; rw [ho]
              simp only [resolve, Sem.run_bind, Sem.run_pure, Result.andThen_ok, invoke, builtin, he, exec_v, h1]
            rw [this]
            exact ⟨ρ, List.prefix_refl _, h2, undef_rel⟩
          · simp [T.leaf] at h
        · simp [T.leaf] at h
      · simp [T.leaf] at h
    · -- call
      rename_i c _ _ ho
      split at h
      · rename_i f args hcl
        split at h
        · obtain ⟨vs, h1, h2⟩ := callee_rel (P := P) hf hcl
          obtain ⟨g1, g2⟩ := hcall f args s.mem vm h ρ vs w hI h1
          have : (execOp a.eval o).run P w = .ok (.enter f ⟨vs⟩) w := by
            unfold execOp; rw [ho]; rw [← g1 ⟨vs⟩ w, ← h2 o.type w]
          rw [this]
          exact ⟨rfl, g2⟩
        · simp [T.leaf] at h
      · simp [T.leaf] at h
    · simp [T.leaf] at h
end
end Go.Sy
