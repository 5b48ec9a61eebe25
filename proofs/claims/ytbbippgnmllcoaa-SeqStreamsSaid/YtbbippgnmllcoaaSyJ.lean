/- The symbolic executor, tenth part: the operations that only read the memory are as the model has them. Own work of this session. -/
import Derived.Test.YtbbippgnmllcoaaSyI
import Derived.MapKept
import Derived.Laws.BytesString
set_option linter.unusedVariables false
set_option linter.unusedSimpArgs false
namespace Go.Sy
section
variable {P : Program} {Ω : Om} {η : Env} {B : World} {T' : Nat → Prop} {ρ : List Hd} {m : List Chunk} {w : World}

theorem foldl_pushes (ns : List Int) : ∀ l : List UInt8, ns.foldl (fun r n => r.push (UInt8.ofNat n.toNat)) (⟨⟨l⟩⟩ : ByteArray) = ⟨⟨l ++ ns.map fun n => UInt8.ofNat n.toNat⟩⟩ := by
  induction ns with
  | nil => intro l; simp
  | cons n ns ih =>
    intro l
    simp only [List.foldl_cons, List.map_cons]
    have : (⟨⟨l⟩⟩ : ByteArray).push (UInt8.ofNat n.toNat) = ⟨⟨l ++ [UInt8.ofNat n.toNat]⟩⟩ := by
      simp [ByteArray.push]
    rw [this, ih]
    simp
/-- The bytes of an array, cell by cell. -/
theorem bytes_cells : ∀ {ds : List D} {cs : List Value}, EncA η.R (.one (.int .u8)) ds cs → ds.length ≤ cs.length → cs.take ds.length = ds.map fun d => .int .u8 d.toI
  | [], cs, _, _ => by simp
  | d :: ds, [], _, h => by simp at h
  | d :: ds, c :: cs, h, hl => by
    have h0 := h 0 d rfl
    simp only [EncE, EncC, ET.width, ET.cts] at h0
    obtain ⟨v, hv, n, rfl, rfl⟩ := h0
    simp at hv
    subst hv
    have : EncA η.R (.one (.int .u8)) ds cs := by
      intro i d' hd'
      have := h (i + 1) d' (by simpa using hd')
      simpa [ET.width, ET.cts] using this
    have ih := bytes_cells this (by simpa using hl)
    simp [ih, toI_i]
theorem fits_of {off len e : E} (h : ((fits off len e).den η).toB = true) (hlen : (len.den η).toI = ((e.den η).toL.length : Int) ∨ True) : (off.den η).toI + (len.den η).toI ≤ ((e.den η).toL.length : Int) := by
  unfold fits at h
  split at h
  · split at h
    · rename_i he
      have := eqE_eq he
      rw [this, den_lenL]
      simp [E.den, toI_i]
    · have := le_of h
      rw [den_lenL] at this
      simpa [E.den, toI_i] using this
  · have := le_of h
    rw [den_lenL, den_mkAdd] at this
    exact this

theorem evRead_rel {s : St} {a : Act} {w : World} (hI : Inv Ω η B T' ρ s.mem w) (hf : Rels η ρ s.fr a.tmps.toList) {o : Oper} {e : E} {v : SV} (h : evRead P s o.op = some (e, v)) (he : (e.den η).toB = true) :
    ∃ u, Rel η ρ v u ∧ (execOp a.eval o).run P w = .ok (.value u) w := by
  obtain ⟨dst, op, type, pos, after, guard⟩ := o
  dsimp only at h
  have one : ∀ {x : Operand}, Rel η ρ (opd s x) (a.eval x) := fun {x} => opd_rel hf x
  cases op <;> try (simp only [evRead, reduceCtorEq] at h; done)
  case load t x =>
    simp only [evRead] at h
    have fin : ∀ {u : Value}, Rel η ρ v u → (Instr.loadAt t (a.eval x)).run P w = .ok u w → ∃ u, Rel η ρ v u ∧ (execOp a.eval ⟨dst, .load t x, type, pos, after, guard⟩).run P w = .ok (.value u) w :=
      fun {u} h1 h2 => ⟨u, h1, by simp only [execOp, exec_v]; rw [h2]; rfl⟩
    have ra := @one x
    split at h
    · rename_i c off hx
      rw [Option.map_eq_some_iff] at h
      obtain ⟨v', hv, h⟩ := h
      simp only [Prod.mk.injEq] at h; obtain ⟨rfl, rfl⟩ := h
      rw [hx] at ra
      obtain ⟨u, h1, h2⟩ := load_rel hI hv ra
      exact fin h1 h2
    · rename_i c k i j hx
      split at h
      · rename_i et q hq
        split at h
        · rename_i hw
          have hw := Nat.eq_of_beq_eq_true hw
          rw [Option.map_eq_some_iff] at h
          obtain ⟨v', hv, h⟩ := h
          simp only [Prod.mk.injEq] at h; obtain ⟨rfl, rfl⟩ := h
          rw [hx] at ra
          simp only [Rel] at ra
          obtain ⟨b, o, n, p, hb, hp, hax⟩ := ra
          obtain ⟨cs, ty, fz, g1, g2, g3, g4, g5⟩ := hI.arr hq hb
          have hlt := lt_of he
          rw [den_lenL, hp] at hlt
          have hlt : p < (q.den η).toL.length := by omega
          have hd : (q.den η).toL[p]? = some ((mk2 .nth q i).den η) := by
            rw [den_mk2]
            simp [O2.den, hp, List.getD_eq_getElem?_getD, hlt]
          obtain ⟨u, h1, h2⟩ := elemLoad_rel (P := P) (ρ := ρ) (w := w) (b := b) (off := o + p * et.width) hv (g5 p _ hd) (fun i u hu => by rw [cell_of_cells g1]; exact elem_in hu)
          refine fin h1 ?_
          rw [hax, ← hw]; exact h2
        · cases h
      · cases h
    · rename_i et q i j hx
      rw [Option.map_eq_some_iff] at h
      obtain ⟨v', hv, h⟩ := h
      simp only [Prod.mk.injEq] at h; obtain ⟨rfl, rfl⟩ := h
      rw [hx] at ra
      simp only [Rel] at ra
      obtain ⟨b, o, p, cs, hax, hp, hlt, hR, hE⟩ := ra
      obtain ⟨ty, fz, g1⟩ := hI.read hR
      have hd : (q.den η).toL[p]? = some ((mk2 .nth q i).den η) := by
        rw [den_mk2]
        simp [O2.den, hp, List.getD_eq_getElem?_getD, hlt]
      obtain ⟨u, h1, h2⟩ := elemLoad_rel (P := P) (ρ := ρ) (w := w) (b := b) (off := o + p * et.width) hv (hE p _ hd) (fun i u hu => by rw [cell_of_cells g1]; exact elem_in hu)
      refine fin h1 ?_
      rw [hax]; exact h2
    · cases h
  case lookup t x k ok =>
    simp only [evRead] at h
    split at h
    · rename_i c ke hx hk
      split at h
      · rename_i q hq
        split at h
        · rename_i hty
          simp only [Option.some.injEq, Prod.mk.injEq] at h; obtain ⟨rfl, rfl⟩ := h
          obtain ⟨kt, vt, M⟩ := mapTy_of hty
          have rx := @one x; rw [hx] at rx; simp only [Rel] at rx
          have rk := @one k; rw [hk] at rk; simp only [Rel] at rk
          obtain ⟨r, es, ck, hv, hh, hE⟩ := hI.map hq rx.1
          have hrun : ∀ (val : Int) (is : Bool), mfind (ke.den η).toI (q.den η).toL = (if is then some val else none) → (is = false → val = 0) →
              (execOp a.eval ⟨dst, .lookup t x k ok, type, pos, after, guard⟩).run P w = .ok (.value (if ok then .tuple #[.int .u8 val, .bool is] else .int .u8 val)) w := by
            intro val is hm hz
            have hfind : ∃ r : Option (Nat × Value), Instr.findNow (.int .i64) (.int .i64 (ke.den η).toI) es.toList 0 = some r ∧ (match r with | some (_, v) => v = .int .u8 val ∧ is = true | none => is = false) := by
              rcases findNow_int (ke.den η).toI 0 hE with ⟨j, d, e, g1, g2, g3, g4, g5, g6⟩ | ⟨g1, g2, g3⟩
              · refine ⟨_, g6, ?_⟩
                rw [g5] at hm
                cases is with
                | true => simp at hm; exact ⟨by rw [hm], rfl⟩
                | false => simp at hm
              · refine ⟨_, g3, ?_⟩
                rw [g2] at hm
                cases is with
                | true => simp at hm
                | false => rfl
            obtain ⟨r', hr', hr''⟩ := hfind
            have hk1 := MapKept.run_findKey (P := P) (w := w) M.ky hr'
            simp only [execOp, exec_v, Instr.lookup, hv, rk, Sem.run_bind, run_underlying M.mp, Result.andThen_ok, MapKept.run_getObj_map hh, Sem.run_pure, checkKey_int M.ky, hk1]
            cases r' with
            | none =>
              simp only at hr''
              simp only [Sem.run_bind, M.z, Result.andThen_ok, Sem.run_pure]
              rw [hr'', hz hr'']
            | some p =>
              obtain ⟨pi, pv⟩ := p
              simp only at hr''
              obtain ⟨rfl, rfl⟩ := hr''
              simp only [Sem.run_pure, Result.andThen_ok]
              cases ok <;> rfl
          have hval := hrun ((mfind (ke.den η).toI (q.den η).toL).getD 0) (mfind (ke.den η).toI (q.den η).toL).isSome (by cases mfind (ke.den η).toI (q.den η).toL <;> simp) (by cases mfind (ke.den η).toI (q.den η).toL <;> simp)
          refine ⟨_, ?_, hval⟩
          cases ok with
          | true =>
            simp only [if_true, Rel]
            exact ⟨_, rfl, Rels.cons (by simp only [Rel, den_mk2, O2.den, toI_i]) (Rels.cons (by simp only [Rel, den_mk2, O2.den, toB_b]) Rels.nil)⟩
          | false => simp only [Bool.false_eq_true, if_false, Rel, den_mk2, O2.den, toI_i]
        · cases h
      · cases h
    · cases h
  case convert src dst' x =>
    simp only [evRead] at h
    split at h
    · rename_i hty
      rw [Bool.and_eq_true] at hty
      obtain ⟨h1, h2⟩ := hty
      unfold isBytes at h1
      split at h1
      · rename_i el hs
        split at h1
        · rename_i hel
          unfold isStr at h2
          split at h2
          · rename_i hd
            have rx := @one x
            split at h
            · rename_i nn c k off len hx
              split at h
              · rename_i et q hq
                split at h
                · rename_i hw
                  rw [Bool.and_eq_true] at hw
                  have e1 := ET.eqb_eq _ _ hw.1
                  have e2 := Nat.eq_of_beq_eq_true hw.2
                  subst e1 e2
                  simp only [Option.some.injEq, Prod.mk.injEq] at h; obtain ⟨rfl, rfl⟩ := h
                  rw [hx] at rx
                  have hfit := fits_of he (.inr trivial)
                  simp only [Rel] at rx
                  split at rx
                  · obtain ⟨b, o, n, off', l, cap, r1, r2, r3, r4, r5, r6⟩ := rx
                    obtain ⟨cs, ty, fz, g1, g2, g3, g4, g5⟩ := hI.arr hq r1
                    -- the bytes
                    have hsub : ((mkSubL q off (mkAdd off len)).den η).toL = ((q.den η).toL.drop off').take l ∧ (l = 0 ∨ off' + l ≤ (q.den η).toL.length) := by
                      rw [den_mkSubL, den_mkAdd, r3]
                      rcases r6 with rfl | r6
                      · simp
                      · rw [r6] at hfit ⊢
                        rw [r3] at hfit
                        refine ⟨?_, .inr (by omega)⟩
                        have e1 : ((off' : Int) + (l : Int)).toNat - ((off' : Int)).toNat = l := by omega
                        rw [e1]; simp
                    have hcut := encA_cut g5 off' l
                    rw [← hsub.1] at hcut
                    have hlen : ((mkSubL q off (mkAdd off len)).den η).toL.length = l := by
                      rw [hsub.1]; simp
                      rcases hsub.2 with h0 | h0 <;> omega
                    have hw1 : (ET.one (CT.int .u8)).width = 1 := rfl
                    rw [hw1] at g4 hcut
                    have hle : l ≤ (cs.drop (o + off' * 1)).length := by
                      simp
                      rcases hsub.2 with h0 | h0 <;> omega
                    have hb := bytes_cells hcut (by rw [hlen]; exact hle)
                    rw [hlen] at hb
                    have hload : (loadCells ⟨b, o + off' * 1, none⟩ l).run P w = .ok ((((mkSubL q off (mkAdd off len)).den η).toL.map D.toI).map (Value.int .u8)).toArray w := by
                      have := run_cells (P := P) (w := w) b (o + off' * 1) ((cs.drop (o + off' * 1)).take l) (fun j v hv => by
                        rw [cell_of_cells g1]
                        rw [List.getElem?_take] at hv
                        split at hv
                        · rw [List.getElem?_drop] at hv; exact hv
                        · cases hv)
                      rw [hb] at this
                      rw [List.length_map, hlen] at this
                      rw [this]
                      simp
                    have hstr := run_bytesToString (P := P) w ⟨b, o + off' * 1, none⟩ l cap _ hload
                    refine ⟨_, ?_, by simp only [execOp, exec_v]; rw [r2, run_convert_bytes_string w src dst' el _ _ _ hs hel hd, hstr]; rfl⟩
                    simp only [Rel, den_mk1, O1.den, toS_s, strOfL]
                    have := foldl_pushes (((mkSubL q off (mkAdd off len)).den η).toL.map D.toI) []
                    rw [show ByteArray.empty = (⟨⟨[]⟩⟩ : ByteArray) from rfl, this]
                    simp [List.map_map, Function.comp_def]
                  · obtain ⟨rv, r3⟩ := rx
                    refine ⟨.string .empty, ?_, by simp only [execOp, exec_v]; rw [rv, run_convert_bytes_string w src dst' el _ _ _ hs hel hd]; rfl⟩
                    simp only [Rel, den_mk1, O1.den, toS_s, strOfL, den_mkSubL, den_mkAdd, r3]
                    simp
                    rfl
                · cases h
              · cases h
            · rename_i hx
              simp only [Option.some.injEq, Prod.mk.injEq] at h; obtain ⟨rfl, rfl⟩ := h
              rw [hx] at rx
              simp only [Rel] at rx
              exact ⟨.string .empty, by simp only [Rel, E.den, toS_s]; rfl, by simp only [execOp, exec_v]; rw [rx, run_convert_bytes_string w src dst' el _ _ _ hs hel hd]; rfl⟩
            · cases h
          · cases h2
        · cases h1
      · cases h1
    · cases h
  case call c =>
    obtain ⟨callee, args, ats⟩ := c
    cases callee with
    | value f => simp only [evRead, reduceCtorEq] at h
    | invoke r m => simp only [evRead, reduceCtorEq] at h
    | builtin b =>
      have ra := args_rel hf args
      cases b <;> try (simp only [evRead, reduceCtorEq] at h; done)
      case len =>
        simp only [evRead] at h
        split at h
        · rename_i c t hl ht
          split at h
          · rename_i q hq
            split at h
            · rename_i hty
              simp only [Option.some.injEq, Prod.mk.injEq] at h; obtain ⟨rfl, rfl⟩ := h
              obtain ⟨kt, vt, M⟩ := mapTy_of hty
              rw [hl] at ra
              simp only [Rels] at ra
              obtain ⟨b, t', hb, r1, r2⟩ := ra
              subst r2
              simp only [Rel] at r1
              obtain ⟨r, es, ck, hv, hh, hE⟩ := hI.map hq r1.1
              have he : args.map a.eval = #[b] := by apply Array.ext'; rw [Array.toList_map, hb]
              refine ⟨.int .i64 (es.size : Int), ?_, ?_⟩
              · simp only [Rel, den_lenL]
                have := menc_length hE
                rw [← this]; simp
              · have hlen : (Builtin.len_ ats type #[.map (some r)]).run P w = .ok (.int .i64 (es.size : Int)) w := by
                  simp [Builtin.len_, ht, run_underlying M.mp, MapKept.run_getObj_map hh, goInt]
                simp only [execOp, resolve, Sem.run_bind, Sem.run_pure, Result.andThen_ok, invoke, builtin, he, hv, hlen]
            · cases h
          · cases h
        · cases h
theorem evVal_rel {s : St} {a : Act} {w : World} (hI : Inv Ω η B T' ρ s.mem w) (hf : Rels η ρ s.fr a.tmps.toList) {o : Oper} {e : E} {v : SV} (h : evVal P s o.op = some (e, v)) (he : (e.den η).toB = true) :
    ∃ u, Rel η ρ v u ∧ (execOp a.eval o).run P w = .ok (.value u) w := by
  unfold evVal at h
  split at h
  · rename_i r hr
    simp only [Option.some.injEq] at h; subst h
    obtain ⟨u, h1, h2⟩ := evPure_rel hf hr he
    exact ⟨u, h1, h2 w⟩
  · exact evRead_rel hI hf h he
end
end Go.Sy
