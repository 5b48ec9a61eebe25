/- The symbolic executor, twelfth part, b: make, maps; one operation. Own work of this session. -/
import Derived.Test.YtbbippgnmllcoaaSyL
set_option linter.unusedVariables false
set_option linter.unusedSimpArgs false
namespace Go.Sy
section
variable {P : Program} {Ω : Om} {η : Env} {B : World} {T' : Nat → Prop} {ρ : List Hd} {m : List Chunk} {w : World}

/-- A new array, all of it told. -/
theorem newArr (hI : Inv Ω η B T' ρ m w) {et : ET} {l : E} {cs : List Value} (hE : EncA η.R et (l.den η).toL cs) {N : Nat} (hN : (l.den η).toL.length ≤ N) (hl : N * et.width ≤ cs.length) (e : TypeId) (fz : Nat × Nat)
    (hz : ∀ i, i < cs.length → ¬ (fz.1 ≤ i ∧ i < fz.2)) : Inv Ω η B T' (ρ ++ [.arr w.heap.size 0 N]) (m ++ [.arr et l]) (w.alloc (.cells ⟨cs⟩ e fz)) := by
  refine hI.new (hd := .arr w.heap.size 0 N) ?_
  simp only [Chunk.holds]
  refine .inl ⟨w.heap.size, 0, N, cs, e, fz, rfl, ?_, hz, hN, by simpa using hl, by simpa using hE, fun x => Iff.rfl⟩
  show (w.heap.push _)[w.heap.size]? = _
  simp
theorem newArr_rel (hI : Inv Ω η B T' ρ m w) {k N l cap : Nat} {len : E} (h1 : (len.den η).toI = (l : Int)) (h2 : l ≤ cap) (h3 : cap ≤ N) :
    Rel η (ρ ++ [.arr w.heap.size 0 N]) (.asl eTrue m.length k (eInt 0) len) (.slice (some ⟨w.heap.size, 0, none⟩) l cap) := by
  simp only [Rel]
  rw [if_pos (by rfl)]
  exact ⟨w.heap.size, 0, N, 0, l, cap, by rw [← hI.len]; simp, by simp, h1, h2, by omega, .inr (by simp [eInt, E.den, toI_i])⟩
theorem made_enc {c : CT} {d : D} {v : Value} (h : EncC η.R c d v) (n : Nat) : EncA η.R (.one c) (List.replicate n d) (List.replicate n v) := by
  intro i d' hd
  rw [List.getElem?_replicate] at hd
  split at hd
  · rename_i hi
    simp only [Option.some.injEq] at hd; subst hd
    simp only [EncE, ET.width, ET.cts, List.length_singleton, Nat.mul_one]
    refine ⟨v, ?_, h⟩
    rw [List.drop_replicate, List.take_replicate]
    rw [Nat.min_eq_left (by omega)]; rfl
  · cases hd
theorem make_rel (hI : Inv Ω η B T' ρ m w) {t elem : TypeId} {inf : TypeInfo} {z : Value} {c : CT} {d : D} {a l : E} (ht : P.underlying t = some (.slice elem)) (hi : P.info? elem = some inf) (hz : inf.zero = some z)
    (hzc : z.cells = #[z]) (hE : EncC η.R c d z) (hby : inf.bytes ≤ 8) (hsz : inf.size = 1) (ha0 : 0 ≤ (a.den η).toI) (ham : (a.den η).toI ≤ 1099511627776) (hl : (l.den η).toL = List.replicate (a.den η).toI.toNat d) :
    ∃ ρ' w', (Instr.makeSlice t (.int .i64 (a.den η).toI) (.int .i64 (a.den η).toI)).run P w = .ok (.slice (some ⟨w.heap.size, 0, none⟩) (a.den η).toI.toNat (a.den η).toI.toNat) w' ∧
      ρ <+: ρ' ∧ Inv Ω η B T' ρ' (m ++ [.arr (.one c) l]) w' ∧ Rel η ρ' (.asl eTrue m.length 1 (eInt 0) (wI a)) (.slice (some ⟨w.heap.size, 0, none⟩) (a.den η).toI.toNat (a.den η).toI.toNat) := by
  have hb' : (inf.bytes : Int) * (a.den η).toI ≤ 281474976710656 := by
    have h8 : (inf.bytes : Int) ≤ 8 := by omega
    calc (inf.bytes : Int) * (a.den η).toI ≤ 8 * (a.den η).toI := Int.mul_le_mul_of_nonneg_right h8 ha0
      _ ≤ 8 * 1099511627776 := by omega
      _ ≤ 281474976710656 := by decide
  have hr := run_make (P := P) w t elem inf z ht hi hz .i64 .i64 (a.den η).toI (a.den η).toI ha0 (Int.le_refl _) hb' (by omega)
  have hm : madeCells z.cells ((a.den η).toI.toNat * inf.size) = ⟨List.replicate (a.den η).toI.toNat z⟩ := by
    apply Array.ext'
    rw [hzc, hsz, Nat.mul_one, toList_madeCells_one]
  rw [hm] at hr
  refine ⟨ρ ++ [.arr w.heap.size 0 (a.den η).toI.toNat], _, hr, prefix_snoc _ _, ?_, newArr_rel hI (by rw [den_wI]; omega) (Nat.le_refl _) (Nat.le_refl _)⟩
  exact newArr hI (by rw [hl]; exact made_enc hE _) (by rw [hl]; simp) (by simp [ET.width, ET.cts]) elem (0, 0) (by intro i _; simp)

/-! ### The elements of a slice that is built -/
theorem elemOf_enc {t : ET} {l : List SV} {es : List E} {d : E} {vs : List Value} (h1 : unOfs t.cts l = some es) (h2 : elemOf t es = some d) (r : Rels η ρ l vs) : EncE η.R t (d.den η) vs := by
  have hE := unOfs_enc h1 r
  unfold elemOf at h2
  cases t with
  | one c' =>
    cases es with
    | nil => simp at h2
    | cons e1 es =>
      cases es with
      | cons _ _ => simp at h2
      | nil =>
        simp only [Option.some.injEq] at h2; subst h2
        simp only [ET.cts, List.map_cons, List.map_nil, EncCs] at hE
        obtain ⟨d1, dr, v1, vr, e1', rfl, h1, rfl, rfl⟩ := hE
        simp at e1'; subst e1'
        simp only [EncE]
        exact ⟨v1, rfl, h1⟩
  | row cs =>
    simp only [Option.some.injEq] at h2; subst h2
    simp only [EncE]
    exact ⟨_, den_mkRow η es, hE⟩
theorem elemsOf_enc {t : ET} : ∀ {n : Nat} {l : List SV} {es : List E} {vs : List Value}, elemsOf t n l = some es → Rels η ρ l vs → EncA η.R t (es.map (E.den η)) vs ∧ es.length = n
  | 0, l, es, vs, h, r => by
    simp only [elemsOf, Option.some.injEq] at h; subst h
    exact ⟨by intro i d hd; simp at hd, rfl⟩
  | n + 1, l, es, vs, h, r => by
    simp only [elemsOf] at h
    split at h
    · rename_i e1 he1
      split at h
      · rename_i d r' hd hr'
        simp only [Option.some.injEq] at h; subst h
        obtain ⟨h1, h2⟩ := elemsOf_enc (t := t) hr' (Rels.drop t.width r)
        refine ⟨?_, by simp [h2]⟩
        intro i d' hd'
        cases i with
        | zero =>
          simp at hd'; subst hd'
          simp only [Nat.zero_mul, List.drop_zero]
          exact elemOf_enc he1 hd (Rels.take t.width r)
        | succ i =>
          have := h1 i d' (by simpa using hd')
          rw [List.drop_drop] at this
          rw [show (i + 1) * t.width = t.width + i * t.width by rw [Nat.add_mul]; omega]
          exact this
      · cases h
    · cases h

/-! ### Maps -/
theorem menc_modify {k v : Int} : ∀ {ds : List D} {es : List MapEntry} {j : Nat}, MEnc ds es → (∀ j' < j, ∀ d', ds[j']? = some d' → dkey d' ≠ k) → (∃ d, ds[j]? = some d ∧ dkey d = k) → (f : MapEntry → MapEntry) →
    (∀ e, (f e).key = .int .i64 k ∧ (f e).val = .int .u8 v) → MEnc (mput k v ds) (es.modify j f)
  | [], es, j, h, _, h2, f, hf => by obtain ⟨d, hd, _⟩ := h2; simp at hd
  | d :: ds, [], j, h, _, _, f, hf => by simp [MEnc] at h
  | d :: ds, e :: es, 0, h, _, h2, f, hf => by
    obtain ⟨d', hd, hk⟩ := h2
    simp at hd; subst hd
    simp only [MEnc] at h
    simp only [mput, hk, if_true, List.modify_zero_cons, MEnc]
    exact ⟨⟨k, v, rfl, (hf e).1, (hf e).2⟩, h.2⟩
  | d :: ds, e :: es, j + 1, h, h1, h2, f, hf => by
    have hk : dkey d ≠ k := h1 0 (by omega) d rfl
    simp only [MEnc] at h
    simp only [mput, hk, if_false, List.modify_succ_cons, MEnc]
    exact ⟨h.1, menc_modify h.2 (fun j' hj' d' hd' => h1 (j' + 1) (by omega) d' (by simpa using hd')) (by simpa using h2) f hf⟩
theorem menc_push {k v : Int} : ∀ {ds : List D} {es : List MapEntry}, MEnc ds es → (∀ d ∈ ds, dkey d ≠ k) → ∀ e : MapEntry, e.key = .int .i64 k → e.val = .int .u8 v → MEnc (mput k v ds) (es ++ [e])
  | [], [], _, _, e, h1, h2 => by simp only [mput, List.nil_append, MEnc]; exact ⟨⟨k, v, rfl, h1, h2⟩, trivial⟩
  | [], _ :: _, h, _, _, _, _ => by simp [MEnc] at h
  | _ :: _, [], h, _, _, _, _ => by simp [MEnc] at h
  | d :: ds, e :: es, h, hk, e', h1, h2 => by
    have hk0 : dkey d ≠ k := hk d (by simp)
    simp only [MEnc] at h
    simp only [mput, hk0, if_false, List.cons_append, MEnc]
    exact ⟨h.1, menc_push h.2 (fun x hx => hk x (by simp [hx])) e' h1 h2⟩
theorem menc_erase {k : Int} : ∀ {ds : List D} {es : List MapEntry} {j : Nat}, MEnc ds es → (∀ j' < j, ∀ d', ds[j']? = some d' → dkey d' ≠ k) → (∃ d, ds[j]? = some d ∧ dkey d = k) → MEnc (mdel k ds) (es.eraseIdx j)
  | [], es, j, h, _, h2 => by obtain ⟨d, hd, _⟩ := h2; simp at hd
  | d :: ds, [], j, h, _, _ => by simp [MEnc] at h
  | d :: ds, e :: es, 0, h, _, h2 => by
    obtain ⟨d', hd, hk⟩ := h2
    simp at hd; subst hd
    simp only [MEnc] at h
    simp only [mdel, hk, if_true, List.eraseIdx_cons_zero]
    exact h.2
  | d :: ds, e :: es, j + 1, h, h1, h2 => by
    have hk : dkey d ≠ k := h1 0 (by omega) d rfl
    simp only [MEnc] at h
    simp only [mdel, hk, if_false, List.eraseIdx_cons_succ, MEnc]
    exact ⟨h.1, menc_erase h.2 (fun j' hj' d' hd' => h1 (j' + 1) (by omega) d' (by simpa using hd')) (by simpa using h2)⟩
theorem mdel_none {k : Int} : ∀ {ds : List D}, (∀ d ∈ ds, dkey d ≠ k) → mdel k ds = ds
  | [], _ => rfl
  | d :: ds, h => by
    have hk0 : dkey d ≠ k := h d (by simp)
    simp only [mdel, hk0, if_false]
    rw [mdel_none fun x hx => h x (by simp [hx])]
/-- The map's object is laid anew. -/
theorem map_turn (hI : Inv Ω η B T' ρ m w) {c : Nat} {e e' : E} (hq : mapOf m c = some e) {r : Nat} (hb : ρ[c]? = some (.val (.map (some r)))) {es' : Array MapEntry} {ck : Nat} (hE : MEnc (e'.den η).toL es'.toList) :
    Inv Ω η B T' ρ (m.set c (.map e')) { w with heap := w.heap.setIfInBounds r (.map es' ck) } := by
  have hlt : r < w.heap.size := by
    obtain ⟨r', es, ck', h1, h2, _⟩ := hI.map hq hb
    injection h1 with h1; injection h1 with h1; subst h1
    exact (Array.getElem?_eq_some_iff.1 h2).1
  refine hI.turn (mapOf_get hq) hb (b := r) ?_ ?_ rfl rfl rfl (by simp) ?_
  · intro F hF
    simp only [Chunk.holds] at hF
    obtain ⟨r', es, ck', h1, _, _, h4⟩ := hF
    injection h1 with h1; injection h1 with h1; injection h1 with h1; subst h1
    exact h4
  · intro F hF
    simp only [Chunk.holds]
    exact ⟨r, es', ck, rfl, by simp [hlt], hE, hF⟩
  · intro k hk
    simp [Array.getElem?_setIfInBounds, Ne.symm hk]
theorem keyStays (k : Int) (w : World) : (Instr.keyThatStays (.int .i64 k) (.int .i64 k)).run P w = .ok (.int .i64 k) w := by
  unfold Instr.keyThatStays
  have : Instr.sameBits 10000 (.int .i64 k) (.int .i64 k) = true := by
    show Instr.sameBits (9999 + 1) _ _ = true
    simp [Instr.sameBits]
  rw [if_pos this]; rfl
theorem mapUpdate_rel (hI : Inv Ω η B T' ρ m w) {t : TypeId} (hty : isMapType P t = true) {c : Nat} {e ke ve : E} (hq : mapOf m c = some e) {vm : Value} (hm : Rel η ρ (.hnd c) vm) :
    ∃ w', (Instr.mapUpdate t vm (.int .i64 (ke.den η).toI) (.int .u8 (ve.den η).toI)).run P w = .ok () w' ∧ Inv Ω η B T' ρ (m.set c (.map (mk3 .mput e ke ve))) w' := by
  obtain ⟨kt, vt, M⟩ := mapTy_of hty
  simp only [Rel] at hm
  obtain ⟨r, es, ck, rfl, hh, hE⟩ := hI.map hq hm.1
  have hden : ((mk3 .mput e ke ve).den η).toL = mput (ke.den η).toI (ve.den η).toI (e.den η).toL := by rw [den_mk3]; rfl
  rcases findNow_int (ke.den η).toI 0 hE with ⟨j, d, en, g1, g2, g3, g4, g5, g6⟩ | ⟨g1, g2, g3⟩
  · have hk1 := MapKept.run_findKey (P := P) (w := w) M.ky g6
    have hkey : en.key = .int .i64 (ke.den η).toI := by
      have : ∀ {ds : List D} {es : List MapEntry} {j : Nat}, MEnc ds es → ds[j]? = some d → es[j]? = some en → MapRow d en := by
        intro ds
        induction ds with
        | nil => intro es j _ h; simp at h
        | cons x ds ih =>
          intro es j hM h1 h2
          cases es with
          | nil => simp at h2
          | cons y es =>
            simp only [MEnc] at hM
            cases j with
            | zero => simp at h1 h2; subst h1 h2; exact hM.1
            | succ j => exact ih hM.2 (by simpa using h1) (by simpa using h2)
      have := mapRow_key (this hE g1 g2)
      rw [this.1, g3]
    have hold : ((es[0 + j]?).map (·.key)).getD (.int .i64 (ke.den η).toI) = .int .i64 (ke.den η).toI := by
      rw [Nat.zero_add]
      have : es[j]? = some en := by rw [← Array.getElem?_toList]; exact g2
      rw [this]; simp [hkey]
    refine ⟨_, ?_, map_turn hI hq hm.1 (es' := es.modify (0 + j) fun e => { e with key := .int .i64 (ke.den η).toI, val := .int .u8 (ve.den η).toI }) (ck := ck) ?_⟩
    · simp only [Instr.mapUpdate, Sem.run_bind, run_underlying M.mp, Result.andThen_ok, MapKept.run_getObj_map hh, checkKey_int M.ky, hk1, hold, keyStays]
      rw [MapKept.run_setObj_map _ hh]
    · rw [hden, Array.toList_modify, Nat.zero_add]
      exact menc_modify hE g4 ⟨d, g1, g3⟩ _ (fun e => ⟨rfl, rfl⟩)
  · have hk1 := MapKept.run_findKey (P := P) (w := w) M.ky g3
    refine ⟨_, ?_, map_turn hI hq hm.1 (es' := es.push { key := .int .i64 (ke.den η).toI, val := .int .u8 (ve.den η).toI, born := ck }) (ck := ck + 1) ?_⟩
    · simp only [Instr.mapUpdate, Sem.run_bind, run_underlying M.mp, Result.andThen_ok, MapKept.run_getObj_map hh, checkKey_int M.ky, hk1]
      rw [MapKept.run_setObj_map _ hh]
    · rw [hden, Array.toList_push]
      exact menc_push hE g1 _ rfl rfl
theorem delete_rel (hI : Inv Ω η B T' ρ m w) {t t2 ty : TypeId} (hty : isMapType P t = true) {c : Nat} {e ke : E} (hq : mapOf m c = some e) {vm : Value} (hm : Rel η ρ (.hnd c) vm) (ats : Array TypeId) (hats : ats[0]? = some t) :
    ∃ w', (Builtin.delete_ ats ty #[vm, .int .i64 (ke.den η).toI]).run P w = .ok (.tuple #[]) w' ∧ Inv Ω η B T' ρ (m.set c (.map (mk2 .mdel e ke))) w' := by
  obtain ⟨kt, vt, M⟩ := mapTy_of hty
  simp only [Rel] at hm
  obtain ⟨r, es, ck, rfl, hh, hE⟩ := hI.map hq hm.1
  have hden : ((mk2 .mdel e ke).den η).toL = mdel (ke.den η).toI (e.den η).toL := by rw [den_mk2]; rfl
  rcases findNow_int (ke.den η).toI 0 hE with ⟨j, d, en, g1, g2, g3, g4, g5, g6⟩ | ⟨g1, g2, g3⟩
  · have hk1 := MapKept.run_findKey (P := P) (w := w) M.ky g6
    refine ⟨_, ?_, map_turn hI hq hm.1 (es' := es.eraseIdxIfInBounds (0 + j)) (ck := ck) ?_⟩
    · simp [Builtin.delete_, hats, run_underlying M.mp, MapKept.run_getObj_map hh, checkKey_int M.ky, hk1, MapKept.run_setObj_map _ hh]
    · rw [hden, Nat.zero_add, Array.toList_eraseIdxIfInBounds]
      exact menc_erase hE g4 ⟨d, g1, g3⟩
  · have hk1 := MapKept.run_findKey (P := P) (w := w) M.ky g3
    refine ⟨_, ?_, map_turn hI hq hm.1 (es' := es) (ck := ck) ?_⟩
    · simp [Builtin.delete_, hats, run_underlying M.mp, MapKept.run_getObj_map hh, checkKey_int M.ky, hk1, MapKept.run_setObj_map _ hh]
    · rw [hden, mdel_none g1]; exact hE
end
end Go.Sy
