/- The symbolic executor, eighth part: pure operations, put together. Own work of this session. -/
import Derived.Test.YtbbippgnmllcoaaSyG
set_option linter.unusedVariables false
set_option linter.unusedSimpArgs false
namespace Go.Sy
section
variable {P : Program} {η : Env} {ρ : List Hd}

theorem toB_ite {c a b : E} (h : ((mkIteB c a b).den η).toB = true) : (if (c.den η).toB then (a.den η).toB else (b.den η).toB) = true := by
  rw [den_mkIteB] at h
  exact h
theorem strExtract (l : List UInt8) (a b : Nat) : (⟨⟨l⟩⟩ : ByteArray).extract a b = ⟨⟨(l.drop a).take (b - a)⟩⟩ := by
  apply ByteArray.ext
  rw [ByteArray.data_extract]
  apply Array.ext'
  rw [Array.toList_extract]
theorem strSize (l : List UInt8) : (⟨⟨l⟩⟩ : ByteArray).size = l.length := rfl

theorem loOf {lo : Option SV} {a : E} (h : (match lo with | some (.int _ a) => some a | none => some (eInt 0) | _ => none) = some a) {vlo : Option Value}
    (r : ∀ x, lo = some x → ∃ v, vlo = some v ∧ Rel η ρ x v) (rn : lo = none → vlo = none) :
    (∃ k, vlo = some (.int k (a.den η).toI)) ∨ (vlo = none ∧ (a.den η).toI = 0) := by
  split at h
  · rename_i k a'
    simp only [Option.some.injEq] at h; subst h
    obtain ⟨v, h1, h2⟩ := r _ rfl
    simp only [Rel] at h2; subst h2
    exact .inl ⟨k, h1⟩
  · simp only [Option.some.injEq] at h; subst h
    exact .inr ⟨rn rfl, rfl⟩
  · cases h
theorem hiOf {hi : Option SV} {s b : E} (h : (match hi with | some (.int _ b) => some b | none => some (mk1 .len s) | _ => none) = some b) {vhi : Option Value}
    (r : ∀ x, hi = some x → ∃ v, vhi = some v ∧ Rel η ρ x v) (rn : hi = none → vhi = none) :
    (∃ k, vhi = some (.int k (b.den η).toI)) ∨ (vhi = none ∧ (b.den η).toI = (s.den η).toS.length) := by
  split at h
  · rename_i k a'
    simp only [Option.some.injEq] at h; subst h
    obtain ⟨v, h1, h2⟩ := r _ rfl
    simp only [Rel] at h2; subst h2
    exact .inl ⟨k, h1⟩
  · simp only [Option.some.injEq] at h; subst h
    exact .inr ⟨rn rfl, by rw [den_mk1]; rfl⟩
  · cases h

theorem strSub_rel {t : TypeId} {x : SV} {lo hi : Option SV} {e : E} {v : SV} (ht : P.underlying t = some .string) (h : strSub x lo hi = some (e, v)) (he : (e.den η).toB = true)
    {vx : Value} (hx : Rel η ρ x vx) {vlo vhi : Option Value} (rlo : ∀ x, lo = some x → ∃ v, vlo = some v ∧ Rel η ρ x v) (rlon : lo = none → vlo = none)
    (rhi : ∀ x, hi = some x → ∃ v, vhi = some v ∧ Rel η ρ x v) (rhin : hi = none → vhi = none) :
    ∃ u, Rel η ρ v u ∧ ∀ w, (Instr.sliceAt t vx vlo vhi none).run P w = .ok u w := by
  unfold strSub at h
  split at h
  · rename_i s
    split at h
    · rename_i a b ha hb
      simp only [Option.some.injEq, Prod.mk.injEq] at h
      obtain ⟨rfl, rfl⟩ := h
      simp only [Rel] at hx; subst hx
      have h1 := toB_ite he
      rw [den_mk2] at h1
      have hb0 : 0 ≤ (b.den η).toI := by
        simp only [O2.den, toB_b, eInt, E.den, toI_i] at h1
        by_cases h0 : (b.den η).toI ≥ 0
        · exact h0
        · simp [h0, eFalse, E.den, toB_b] at h1
      rw [if_pos (by simpa [O2.den, toB_b, eInt, E.den, toI_i] using hb0)] at h1
      have h2 := toB_ite h1
      rw [den_mk2, den_mk1] at h2
      have hbl : (b.den η).toI ≤ (s.den η).toS.length := by
        simp only [O2.den, O1.den, toB_b, toI_i] at h2
        by_cases h0 : (b.den η).toI ≤ (s.den η).toS.length
        · exact h0
        · simp [h0, eFalse, E.den, toB_b] at h2
      rw [if_pos (by simp only [O2.den, O1.den, toB_b, toI_i]; exact decide_eq_true hbl)] at h2
      have h3 := toB_ite h2
      rw [den_mk2] at h3
      have ha0 : 0 ≤ (a.den η).toI := by
        simp only [O2.den, toB_b, eInt, E.den, toI_i] at h3
        by_cases h0 : (a.den η).toI ≥ 0
        · exact h0
        · simp [h0, eFalse, E.den, toB_b] at h3
      rw [if_pos (by simpa [O2.den, toB_b, eInt, E.den, toI_i] using ha0), den_mk2] at h3
      have hab : (a.den η).toI ≤ (b.den η).toI := by simpa [O2.den, toB_b] using h3
      refine ⟨.string ⟨⟨((s.den η).toS.drop (a.den η).toI.toNat).take ((b.den η).toI.toNat - (a.den η).toI.toNat)⟩⟩, by simp only [Rel, den_mk3, O3.den, toS_s], fun w => ?_⟩
      have hs : ∀ w, (Instr.sliceBounds false (s.den η).toS.length (s.den η).toS.length vlo vhi none).run P w = .ok ((a.den η).toI.toNat, (b.den η).toI.toNat, (s.den η).toS.length) w := by
        intro w
        rcases loOf (η := η) (ρ := ρ) ha rlo rlon with ⟨k, e1⟩ | ⟨e1, e1'⟩ <;> rcases hiOf (η := η) (ρ := ρ) hb rhi rhin with ⟨k', e2⟩ | ⟨e2, e2'⟩ <;> subst e1 <;> subst e2
        · simp [Instr.sliceBounds, Instr.sliceBound, asIntOf, hb0, hbl, ha0, Int.toNat_of_nonneg hb0, hab]
        · have : (a.den η).toI ≤ ((s.den η).toS.length : Int) := by omega
          simp [Instr.sliceBounds, Instr.sliceBound, asIntOf, ha0, e2', this]
        · simp [Instr.sliceBounds, Instr.sliceBound, asIntOf, hb0, hbl, e1']
        · simp [Instr.sliceBounds, e1', e2']
      simp only [Instr.sliceAt, Sem.run_bind, run_underlying ht, Result.andThen_ok, Instr.slice, Option.isSome_none, Bool.false_eq_true, if_false, Sem.run_pure, strSize, hs, strExtract]
    · cases h
  · cases h

theorem encA_cut {R : Nat → Option (List Value)} {t : ET} {ds : List D} {cs : List Value} {o : Nat} (h : EncA R t ds (cs.drop o)) (a n : Nat) : EncA R t ((ds.drop a).take n) (cs.drop (o + a * t.width)) := by
  intro i d hd
  rw [List.getElem?_take] at hd
  split at hd
  · rw [List.getElem?_drop] at hd
    have := h (a + i) d hd
    rw [List.drop_drop] at this ⊢
    rw [show o + (a + i) * t.width = o + a * t.width + i * t.width by rw [Nat.add_mul]; omega] at this
    exact this
  · cases hd
theorem mapAdd (a : Option Addr) (n : Nat) : a.map (fun x => x.add n) = a.map (·.add n) := rfl
theorem cut_rel {t elem : TypeId} {inf : TypeInfo} {x v : SV} {lo hi mx : Option SV} {g : E} (ht : P.underlying t = some (.slice elem)) (hi' : P.info? elem = some inf)
    (hx : match x with | .asl _ _ k _ _ => inf.size = k | .rsl t' _ => inf.size = t'.width | _ => True) (h : cutSV x lo hi mx = some (g, v)) (hg : (g.den η).toB = true)
    {vx : Value} (rx : Rel η ρ x vx) {vlo vhi vmx : Option Value} (rlo : ∀ x, lo = some x → ∃ v, vlo = some v ∧ Rel η ρ x v) (rlon : lo = none → vlo = none)
    (rhi : ∀ x, hi = some x → ∃ v, vhi = some v ∧ Rel η ρ x v) (rhin : hi = none → vhi = none) (rmx : ∀ x, mx = some x → ∃ v, vmx = some v ∧ Rel η ρ x v) (rmxn : mx = none → vmx = none) :
    ∃ u, Rel η ρ v u ∧ ∀ w, (Instr.sliceAt t vx vlo vhi vmx).run P w = .ok u w := by
  have run : ∀ {base : Option Addr} {l cap la lb m : Nat}, (∀ w, (Instr.sliceBounds true l cap vlo vhi vmx).run P w = .ok (la, lb, m) w) →
      ∀ w, (Instr.sliceAt t (.slice base l cap) vlo vhi vmx).run P w = .ok (.slice (if m = la then base else base.map (·.add (la * inf.size))) (lb - la) (m - la)) w := by
    intro base l cap la lb m hb w
    simp only [Instr.sliceAt, Sem.run_bind, run_underlying ht, Result.andThen_ok, Instr.slice, hb, run_sizeOf hi', Sem.run_pure]
  unfold cutSV at h
  split at h
  · rename_i nn c k off len
    split at h
    · cases h
    · rename_i hmx
      have hmx' : mx.isSome = true → hi.isSome = true := by
        intro h1
        cases hi with
        | none => simp [h1] at hmx
        | some y => rfl
      split at h
      · rename_i g' a b hc
        simp only [Option.some.injEq, Prod.mk.injEq] at h
        obtain ⟨rfl, rfl⟩ := h
        simp only at hx
        simp only [Rel] at rx
        split at rx
        · rename_i hn
          obtain ⟨bl, o, n, off', l, cap, h1, rfl, h3, h4, h5, h6⟩ := rx
          obtain ⟨la, lb, m, e1, e2, e3, e4, e5, e6, e7⟩ := cutB_run hc hg h3 h4 hmx' rlo rlon rhi rhin rmx rmxn
          refine ⟨_, ?_, fun w => run e7 w⟩
          simp only [Rel, hn, if_true]
          by_cases hml : m = la
          · rw [if_pos hml]
            exact ⟨bl, o, n, off', lb - la, m - la, h1, rfl, by rw [den_mkSub, e1, e2]; omega, by omega, by omega, .inl (by omega)⟩
          · rw [if_neg hml]
            refine ⟨bl, o, n, off' + la, lb - la, m - la, h1, ?_, by rw [den_mkSub, e1, e2]; omega, by omega, by omega, ?_⟩
            · simp [add_mk, hx, Nat.add_mul, Nat.add_assoc]
            · rw [den_mkAdd, e1]
              rcases h6 with h6 | h6
              · left; omega
              · right; rw [h6]; omega
        · rename_i hn
          obtain ⟨rfl, h3⟩ := rx
          obtain ⟨la, lb, m, e1, e2, e3, e4, e5, e6, e7⟩ := cutB_run hc hg (l := 0) (cap := 0) (by simpa using h3) (Nat.le_refl _) hmx' rlo rlon rhi rhin rmx rmxn
          refine ⟨_, ?_, fun w => run e7 w⟩
          have : la = 0 ∧ lb = 0 ∧ m = 0 := by omega
          obtain ⟨rfl, rfl, rfl⟩ := this
          simp only [Rel, hn, if_false, Bool.false_eq_true]
          exact ⟨by simp, by rw [den_mkSub, e1, e2]; rfl⟩
      · cases h
  · rename_i t' e
    split at h
    · cases h
    · rename_i hmx
      have hmx' : mx.isSome = true → hi.isSome = true := by
        intro h1
        cases hi with
        | none => simp [h1] at hmx
        | some y => rfl
      split at h
      · rename_i g' a b hc
        simp only [Option.some.injEq, Prod.mk.injEq] at h
        obtain ⟨rfl, rfl⟩ := h
        simp only at hx
        simp only [Rel] at rx
        rcases rx with ⟨rfl, h0⟩ | ⟨a0, rfl, h0⟩ | ⟨bl, o, cap, rfl, h1, h2⟩
        rotate_left
        · obtain ⟨la, lb, m, e1, e2, e3, e4, e5, e6, e7⟩ := cutB_run hc hg (l := 0) (cap := 0) (by rw [den_lenL, h0]; rfl) (Nat.le_refl _) hmx' rlo rlon rhi rhin rmx rmxn
          refine ⟨_, ?_, fun w => run e7 w⟩
          have : la = 0 ∧ lb = 0 ∧ m = 0 := by omega
          obtain ⟨rfl, rfl, rfl⟩ := this
          simp only [Rel, den_mkSubL, h0]
          exact .inr (.inl ⟨a0, by simp, by simp⟩)
        rotate_left
        · obtain ⟨la, lb, m, e1, e2, e3, e4, e5, e6, e7⟩ := cutB_run hc hg (l := 0) (cap := 0) (by rw [den_lenL, h0]; rfl) (Nat.le_refl _) hmx' rlo rlon rhi rhin rmx rmxn
          refine ⟨_, ?_, fun w => run e7 w⟩
          have : la = 0 ∧ lb = 0 ∧ m = 0 := by omega
          obtain ⟨rfl, rfl, rfl⟩ := this
          simp only [Rel, den_mkSubL, h0]
          exact .inl ⟨by simp, by simp⟩
        · obtain ⟨la, lb, m, e1, e2, e3, e4, e5, e6, e7⟩ := cutB_run hc hg (den_lenL e) h1 hmx' rlo rlon rhi rhin rmx rmxn
          refine ⟨_, ?_, fun w => run e7 w⟩
          simp only [Rel, den_mkSubL, e1, e2, Int.toNat_natCast]
          have hlen : (((e.den η).toL.drop la).take (lb - la)).length = lb - la := by simp; omega
          by_cases hml : m = la
          · rw [if_pos hml]
            refine .inr (.inr ⟨bl, o, m - la, by rw [hlen], by rw [hlen]; omega, fun hne => ?_⟩)
            exfalso; apply hne; apply List.eq_nil_of_length_eq_zero; rw [hlen]; omega
          · rw [if_neg hml]
            refine .inr (.inr ⟨bl, o + la * t'.width, m - la, by rw [hlen]; simp [add_mk, hx], by rw [hlen]; omega, fun hne => ?_⟩)
            have hne' : (e.den η).toL ≠ [] := by intro h0; apply hne; rw [h0]; simp
            obtain ⟨cs, h3, h4⟩ := h2 hne'
            exact ⟨cs, h3, encA_cut h4 la (lb - la)⟩
      · cases h
  · cases h

theorem pairs_rel {s : St} {a : Act} (hf : Rels η ρ s.fr a.tmps.toList) (ps : Array (Nat × Operand)) :
    ((ps.map fun (i, x) => (i, a.eval x)).toList.map (·.1)) = (pairs s ps).map (·.1) ∧ Rels η ρ ((pairs s ps).map (·.2)) ((ps.map fun (i, x) => (i, a.eval x)).toList.map (·.2)) := by
  constructor
  · simp [pairs]
  · simp only [pairs, Array.toList_map, List.map_map]
    exact Rels.map _ fun p _ => opd_rel hf p.2
theorem args_rel {s : St} {a : Act} (hf : Rels η ρ s.fr a.tmps.toList) (xs : Array Operand) : Rels η ρ (xs.toList.map (opd s)) (xs.toList.map a.eval) :=
  Rels.map _ fun x _ => opd_rel hf x
theorem strByte {l : List UInt8} {i : Int} (h0 : 0 ≤ i) (h1 : i < l.length) (t : TypeId) (ht : P.underlying t = some .string) (k : IntKind) (w : World) :
    (Instr.index t (.string ⟨⟨l⟩⟩) (.int k i)).run P w = .ok (.int .u8 ((l.getD i.toNat 0).toNat : Int)) w := by
  have hlt : i.toNat < l.length := by omega
  have hg : (⟨⟨l⟩⟩ : ByteArray)[i.toNat]? = some (l.getD i.toNat 0) := by
    rw [getElem?_pos (⟨⟨l⟩⟩ : ByteArray) i.toNat (by exact hlt)]
    simp [List.getD_eq_getElem?_getD, hlt]
    rfl
  simp [Instr.index, asIntOf, run_underlying ht, h0, hg]

/-- ALL PURE OPERATIONS. -/
theorem evPure_rel {s : St} {a : Act} (hf : Rels η ρ s.fr a.tmps.toList) {o : Oper} {e : E} {v : SV} (h : evPure P s o.op = some (e, v)) (he : (e.den η).toB = true) :
    ∃ u, Rel η ρ v u ∧ ∀ w, (execOp a.eval o).run P w = .ok (.value u) w := by
  obtain ⟨dst, op, type, pos, after, guard⟩ := o
  dsimp only at h
  have one : ∀ {x : Operand}, Rel η ρ (opd s x) (a.eval x) := fun {x} => opd_rel hf x
  cases op <;> try (simp only [evPure, reduceCtorEq] at h; done)
  case move x => simp only [evPure, Option.some.injEq, Prod.mk.injEq] at h; obtain ⟨rfl, rfl⟩ := h; exact ⟨_, one, fun w => rfl⟩
  case assign x => simp only [evPure, Option.some.injEq, Prod.mk.injEq] at h; obtain ⟨rfl, rfl⟩ := h; exact ⟨_, one, fun w => rfl⟩
  case pick c x y =>
    simp only [evPure] at h
    have hc := @one c
    split at h
    · rename_i hb
      simp only [Option.some.injEq, Prod.mk.injEq] at h; obtain ⟨rfl, rfl⟩ := h
      rw [hb] at hc; simp only [Rel, E.den, toB_b] at hc
      exact ⟨_, one, fun w => by simp only [execOp, hc]; simp [asBool]⟩
    · rename_i hb
      simp only [Option.some.injEq, Prod.mk.injEq] at h; obtain ⟨rfl, rfl⟩ := h
      rw [hb] at hc; simp only [Rel, E.den, toB_b] at hc
      exact ⟨_, one, fun w => by simp only [execOp, hc]; simp [asBool]⟩
    · rename_i b _ _ hb
      simp only [Option.some.injEq, Prod.mk.injEq] at h; obtain ⟨rfl, rfl⟩ := h
      rw [hb] at hc; simp only [Rel] at hc
      refine ⟨if (b.den η).toB then a.eval x else a.eval y, Rel.merge _ _ _ ?_, fun w => by simp only [execOp, hc]; simp [asBool]⟩
      split
      · exact one
      · exact one
    · cases h
  case build t parts =>
    simp only [evPure, Option.map_eq_some_iff] at h
    obtain ⟨v', hv, h⟩ := h
    simp only [Prod.mk.injEq] at h; obtain ⟨rfl, rfl⟩ := h
    obtain ⟨h1, h2⟩ := pairs_rel hf parts
    obtain ⟨u, g1, g2⟩ := build_rel h1 h2 hv
    exact ⟨u, g1, fun w => by simp only [execOp, exec_v]; have := g2 w; rw [show (⟨(parts.map fun (i, x) => (i, a.eval x)).toList⟩ : Array (Nat × Value)) = parts.map fun (i, x) => (i, a.eval x) from rfl] at this; rw [this]; rfl⟩
  case nilCheck x =>
    simp only [evPure] at h
    have hx := @one x
    split at h
    · rename_i c o hb
      simp only [Option.some.injEq, Prod.mk.injEq] at h; obtain ⟨rfl, rfl⟩ := h
      rw [hb] at hx; have hx' := hx; simp only [Rel] at hx'
      obtain ⟨b, _, hv⟩ := hx'
      exact ⟨_, hx, fun w => by simp only [execOp, hv]; rfl⟩
    · rename_i c k i j hb
      simp only [Option.some.injEq, Prod.mk.injEq] at h; obtain ⟨rfl, rfl⟩ := h
      rw [hb] at hx; have hx' := hx; simp only [Rel] at hx'
      obtain ⟨b, o, n, q, _, _, hv⟩ := hx'
      exact ⟨_, hx, fun w => by simp only [execOp, hv]; rfl⟩
    · rename_i t' e i j hb
      simp only [Option.some.injEq, Prod.mk.injEq] at h; obtain ⟨rfl, rfl⟩ := h
      rw [hb] at hx; have hx' := hx; simp only [Rel] at hx'
      obtain ⟨b, o, q, cs, hv, _⟩ := hx'
      exact ⟨_, hx, fun w => by simp only [execOp, hv]; rfl⟩
    · cases h
  case binOp op t x y yt =>
    simp only [evPure] at h
    obtain ⟨u, h1, h2⟩ := bin_rel (ox := x) (oy := y) h he (@one x) (@one y)
    exact ⟨u, h1, fun w => by simp only [execOp, exec_v]; rw [h2]; rfl⟩
  case unOp op t x =>
    simp only [evPure, Option.map_eq_some_iff] at h
    obtain ⟨v', hv, h⟩ := h
    simp only [Prod.mk.injEq] at h; obtain ⟨rfl, rfl⟩ := h
    obtain ⟨u, h1, h2⟩ := un_rel (P := P) hv (@one x)
    exact ⟨u, h1, fun w => by simp only [execOp, exec_v]; rw [h2]; rfl⟩
  case convert src dst x =>
    simp only [evPure, Option.map_eq_some_iff] at h
    obtain ⟨v', hv, h⟩ := h
    simp only [Prod.mk.injEq] at h; obtain ⟨rfl, rfl⟩ := h
    obtain ⟨u, h1, h2⟩ := conv_rel hv (@one x)
    exact ⟨u, h1, fun w => by simp only [execOp, exec_v]; rw [h2]; rfl⟩
  case fieldAddr t x f =>
    simp only [evPure, Option.map_eq_some_iff] at h
    obtain ⟨v', hv, h⟩ := h
    simp only [Prod.mk.injEq] at h; obtain ⟨rfl, rfl⟩ := h
    obtain ⟨u, h1, h2⟩ := fieldAddr_rel hv (@one x)
    exact ⟨u, h1, fun w => by simp only [execOp, exec_v]; rw [h2]; rfl⟩
  case field t x f =>
    simp only [evPure, Option.map_eq_some_iff] at h
    obtain ⟨v', hv, h⟩ := h
    simp only [Prod.mk.injEq] at h; obtain ⟨rfl, rfl⟩ := h
    obtain ⟨u, h1, h2⟩ := field_rel hv (@one x)
    exact ⟨u, h1, fun w => by simp only [execOp, exec_v]; rw [h2]; rfl⟩
  case indexAddr t x i =>
    simp only [evPure] at h
    split at h
    · rename_i r hr
      simp only [Option.some.injEq] at h; subst h
      obtain ⟨u, h1, h2⟩ := elemAddr_rel hr he (@one x) (@one i)
      exact ⟨u, h1, fun w => by simp only [execOp, exec_v]; rw [h2]; rfl⟩
    · rw [Option.map_eq_some_iff] at h
      obtain ⟨v', hv, h⟩ := h
      simp only [Prod.mk.injEq] at h; obtain ⟨rfl, rfl⟩ := h
      obtain ⟨u, h1, h2⟩ := indexAddr_rel hv (@one x) (@one i)
      exact ⟨u, h1, fun w => by simp only [execOp, exec_v]; rw [h2]; rfl⟩
  case index t x i =>
    simp only [evPure] at h
    split at h
    · rename_i b k ea ht hx hi
      simp only [Option.some.injEq, Prod.mk.injEq] at h; obtain ⟨rfl, rfl⟩ := h
      have rx := @one x; rw [hx] at rx; simp only [Rel] at rx
      have ri := @one i; rw [hi] at ri; simp only [Rel] at ri
      have h1 := toB_ite he
      rw [den_mk2] at h1
      have h0 : 0 ≤ (ea.den η).toI := by
        simp only [O2.den, toB_b, eInt, E.den, toI_i] at h1
        by_cases h0 : (ea.den η).toI ≥ 0
        · exact h0
        · simp [h0, eFalse, E.den, toB_b] at h1
      rw [if_pos (by simpa [O2.den, toB_b, eInt, E.den, toI_i] using h0), den_mk2, den_mk1] at h1
      have hl : (ea.den η).toI < ((b.den η).toS.length : Int) := by simp only [O2.den, O1.den, toB_b, toI_i] at h1; exact of_decide_eq_true h1
      refine ⟨_, by simp only [Rel]; rfl, fun w => ?_⟩
      simp only [execOp, exec_v, rx, ri, strByte h0 hl t ht]
      simp only [Result.andThen_ok, den_mk2, O2.den, toI_i]
    · rw [Option.map_eq_some_iff] at h
      obtain ⟨v', hv, h⟩ := h
      simp only [Prod.mk.injEq] at h; obtain ⟨rfl, rfl⟩ := h
      obtain ⟨u, h1, h2⟩ := index_rel hv (@one x) (@one i)
      exact ⟨u, h1, fun w => by simp only [execOp, exec_v]; rw [h2]; rfl⟩
  case extract x i =>
    simp only [evPure] at h
    split at h
    · rename_i l hx
      rw [Option.map_eq_some_iff] at h
      obtain ⟨v', hv, h⟩ := h
      simp only [Prod.mk.injEq] at h; obtain ⟨rfl, rfl⟩ := h
      have rx := @one x; rw [hx] at rx; simp only [Rel] at rx
      obtain ⟨vs, hvs, r⟩ := rx
      obtain ⟨u, h1, h2⟩ := r.get hv
      refine ⟨u, h2, fun w => ?_⟩
      simp only [execOp, exec_v, hvs, Instr.extract]
      have : (⟨vs⟩ : Array Value)[i]? = some u := by simpa using h1
      simp [this]
    · cases h
  case makeFunc fn first captured =>
    simp only [evPure] at h
    split at h
    · rename_i f hfst
      simp only [Option.some.injEq, Prod.mk.injEq] at h; obtain ⟨rfl, rfl⟩ := h
      refine ⟨.func (.func f) #[] (captured.map a.eval), ?_, fun w => ?_⟩
      · simp only [Rel]
        exact ⟨(captured.map a.eval).toList, rfl, by rw [Array.toList_map]; exact args_rel hf captured⟩
      · have : first = #[] := toList_inj hfst
        subst this
        simp [execOp, Instr.makeFunc]
    · cases h
  case slice t x lo hi mx =>
    simp only [evPure] at h
    split at h
    · rename_i ht
      obtain ⟨u, h1, h2⟩ := strSub_rel (vlo := lo.map a.eval) (vhi := hi.map a.eval) ht h he (@one x)
        (fun y hy => by cases lo <;> simp at hy; subst hy; exact ⟨_, rfl, one⟩) (fun hn => by cases lo <;> simp at hn; rfl)
        (fun y hy => by cases hi <;> simp at hy; subst hy; exact ⟨_, rfl, one⟩) (fun hn => by cases hi <;> simp at hn; rfl)
      exact ⟨u, h1, fun w => by simp only [execOp, exec_v, Option.map_none]; rw [h2]; rfl⟩
    · rename_i mx _ _ elem ht
      have key : ∀ (inf : TypeInfo) (hi' : P.info? elem = some inf) (hx : match opd s x with | .asl _ _ k _ _ => inf.size = k | .rsl t' _ => inf.size = t'.width | _ => True),
          cutSV (opd s x) (lo.map (opd s)) (hi.map (opd s)) (mx.map (opd s)) = some (e, v) → ∃ u, Rel η ρ v u ∧ ∀ w, (execOp a.eval ⟨dst, .slice t x lo hi mx, type, pos, after, guard⟩).run P w = .ok (.value u) w := by
        intro inf hi' hx h
        obtain ⟨u, h1, h2⟩ := cut_rel (vlo := lo.map a.eval) (vhi := hi.map a.eval) (vmx := mx.map a.eval) ht hi' hx h he (@one x)
          (fun y hy => by cases lo <;> simp at hy; subst hy; exact ⟨_, rfl, one⟩) (fun hn => by cases lo <;> simp at hn; rfl)
          (fun y hy => by cases hi <;> simp at hy; subst hy; exact ⟨_, rfl, one⟩) (fun hn => by cases hi <;> simp at hn; rfl)
          (fun y hy => by cases mx <;> simp at hy; subst hy; exact ⟨_, rfl, one⟩) (fun hn => by cases mx <;> simp at hn; rfl)
        exact ⟨u, h1, fun w => by simp only [execOp, exec_v]; rw [h2]; rfl⟩
      split at h
      · rename_i nn c k off len inf hx hinf
        split at h
        · rename_i hw
          exact key inf hinf (by rw [hx]; exact Nat.eq_of_beq_eq_true hw) (by rw [hx]; exact h)
        · cases h
      · rename_i t' q inf hx hinf
        split at h
        · rename_i hw
          exact key inf hinf (by rw [hx]; exact Nat.eq_of_beq_eq_true hw) (by rw [hx]; exact h)
        · cases h
      · cases h
    · cases h
  case call c =>
    obtain ⟨callee, args, ats⟩ := c
    cases callee with
    | value f => simp only [evPure, reduceCtorEq] at h
    | invoke r m => simp only [evPure, reduceCtorEq] at h
    | builtin b =>
      have ra := args_rel hf args
      cases b <;> try (simp only [evPure, reduceCtorEq] at h; done)
      case max =>
        simp only [evPure] at h
        split at h
        · rename_i x r hl
          rw [Option.map_eq_some_iff] at h
          obtain ⟨v', hv, h⟩ := h
          simp only [Prod.mk.injEq] at h; obtain ⟨rfl, rfl⟩ := h
          rw [hl] at ra
          simp only [Rels] at ra
          obtain ⟨b, t, hb, r1, r2⟩ := ra
          obtain ⟨u, h1, h2⟩ := foldMax_rel (P := P) hv r1 r2
          refine ⟨u, h1, fun w => ?_⟩
          simp only [execOp, resolve, Sem.run_bind, Sem.run_pure, Result.andThen_ok, invoke, builtin, Builtin.max_, Array.toList_map, hb, h2]
        · cases h
      case min =>
        simp only [evPure] at h
        split at h
        · rename_i x r hl
          rw [Option.map_eq_some_iff] at h
          obtain ⟨v', hv, h⟩ := h
          simp only [Prod.mk.injEq] at h; obtain ⟨rfl, rfl⟩ := h
          rw [hl] at ra
          simp only [Rels] at ra
          obtain ⟨b, t, hb, r1, r2⟩ := ra
          obtain ⟨u, h1, h2⟩ := foldMin_rel (P := P) hv r1 r2
          refine ⟨u, h1, fun w => ?_⟩
          simp only [execOp, resolve, Sem.run_bind, Sem.run_pure, Result.andThen_ok, invoke, builtin, Builtin.min_, Array.toList_map, hb, h2]
        · cases h
      case len =>
        simp only [evPure] at h
        split at h
        · rename_i x t hl ht
          rw [Option.map_eq_some_iff] at h
          obtain ⟨v', hv, h⟩ := h
          simp only [Prod.mk.injEq] at h; obtain ⟨rfl, rfl⟩ := h
          rw [hl] at ra
          simp only [Rels] at ra
          obtain ⟨b, t', hb, r1, r2⟩ := ra
          subst r2
          obtain ⟨u, h1, h2⟩ := len_rel (P := P) (ty := type) hv r1 ats ht
          refine ⟨u, h1, fun w => ?_⟩
          have he : args.map a.eval = #[b] := by apply Array.ext'; rw [Array.toList_map, hb]
          simp only [execOp, resolve, Sem.run_bind, Sem.run_pure, Result.andThen_ok, invoke, builtin, he, h2]
        · cases h
end
end Go.Sy
