/- The symbolic executor, sixth part: arithmetic, comparisons, places; all pure operations. Own work of this session. -/
import Derived.Test.YtbbippgnmllcoaaSyE
set_option linter.unusedVariables false
set_option linter.unusedSimpArgs false
namespace Go.Sy
section
variable {P : Program} {η : Env} {ρ : List Hd}

theorem run_eqGuard_cmp (op : BinOp) (t : TypeId) (x y : Operand) (a b : Value) (h : (op == .eql || op == .neq) = false) (w : World) : (eqGuard op t x y a b).run P w = .ok () w := by
  cases op <;> simp_all [eqGuard]
theorem run_eqGuard_int (op : BinOp) (t : TypeId) (x y : Operand) (k : IntKind) (a : Int) (v : Value) (w : World) : (eqGuard op t x y (.int k a) v).run P w = .ok () w := by
  cases op <;> simp [eqGuard]
theorem run_eqGuard_str (op : BinOp) (t : TypeId) (x y : Operand) (a : ByteArray) (v : Value) (w : World) : (eqGuard op t x y (.string a) v).run P w = .ok () w := by
  cases op <;> simp [eqGuard]
theorem run_eqGuard_bool (op : BinOp) (t : TypeId) (x y : Operand) (a : Bool) (v : Value) (w : World) : (eqGuard op t x y (.bool a) v).run P w = .ok () w := by
  cases op <;> simp [eqGuard]
theorem run_eqGuard_ptr (op : BinOp) (t : TypeId) (x y : Operand) (a : Option Addr) (v : Value) (w : World) : (eqGuard op t x y (.pointer a) v).run P w = .ok () w := by
  cases op <;> simp [eqGuard]
theorem run_eqGuard_slice (op : BinOp) (t : TypeId) (x y : Operand) (a : Option Addr) (n c : Nat) (v : Value) (w : World) : (eqGuard op t x y (.slice a n c) v).run P w = .ok () w := by
  cases op <;> simp [eqGuard]
theorem run_eqGuard_aggs (op : BinOp) (t : TypeId) (x y : Operand) (xs ys : Array Value) (hm : P.eqGuardType P.depth t = false) (w : World) : (eqGuard op t x y (.agg xs) (.agg ys)).run P w = .ok () w := by
  cases op <;> simp [eqGuard, run_program, hm]

theorem binInt_run {op : BinOp} {k : IntKind} {a b : E} {e : E} {v : SV} (h : binInt op k a b = some (e, v)) (he : (e.den η).toB = true) (t : TypeId) :
    ∃ u, Rel η ρ v u ∧ ∀ w, (binOp op t (.int k (a.den η).toI) (.int k (b.den η).toI)).run P w = .ok u w := by
  cases op <;> simp only [binInt, Option.some.injEq, Prod.mk.injEq, reduceCtorEq] at h
  case quo =>
    obtain ⟨rfl, rfl⟩ := h
    rw [den_mk2] at he
    simp only [O2.den, toB_b, bne_iff_ne, ne_eq] at he
    have h0 : (b.den η).toI ≠ 0 := by intro h; apply he; rw [h]; rfl
    refine ⟨_, by simp only [Rel]; rfl, fun w => ?_⟩
    simp [binOp, Op.intDiv, h0, den_mk2, O2.den, toI_i]
  case rem =>
    obtain ⟨rfl, rfl⟩ := h
    rw [den_mk2] at he
    simp only [O2.den, toB_b, bne_iff_ne, ne_eq] at he
    have h0 : (b.den η).toI ≠ 0 := by intro h; apply he; rw [h]; rfl
    refine ⟨_, by simp only [Rel]; rfl, fun w => ?_⟩
    simp [binOp, Op.intDiv, h0, den_mk2, O2.den, toI_i]
  all_goals
    obtain ⟨rfl, rfl⟩ := h
    refine ⟨_, by simp only [Rel]; rfl, fun w => ?_⟩
    simp [binOp, Op.intArith, Op.intBits, Op.intCmp, den_mk2, O2.den, toI_i, toB_b, bits]

theorem eqb_str (a b : List UInt8) : ((⟨⟨a⟩⟩ : ByteArray) == ⟨⟨b⟩⟩) = (a == b) := by
  rw [beq_toListBytes, ByteArray.toList_eq, ByteArray.toList_eq]
theorem str_toList (a : List UInt8) : (⟨⟨a⟩⟩ : ByteArray).toList = a := by rw [ByteArray.toList_eq]
theorem nilPtr_rel {x : SV} {b : Bool} (h : nilPtr x = some b) {v : Value} (r : Rel η ρ x v) : ∃ a, v = .pointer a ∧ a.isNone = b := by
  unfold nilPtr at h
  split at h
  · simp only [Option.some.injEq] at h; subst h; simp only [Rel] at r; subst r; exact ⟨_, rfl, rfl⟩
  · simp only [Option.some.injEq] at h; subst h; simp only [Rel] at r; obtain ⟨b', _, rfl⟩ := r; exact ⟨_, rfl, rfl⟩
  · cases h
theorem nilSl_rel {x : SV} {e : E} (h : nilSl x = some e) {v : Value} (r : Rel η ρ x v) : ∃ a n c, v = .slice a n c ∧ a.isNone = (e.den η).toB := by
  unfold nilSl at h
  split at h
  · simp only [Option.some.injEq] at h; subst h; simp only [Rel] at r; subst r; exact ⟨_, _, _, rfl, rfl⟩
  · simp only [Option.some.injEq] at h; subst h; simp only [Rel] at r; obtain ⟨b', _, rfl⟩ := r; exact ⟨_, _, _, rfl, rfl⟩
  · simp only [Option.some.injEq] at h; subst h
    simp only [Rel] at r
    rw [den_mk1]
    split at r
    · rename_i hn
      obtain ⟨b, o, n, off', l, cap, _, rfl, _⟩ := r
      exact ⟨_, _, _, rfl, by simp [O1.den, toB_b, hn]⟩
    · rename_i hn
      obtain ⟨rfl, _⟩ := r
      exact ⟨_, _, _, rfl, by simp [O1.den, toB_b, hn]⟩
  · cases h

theorem fieldsOf_eq {t : TypeId} {fs : Array Field} (h : P.underlying t = some (.struct fs)) : P.fieldsOf t = fs := by simp [Program.fieldsOf, h]
mutual
theorem eqSV_run : ∀ (d : Nat) (t : TypeId) (x y : SV) (e : E), eqSV P d t x y = some e → ∀ (n : Nat), d ≤ n → ∀ {u v : Value}, Rel η ρ x u → Rel η ρ y v →
    ∀ w, (Op.equalIn n t u v).run P w = .ok (e.den η).toB w
  | 0, _, _, _, _, h, _, _, _, _, _, _, _ => by simp [eqSV] at h
  | d + 1, t, x, y, e, h, n, hn, u, v, hu, hv, w => by
    obtain ⟨n, rfl⟩ : ∃ m, n = m + 1 := ⟨n - 1, by omega⟩
    simp only [eqSV] at h
    split at h
    · rename_i a b ht
      simp only [Option.some.injEq] at h; subst h
      simp only [Rel] at hu hv; subst hu hv
      rw [run_equalIn_bool' w n t _ _ ht, den_mk2]; simp [O2.den, toB_b]
    · rename_i k' k a k2 b ht
      split at h
      · rename_i hk; subst hk
        simp only [Option.some.injEq] at h; subst h
        simp only [Rel] at hu hv; subst hu hv
        rw [run_equalIn_int w n t _ k' _ _ ht, den_mk2]; simp [O2.den, toB_b]
      · cases h
    · rename_i a b ht
      simp only [Option.some.injEq] at h; subst h
      simp only [Rel] at hu hv; subst hu hv
      rw [run_equalIn_string w n t _ _ ht, den_mk2, str_toList, str_toList]; simp [O2.den, toB_b]
    · rename_i el ht
      rw [Option.map_eq_some_iff] at h
      obtain ⟨b, hb, rfl⟩ := h
      simp only [Rel] at hu; subst hu
      obtain ⟨a, rfl, ha⟩ := nilPtr_rel hb hv
      simp [Op.equalIn, run_underlying ht, E.den, toB_b, ha]
    · rename_i el ht _
      rw [Option.map_eq_some_iff] at h
      obtain ⟨b, hb, rfl⟩ := h
      simp only [Rel] at hv; subst hv
      obtain ⟨a, rfl, ha⟩ := nilPtr_rel hb hu
      cases a <;> simp_all [Op.equalIn, run_underlying ht, E.den, toB_b]
    · rename_i fs xs ys ht
      split at h
      · cases h
      · rename_i hs
        simp only [Rel] at hu hv
        obtain ⟨us, rfl, hu⟩ := hu
        obtain ⟨vs, rfl, hv⟩ := hv
        rw [run_equalIn_struct w n t _ _ (by rw [fieldsOf_eq ht]; exact ht) (by simpa using hs), fieldsOf_eq ht]
        exact eqFieldsSV_run d xs ys fs.toList e h n (by omega) hu hv w
    · rename_i el ht
      simp only [Rel] at hu; subst hu
      obtain ⟨a, m, c, rfl, ha⟩ := nilSl_rel h hv
      simp [Op.equalIn, run_underlying ht, ← ha]
    · rename_i el ht _
      simp only [Rel] at hv; subst hv
      obtain ⟨a, m, c, rfl, ha⟩ := nilSl_rel h hu
      cases a <;> simp_all [Op.equalIn, run_underlying ht]
    · cases h
theorem eqFieldsSV_run : ∀ (d : Nat) (xs ys : List SV) (fs : List Field) (e : E), eqFieldsSV P d xs ys fs = some e → ∀ (n : Nat), d ≤ n → ∀ {us vs : List Value}, Rels η ρ xs us → Rels η ρ ys vs →
    ∀ w, (Op.eqFields n ⟨us⟩ ⟨vs⟩ fs).run P w = .ok (e.den η).toB w
  | d, xs, ys, [], e, h, n, hn, us, vs, hu, hv, w => by
    simp only [eqFieldsSV, Option.some.injEq] at h; subst h
    simp [Op.eqFields, eTrue, E.den, toB_b]
  | 0, _, _, _ :: _, _, h, _, _, _, _, _, _, _ => by simp [eqFieldsSV] at h
  | d + 1, xs, ys, f :: fs, e, h, n, hn, us, vs, hu, hv, w => by
    simp only [eqFieldsSV] at h
    split at h
    · cases h
    · rename_i hname
      split at h
      · rename_i a b ha hb
        split at h
        · rename_i e1 e2 h1 h2
          simp only [Option.some.injEq] at h; subst h
          obtain ⟨u, hu1, hu2⟩ := part_rel hu ha
          obtain ⟨v, hv1, hv2⟩ := part_rel hv hb
          have g1 := eqSV_run d f.type a b e1 h1 n (by omega) hu1 hv1 w
          have g2 := eqFieldsSV_run d xs ys fs e2 h2 n (by omega) hu hv w
          simp only [Op.eqFields, ne_eq, hname, not_false_eq_true, if_true, Sem.run_bind, hu2, hv2, Result.andThen_ok, g1, Sem.run_ite, g2, Sem.run_pure]
          rw [den_mkIteB]
          cases hb1 : (e1.den η).toB <;> simp [eFalse, E.den, toB_b]
        · cases h
      · cases h
end
end
end Go.Sy
