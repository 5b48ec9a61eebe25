/- The symbolic executor, seventh part: all operations that hang on their operands alone. Own work of this session. -/
import Derived.Test.YtbbippgnmllcoaaSyF
set_option linter.unusedVariables false
set_option linter.unusedSimpArgs false
namespace Go.Sy
section
variable {P : Program} {η : Env} {ρ : List Hd}

theorem eqTop {op : BinOp} {t : TypeId} {x y : SV} {e : E} (h : eqSV P 200 t x y = some e) {u v : Value} (hu : Rel η ρ x u) (hv : Rel η ρ y v) (w : World) :
    (Op.equal t u v).run P w = .ok (e.den η).toB w := eqSV_run 200 t x y e h 10000 (by omega) hu hv w

/-- What '==' and '!=' of two values that are no numbers and no texts come to. -/
theorem run_eql_of {t : TypeId} {u v : Value} {b : Bool} {w : World} (h : (Op.equal t u v).run P w = .ok b w) (hu : ∀ k n, u ≠ .int k n) (hv : ∀ k n, v ≠ .int k n)
    (hf : ∀ k n, u ≠ .float k n) (hc : ∀ k n m, u ≠ .complex k n m) (hs : ∀ s, u ≠ .string s) : (binOp .eql t u v).run P w = .ok (.bool b) w := by
  unfold binOp
  split <;> first
    | (exfalso; rename_i h1 _; exact absurd rfl (hu _ _))
    | (exfalso; exact hu _ _ rfl) | (exfalso; exact hv _ _ rfl) | (exfalso; exact hf _ _ rfl) | (exfalso; exact hc _ _ _ rfl) | (exfalso; exact hs _ rfl)
    | (simp only [Sem.run_bind, h, Result.andThen_ok, Sem.run_pure]; done)
    | simp_all
theorem run_neq_of {t : TypeId} {u v : Value} {b : Bool} {w : World} (h : (Op.equal t u v).run P w = .ok b w) (hu : ∀ k n, u ≠ .int k n) (hv : ∀ k n, v ≠ .int k n)
    (hf : ∀ k n, u ≠ .float k n) (hc : ∀ k n m, u ≠ .complex k n m) (hs : ∀ s, u ≠ .string s) : (binOp .neq t u v).run P w = .ok (.bool (!b)) w := by
  unfold binOp
  split <;> first
    | (exfalso; exact hu _ _ rfl) | (exfalso; exact hv _ _ rfl) | (exfalso; exact hf _ _ rfl) | (exfalso; exact hc _ _ _ rfl) | (exfalso; exact hs _ rfl)
    | (simp only [Sem.run_bind, h, Result.andThen_ok, Sem.run_pure]; done)
    | simp_all

/-- A value that is neither a number nor a text. -/
def Other (u : Value) : Prop := (∀ k n, u ≠ .int k n) ∧ (∀ k n, u ≠ .float k n) ∧ (∀ k n m, u ≠ .complex k n m) ∧ (∀ s, u ≠ .string s)
theorem bin_other {op : BinOp} (hop : op = .eql ∨ op = .neq) {t : TypeId} {x y : SV} {e : E} (h : eqSV P 200 t x y = some e) {u v : Value} (hu : Rel η ρ x u) (hv : Rel η ρ y v)
    (ou : Other u) (ov : ∀ k n, v ≠ .int k n) (w : World) :
    (binOp op t u v).run P w = .ok (.bool (if op = .eql then (e.den η).toB else !(e.den η).toB)) w := by
  have := eqTop (op := op) h hu hv w
  rcases hop with rfl | rfl
  · rw [run_eql_of this ou.1 ov ou.2.1 ou.2.2.1 ou.2.2.2]; simp
  · rw [run_neq_of this ou.1 ov ou.2.1 ou.2.2.1 ou.2.2.2]; simp

theorem eqSV_noInt {t : TypeId} {d : Nat} {x y : SV} {e : E} (h : eqSV P d t x y = some e) (hx : ∀ k a, x ≠ .int k a) {v : Value} (hv : Rel η ρ y v) : ∀ k n, v ≠ .int k n := by
  cases d with
  | zero => simp [eqSV] at h
  | succ d =>
    simp only [eqSV] at h
    intro k n hk
    subst hk
    split at h
    · simp only [Rel] at hv; cases hv
    · exact hx _ _ rfl
    · simp only [Rel] at hv; cases hv
    · rw [Option.map_eq_some_iff] at h
      obtain ⟨b, hb, _⟩ := h
      obtain ⟨a, ha, _⟩ := nilPtr_rel hb hv
      cases ha
    · simp only [Rel] at hv; cases hv
    · simp only [Rel] at hv; obtain ⟨_, hv, _⟩ := hv; cases hv
    · obtain ⟨a, _, _, ha, _⟩ := nilSl_rel h hv
      cases ha
    · simp only [Rel] at hv; cases hv
    · cases h

def SV.tested : SV → Bool
  | .agg _ | .bool _ | .nil | .ptr _ _ | .snil | .slice _ _ _ _ | .asl .. => true
  | _ => false
/-- A slice of ours is a slice. -/
theorem asl_slice {nn : E} {c k : Nat} {off len : E} {v : Value} (h : Rel η ρ (.asl nn c k off len) v) : ∃ (a : Option Addr) (l p : Nat), v = .slice a l p ∧ (len.den η).toI = (l : Int) ∧ l ≤ p := by
  simp only [Rel] at h
  split at h
  · obtain ⟨b, o, n, off', l, cap, _, rfl, h2, h3, _⟩ := h; exact ⟨_, l, cap, rfl, h2, h3⟩
  · obtain ⟨rfl, h2⟩ := h; exact ⟨_, 0, 0, rfl, h2, Nat.le_refl _⟩
theorem eqGuard_of {op : BinOp} {t : TypeId} {ox oy : Operand} {u v : Value} {x : SV} (hu : Rel η ρ x u) (hx : ∀ l, x = .agg l → P.eqGuardType P.depth t = false)
    (hk : x.tested = true) (w : World) : (eqGuard op t ox oy u v).run P w = .ok () w := by
  cases x <;> simp only [SV.tested, Bool.false_eq_true] at hk
  case agg l =>
    simp only [Rel] at hu
    obtain ⟨us, rfl, _⟩ := hu
    cases v <;> first
      | exact run_eqGuard_aggs op t ox oy _ _ (hx l rfl) w
      | (cases op <;> simp [eqGuard])
  case bool => simp only [Rel] at hu; subst hu; exact run_eqGuard_bool op t ox oy _ _ w
  case nil => simp only [Rel] at hu; subst hu; exact run_eqGuard_ptr op t ox oy _ _ w
  case ptr => simp only [Rel] at hu; obtain ⟨b, _, rfl⟩ := hu; exact run_eqGuard_ptr op t ox oy _ _ w
  case snil => simp only [Rel] at hu; subst hu; exact run_eqGuard_slice op t ox oy _ _ _ _ w
  case slice => simp only [Rel] at hu; obtain ⟨b, _, rfl⟩ := hu; exact run_eqGuard_slice op t ox oy _ _ _ _ w
  case asl => obtain ⟨a, l, p, rfl, _⟩ := asl_slice hu; exact run_eqGuard_slice op t ox oy _ _ _ _ w

theorem other_of {u : Value} {x : SV} (hu : Rel η ρ x u) (hk : x.tested = true) : Other u := by
  cases x <;> simp only [SV.tested, Bool.false_eq_true] at hk
  case agg l => simp only [Rel] at hu; obtain ⟨us, rfl, _⟩ := hu; exact ⟨by simp, by simp, by simp, by simp⟩
  case bool => simp only [Rel] at hu; subst hu; exact ⟨by simp, by simp, by simp, by simp⟩
  case nil => simp only [Rel] at hu; subst hu; exact ⟨by simp, by simp, by simp, by simp⟩
  case ptr => simp only [Rel] at hu; obtain ⟨b, _, rfl⟩ := hu; exact ⟨by simp, by simp, by simp, by simp⟩
  case snil => simp only [Rel] at hu; subst hu; exact ⟨by simp, by simp, by simp, by simp⟩
  case slice => simp only [Rel] at hu; obtain ⟨b, _, rfl⟩ := hu; exact ⟨by simp, by simp, by simp, by simp⟩
  case asl => obtain ⟨a, l, p, rfl, _⟩ := asl_slice hu; exact ⟨by simp, by simp, by simp, by simp⟩

/-- The two operations of a test, on values of one shape. -/
theorem bin_eq {op : BinOp} (hop : op = .eql ∨ op = .neq) {t : TypeId} {ox oy : Operand} {x y : SV} {e : E} (h : eqSV P 200 t x y = some e) {u v : Value} (hu : Rel η ρ x u) (hv : Rel η ρ y v)
    (hx : ∀ l, x = .agg l → P.eqGuardType P.depth t = false) (hk : x.tested = true) (w : World) :
    (do eqGuard op t ox oy u v; binOp op t u v).run P w = .ok (.bool (if op = .eql then (e.den η).toB else !(e.den η).toB)) w := by
  rw [Sem.run_bind, eqGuard_of hu hx hk, Result.andThen_ok]
  exact bin_other hop h hu hv (other_of hu hk) (eqSV_noInt h (by intro k a hxx; subst hxx; cases hk) hv) w

theorem bin_rel {op : BinOp} {t : TypeId} {ox oy : Operand} {x y v : SV} {e : E} (h : binSV P op t x y = some (e, v)) (he : (e.den η).toB = true) {a b : Value} (ha : Rel η ρ x a) (hb : Rel η ρ y b) :
    ∃ u, Rel η ρ v u ∧ ∀ w, (do eqGuard op t ox oy a b; binOp op t a b).run P w = .ok u w := by
  unfold binSV at h
  split at h
  · -- shl
    simp only [Option.some.injEq, Prod.mk.injEq] at h
    obtain ⟨rfl, rfl⟩ := h
    simp only [Rel] at ha hb; subst ha hb
    rw [den_mk2] at he
    simp only [O2.den, toB_b, eInt, E.den, toI_i, decide_eq_true_eq] at he
    refine ⟨_, by simp only [Rel]; rfl, fun w => ?_⟩
    rw [Sem.run_bind, run_eqGuard_int, Result.andThen_ok]
    simp only [binOp, Op.shift, den_mk2, O2.den, toI_i]
    rw [if_neg (by omega)]; rfl
  · simp only [Option.some.injEq, Prod.mk.injEq] at h
    obtain ⟨rfl, rfl⟩ := h
    simp only [Rel] at ha hb; subst ha hb
    rw [den_mk2] at he
    simp only [O2.den, toB_b, eInt, E.den, toI_i, decide_eq_true_eq] at he
    refine ⟨_, by simp only [Rel]; rfl, fun w => ?_⟩
    rw [Sem.run_bind, run_eqGuard_int, Result.andThen_ok]
    simp only [binOp, Op.shift, den_mk2, O2.den, toI_i]
    rw [if_neg (by omega)]; rfl
  · split at h
    · rename_i hk; subst hk
      simp only [Rel] at ha hb; subst ha hb
      obtain ⟨u, h1, h2⟩ := binInt_run (P := P) (η := η) (ρ := ρ) h he t
      refine ⟨u, h1, fun w => ?_⟩
      rw [Sem.run_bind, run_eqGuard_int, Result.andThen_ok, h2]
    · cases h
  · -- string concatenation
    simp only [Option.some.injEq, Prod.mk.injEq] at h
    obtain ⟨rfl, rfl⟩ := h
    simp only [Rel] at ha hb; subst ha hb
    rw [den_mk2, den_mk2, den_mk1, den_mk1] at he
    simp only [O2.den, O1.den, toB_b, eInt, E.den, toI_i, decide_eq_true_eq] at he
    refine ⟨_, by simp only [Rel]; rfl, fun w => ?_⟩
    rw [Sem.run_bind, run_eqGuard_str, Result.andThen_ok]
    simp only [binOp, Op.stringOp, den_mk2, O2.den, toS_s]
    have hmax : IntKind.i64.max = 9223372036854775807 := by decide
    rw [if_neg]
    · rfl
    · rw [hmax]
      show ¬ ((((E.den η _).toS.length + (E.den η _).toS.length : Nat)) : Int) > _
      omega
  · simp only [Option.some.injEq, Prod.mk.injEq] at h
    obtain ⟨rfl, rfl⟩ := h
    simp only [Rel] at ha hb; subst ha hb
    refine ⟨_, by simp only [Rel]; rfl, fun w => ?_⟩
    rw [Sem.run_bind, run_eqGuard_str, Result.andThen_ok]
    simp only [binOp, Op.stringOp, den_mk2, O2.den, toB_b, str_toList]; rfl
  · simp only [Option.some.injEq, Prod.mk.injEq] at h
    obtain ⟨rfl, rfl⟩ := h
    simp only [Rel] at ha hb; subst ha hb
    refine ⟨_, by simp only [Rel]; rfl, fun w => ?_⟩
    rw [Sem.run_bind, run_eqGuard_str, Result.andThen_ok]
    simp only [binOp, Op.stringOp, den_mk2, den_mk1, O1.den, O2.den, toB_b, str_toList]; rfl
  · -- structs
    split at h
    · cases h
    · rename_i hg
      rw [Option.map_eq_some_iff] at h
      obtain ⟨r, hr, h⟩ := h
      simp only [Prod.mk.injEq] at h
      obtain ⟨rfl, rfl⟩ := h
      exact ⟨_, by simp only [Rel]; rfl, fun w => by rw [bin_eq (.inl rfl) hr ha hb (fun _ _ => by simpa using hg) rfl]; simp⟩
  · split at h
    · cases h
    · rename_i hg
      rw [Option.map_eq_some_iff] at h
      obtain ⟨r, hr, h⟩ := h
      simp only [Prod.mk.injEq] at h
      obtain ⟨rfl, rfl⟩ := h
      exact ⟨_, by simp only [Rel]; rfl, fun w => by rw [bin_eq (.inr rfl) hr ha hb (fun _ _ => by simpa using hg) rfl, den_mk1]; simp [O1.den, toB_b]⟩
  all_goals first
    | (rw [Option.map_eq_some_iff] at h
       obtain ⟨r, hr, h⟩ := h
       simp only [Prod.mk.injEq] at h
       obtain ⟨rfl, rfl⟩ := h
       first
        | exact ⟨_, by simp only [Rel]; rfl, fun w => by rw [bin_eq (.inl rfl) hr ha hb (fun _ hl => by cases hl) rfl]; simp⟩
        | exact ⟨_, by simp only [Rel]; rfl, fun w => by rw [bin_eq (.inr rfl) hr ha hb (fun _ hl => by cases hl) rfl, den_mk1]; simp [O1.den, toB_b]⟩)
    | cases h

theorem un_rel {op : UnOp} {x v : SV} (h : unSV op x = some v) {a : Value} (ha : Rel η ρ x a) : ∃ u, Rel η ρ v u ∧ ∀ w, (Op.unary op a).run P w = .ok u w := by
  unfold unSV at h
  split at h
  · simp only [Option.some.injEq] at h; subst h
    simp only [Rel] at ha; subst ha
    exact ⟨_, by simp only [Rel]; rfl, fun w => by simp only [Op.unary, Op.intArith, den_mk1, O1.den, toI_i]; rfl⟩
  · simp only [Option.some.injEq] at h; subst h
    simp only [Rel] at ha; subst ha
    exact ⟨_, by simp only [Rel]; rfl, fun w => by simp only [Op.unary, Op.intBits, den_mk1, O1.den, toI_i]; rfl⟩
  · simp only [Option.some.injEq] at h; subst h
    simp only [Rel] at ha; subst ha
    exact ⟨_, by simp only [Rel]; rfl, fun w => by simp only [Op.unary, den_mk1, O1.den, toB_b]; rfl⟩
  · cases h

theorem conv_rel {src dst : TypeId} {x v : SV} (h : convSV P src dst x = some v) {a : Value} (ha : Rel η ρ x a) : ∃ u, Rel η ρ v u ∧ ∀ w, (convert src dst a).run P w = .ok u w := by
  unfold convSV at h
  split at h
  · rename_i d k _ e hs hd
    simp only [Option.some.injEq] at h; subst h
    simp only [Rel] at ha; subst ha
    exact ⟨_, by simp only [Rel]; rfl, fun w => by simp [convert, run_underlying hs, run_underlying hd, Conv.intToInt, den_mk1, O1.den, toI_i]⟩
  · rename_i d e hs hd
    simp only [Option.some.injEq] at h; subst h
    simp only [Rel] at ha; subst ha
    exact ⟨_, by simp only [Rel]; rfl, fun w => by simp [convert, run_underlying hs, run_underlying hd]⟩
  · cases h

theorem foldMM_cons {o : O2} {x y v : SV} {l : List SV} (h : foldMM o x (y :: l) = some v) :
    ∃ k e k' e', x = .int k e ∧ y = .int k' e' ∧ foldMM o (.int k (mk2 o e e')) l = some v := by
  cases x <;> cases y <;> first
    | exact ⟨_, _, _, _, rfl, rfl, h⟩
    | (exfalso; simp [foldMM] at h)
theorem foldMax_rel : ∀ {l : List SV} {vs : List Value} {x v : SV} {a : Value}, foldMM .max x l = some v → Rel η ρ x a → Rels η ρ l vs → ∃ u, Rel η ρ v u ∧ ∀ w, (vs.foldlM Builtin.max2 a).run P w = .ok u w
  | [], vs, x, v, a, h, ha, hr => by
    simp only [foldMM, Option.some.injEq] at h; subst h
    simp only [Rels] at hr; subst hr
    exact ⟨a, ha, fun w => by simp⟩
  | y :: l, vs, x, v, a, h, ha, hr => by
    simp only [Rels] at hr
    obtain ⟨b, r, rfl, hb, hr⟩ := hr
    obtain ⟨k, e, k', e', rfl, rfl, h'⟩ := foldMM_cons h
    simp only [Rel] at ha hb; subst ha hb
    have := foldMax_rel (a := .int _ _) h' (by simp only [Rel]; rfl) hr
    obtain ⟨u, h1, h2⟩ := this
    refine ⟨u, h1, fun w => ?_⟩
    simp only [List.foldlM_cons, Builtin.max2, Sem.run_bind, Sem.run_pure, Result.andThen_ok]
    have h3 := h2 w
    rw [den_mk2] at h3
    exact h3
theorem foldMin_rel : ∀ {l : List SV} {vs : List Value} {x v : SV} {a : Value}, foldMM .min x l = some v → Rel η ρ x a → Rels η ρ l vs → ∃ u, Rel η ρ v u ∧ ∀ w, (vs.foldlM Builtin.min2 a).run P w = .ok u w
  | [], vs, x, v, a, h, ha, hr => by
    simp only [foldMM, Option.some.injEq] at h; subst h
    simp only [Rels] at hr; subst hr
    exact ⟨a, ha, fun w => by simp⟩
  | y :: l, vs, x, v, a, h, ha, hr => by
    simp only [Rels] at hr
    obtain ⟨b, r, rfl, hb, hr⟩ := hr
    obtain ⟨k, e, k', e', rfl, rfl, h'⟩ := foldMM_cons h
    simp only [Rel] at ha hb; subst ha hb
    have := foldMin_rel (a := .int _ _) h' (by simp only [Rel]; rfl) hr
    obtain ⟨u, h1, h2⟩ := this
    refine ⟨u, h1, fun w => ?_⟩
    simp only [List.foldlM_cons, Builtin.min2, Sem.run_bind, Sem.run_pure, Result.andThen_ok]
    have h3 := h2 w
    rw [den_mk2] at h3
    exact h3

theorem len_rel {t ty : TypeId} {x v : SV} (h : lenSV P t x = some v) {a : Value} (ha : Rel η ρ x a) (ts : Array TypeId) (hts : ts[0]? = some t) : ∃ u, Rel η ρ v u ∧ ∀ w, (Builtin.len_ ts ty #[a]).run P w = .ok u w := by
  unfold lenSV at h
  split at h
  · rename_i e hu
    simp only [Option.some.injEq] at h; subst h
    simp only [Rel] at ha; subst ha
    refine ⟨_, by simp only [Rel]; rfl, fun w => ?_⟩
    simp [Builtin.len_, hts, run_underlying hu, den_mk1, O1.den, toI_i, goInt]
    rfl
  · rename_i e c o n p hu
    simp only [Option.some.injEq] at h; subst h
    simp only [Rel] at ha; obtain ⟨b, _, rfl⟩ := ha
    refine ⟨_, by simp only [Rel]; rfl, fun w => ?_⟩
    simp [Builtin.len_, hts, run_underlying hu, goInt, eInt, E.den, toI_i]
  · rename_i e hu
    simp only [Option.some.injEq] at h; subst h
    simp only [Rel] at ha; subst ha
    refine ⟨_, by simp only [Rel]; rfl, fun w => ?_⟩
    simp [Builtin.len_, hts, run_underlying hu, goInt, eInt, E.den, toI_i]
  · rename_i el nn c k off len hu
    simp only [Option.some.injEq] at h; subst h
    obtain ⟨a', l, p, rfl, h2, _⟩ := asl_slice ha
    refine ⟨_, by simp only [Rel]; rfl, fun w => ?_⟩
    simp [Builtin.len_, hts, run_underlying hu, goInt, den_wI, h2]
  · rename_i el t' e hu
    simp only [Option.some.injEq] at h; subst h
    simp only [Rel] at ha
    refine ⟨_, by simp only [Rel]; rfl, fun w => ?_⟩
    rcases ha with ⟨rfl, h0⟩ | ⟨a', rfl, h0⟩ | ⟨b, o, cap, rfl, _⟩
    · simp [Builtin.len_, hts, run_underlying hu, goInt, den_mk1, O1.den, toI_i, h0]
    · simp [Builtin.len_, hts, run_underlying hu, goInt, den_mk1, O1.den, toI_i, h0]
    · simp [Builtin.len_, hts, run_underlying hu, goInt, den_mk1, O1.den, toI_i]
  · cases h

theorem run_fieldAt {t : TypeId} {fs : Array Field} (hu : P.underlying t = some (.struct fs)) {f : Nat} {fl : Field} (hf : fs[f]? = some fl) {i : TypeInfo} (hi : P.info? fl.type = some i) (hz : Nat.beq i.size 0 ≠ true)
    (b off : Nat) (w : World) : (Instr.fieldAt t (.pointer (some ⟨b, off, none⟩)) f).run P w = .ok (.pointer (some ⟨b, off + fl.offset, none⟩)) w := by
  have hz' : ¬ i.size = 0 := fun h0 => hz (by rw [h0]; rfl)
  have hadd : (⟨b, off, none⟩ : Addr).add fl.offset = ⟨b, off + fl.offset, none⟩ := by unfold Addr.add; split <;> simp_all
  simp [Instr.fieldAt, run_underlying hu, hf, Instr.sureAddr, fieldPlace, run_sizeOf hi, hz', hadd]
theorem fieldAddr_rel {t : TypeId} {x v : SV} {f : Nat} (h : fieldAddrSV P t x f = some v) {a : Value} (ha : Rel η ρ x a) : ∃ u, Rel η ρ v u ∧ ∀ w, (Instr.fieldAt t a f).run P w = .ok u w := by
  unfold fieldAddrSV at h
  split at h
  · rename_i c off fs hu
    split at h
    · rename_i fl hf
      split at h
      · rename_i i hi
        split at h
        · cases h
        · rename_i hz
          simp only [Option.some.injEq] at h; subst h
          simp only [Rel] at ha; obtain ⟨b, hb, rfl⟩ := ha
          exact ⟨_, by simp only [Rel]; exact ⟨b, hb, rfl⟩, fun w => run_fieldAt hu hf hi hz b off w⟩
      · cases h
    · cases h
  · rename_i c k ix j fs hu
    split at h
    · rename_i fl hf
      split at h
      · rename_i i hi
        split at h
        · cases h
        · rename_i hz
          simp only [Option.some.injEq] at h; subst h
          simp only [Rel] at ha; obtain ⟨b, o, n, q, hb, hq, rfl⟩ := ha
          exact ⟨.pointer (some ⟨b, o + q * k + (j + fl.offset), none⟩), by simp only [Rel]; exact ⟨b, o, n, q, hb, hq, rfl⟩, fun w => by rw [run_fieldAt hu hf hi hz]; simp [Nat.add_assoc]⟩
      · cases h
    · cases h
  · rename_i t' e ix j fs hu
    split at h
    · rename_i fl hf
      split at h
      · rename_i i hi
        split at h
        · cases h
        · rename_i hz
          simp only [Option.some.injEq] at h; subst h
          simp only [Rel] at ha; obtain ⟨b, o, q, cs, rfl, hq⟩ := ha
          exact ⟨.pointer (some ⟨b, o + q * t'.width + (j + fl.offset), none⟩), by simp only [Rel]; exact ⟨b, o, q, cs, rfl, hq⟩, fun w => by rw [run_fieldAt hu hf hi hz]; simp [Nat.add_assoc]⟩
      · cases h
    · cases h
  · cases h
theorem field_rel {t : TypeId} {x v : SV} {f : Nat} (h : fieldSV P t x f = some v) {a : Value} (ha : Rel η ρ x a) : ∃ u, Rel η ρ v u ∧ ∀ w, (Instr.field t a f).run P w = .ok u w := by
  unfold fieldSV at h
  split at h
  · rename_i cs fs hu
    split at h
    · rename_i fl hf
      simp only [Rel] at ha; obtain ⟨vs, rfl, hr⟩ := ha
      obtain ⟨u, h1, h2⟩ := part_rel hr h
      exact ⟨u, h1, fun w => by simp [Instr.field, run_underlying hu, hf, asAgg, h2]⟩
    · cases h
  · cases h
theorem litNat_rel {x : SV} {n : Nat} (h : litNat x = some n) {v : Value} (hv : Rel η ρ x v) : ∃ k, v = .int k (n : Int) := by
  unfold litNat at h
  split at h
  · simp only [Option.some.injEq] at h; subst h
    simp only [Rel, E.den, toI_i] at hv
    exact ⟨_, hv⟩
  · cases h
theorem index_rel {t : TypeId} {x ix v : SV} (h : indexSV P t x ix = some v) {a b : Value} (ha : Rel η ρ x a) (hb : Rel η ρ ix b) : ∃ u, Rel η ρ v u ∧ ∀ w, (Instr.index t a b).run P w = .ok u w := by
  unfold indexSV at h
  split at h
  · rename_i cs n elem i hu hl
    split at h
    · rename_i hlt
      split at h
      · rename_i inf hi
        obtain ⟨k, rfl⟩ := litNat_rel hl hb
        simp only [Rel] at ha; obtain ⟨vs, rfl, hr⟩ := ha
        obtain ⟨u, h1, h2⟩ := part_rel hr h
        have hlt : i < n := by simpa [Nat.blt_eq] using hlt
        refine ⟨u, h1, fun w => ?_⟩
        simp [Instr.index, asIntOf, run_underlying hu, run_sizeOf hi, hlt, h2]
      · cases h
    · cases h
  · cases h
theorem add_mk (b off n : Nat) : (⟨b, off, none⟩ : Addr).add n = ⟨b, off + n, none⟩ := by unfold Addr.add; split <;> simp_all
theorem indexAddr_rel {t : TypeId} {x ix v : SV} (h : indexAddrSV P t x ix = some v) {a b : Value} (ha : Rel η ρ x a) (hb : Rel η ρ ix b) : ∃ u, Rel η ρ v u ∧ ∀ w, (Instr.indexAt t a b).run P w = .ok u w := by
  unfold indexAddrSV at h
  split at h
  · rename_i c off n elem i hu hl
    split at h
    · rename_i hlt
      split at h
      · rename_i inf hi
        simp only [Option.some.injEq] at h; subst h
        obtain ⟨k, rfl⟩ := litNat_rel hl hb
        simp only [Rel] at ha; obtain ⟨b, hb', rfl⟩ := ha
        have hlt : i < n := by simpa [Nat.blt_eq] using hlt
        refine ⟨_, by simp only [Rel]; exact ⟨b, hb', rfl⟩, fun w => ?_⟩
        simp [Instr.indexAt, asIntOf, run_underlying hu, Instr.sureAddr, run_sizeOf hi, hlt, add_mk]
      · cases h
    · cases h
  · rename_i c off len cap elem i hu hl
    split at h
    · rename_i hlt
      split at h
      · rename_i inf hi
        simp only [Option.some.injEq] at h; subst h
        obtain ⟨k, rfl⟩ := litNat_rel hl hb
        simp only [Rel] at ha; obtain ⟨b, hb', rfl⟩ := ha
        have hlt : i < len := by simpa [Nat.blt_eq] using hlt
        refine ⟨_, by simp only [Rel]; exact ⟨b, hb', rfl⟩, fun w => ?_⟩
        simp [Instr.indexAt, asIntOf, run_underlying hu, run_sizeOf hi, hlt, add_mk]
      · cases h
    · cases h
  · cases h
theorem toB_and {a b : E} (h : ((mkAnd a b).den η).toB = true) : (a.den η).toB = true ∧ (b.den η).toB = true := by
  rw [den_mkAnd, Bool.and_eq_true] at h; exact h
theorem ge0_of {a : E} (h : ((mk2 .ge a (eInt 0)).den η).toB = true) : 0 ≤ (a.den η).toI := by
  rw [den_mk2] at h
  simpa [O2.den, toB_b, eInt, E.den, toI_i] using h
theorem le_of {a b : E} (h : ((mk2 .le a b).den η).toB = true) : (a.den η).toI ≤ (b.den η).toI := by
  rw [den_mk2] at h
  simpa [O2.den, toB_b] using h
theorem lt_of {a b : E} (h : ((mk2 .lt a b).den η).toB = true) : (a.den η).toI < (b.den η).toI := by
  rw [den_mk2] at h
  simpa [O2.den, toB_b] using h
theorem den_lenL (a : E) : ((mk1 .lenL a).den η).toI = ((a.den η).toL.length : Int) := by rw [den_mk1]; rfl

/-- An index of an array. -/
theorem elemAddr_rel {t : TypeId} {x ix v : SV} {g : E} (h : elemAddrSV P t x ix = some (g, v)) (hg : (g.den η).toB = true) {a b : Value} (ha : Rel η ρ x a) (hb : Rel η ρ ix b) :
    ∃ u, Rel η ρ v u ∧ ∀ w, (Instr.indexAt t a b).run P w = .ok u w := by
  unfold elemAddrSV at h
  split at h
  · rename_i nn c k off len kk i elem hu
    split at h
    · rename_i inf hi
      split at h
      · rename_i hw
        simp only [Option.some.injEq, Prod.mk.injEq] at h
        obtain ⟨rfl, rfl⟩ := h
        obtain ⟨g1, g2⟩ := toB_and hg
        have g1 := ge0_of g1
        have g2 := lt_of g2
        have hw := Nat.eq_of_beq_eq_true hw
        simp only [Rel] at hb; subst hb
        simp only [Rel] at ha
        split at ha
        · obtain ⟨b, o, n, off', l, cap, h1, rfl, h3, h4, h5, h6⟩ := ha
          have hlt : (i.den η).toI < (l : Int) := by omega
          have hoff : (off.den η).toI = (off' : Int) := by
            rcases h6 with h6 | h6
            · omega
            · exact h6
          refine ⟨.pointer (some ⟨b, o + off' * k + (i.den η).toI.toNat * k, none⟩), ?_, fun w => ?_⟩
          · simp only [Rel]
            refine ⟨b, o, n, off' + (i.den η).toI.toNat, h1, ?_, ?_⟩
            · rw [den_mkAdd, hoff]; omega
            · simp [Nat.add_mul, Nat.add_assoc]
          · have hlt' : (i.den η).toI.toNat < l := by omega
            simp [Instr.indexAt, asIntOf, run_underlying hu, run_sizeOf hi, g1, hlt, hw, add_mk]
        · omega
      · cases h
    · cases h
  · rename_i t' e kk i elem hu
    split at h
    · rename_i inf hi
      split at h
      · rename_i hw
        simp only [Option.some.injEq, Prod.mk.injEq] at h
        obtain ⟨rfl, rfl⟩ := h
        obtain ⟨g1, g2⟩ := toB_and hg
        have g1 := ge0_of g1
        have g2 := lt_of g2
        rw [den_lenL] at g2
        have hw := Nat.eq_of_beq_eq_true hw
        simp only [Rel] at hb; subst hb
        simp only [Rel] at ha
        rcases ha with ⟨_, h0⟩ | ⟨_, _, h0⟩ | ⟨b, o, cap, rfl, h1, h2⟩
        · rw [h0] at g2; simp at g2; omega
        · rw [h0] at g2; simp at g2; omega
        · have hne : (e.den η).toL ≠ [] := by intro h0; rw [h0] at g2; simp at g2; omega
          obtain ⟨cs, h3, h4⟩ := h2 hne
          refine ⟨.pointer (some ⟨b, o + (i.den η).toI.toNat * t'.width, none⟩), ?_, fun w => ?_⟩
          · simp only [Rel]
            exact ⟨b, o, (i.den η).toI.toNat, cs, rfl, by omega, by omega, h3, h4⟩
          · simp [Instr.indexAt, asIntOf, run_underlying hu, run_sizeOf hi, g1, g2, hw, add_mk]
      · cases h
    · cases h
  · cases h

theorem cutB_run {len : E} {lo hi mx : Option SV} {g a b : E} (h : cutB len lo hi mx = some (g, a, b)) (hg : (g.den η).toB = true) {l cap : Nat} (hl : (len.den η).toI = (l : Int)) (hc : l ≤ cap)
    (hmx : mx.isSome = true → hi.isSome = true) {vlo vhi vmx : Option Value} (rlo : ∀ x, lo = some x → ∃ v, vlo = some v ∧ Rel η ρ x v) (rlon : lo = none → vlo = none)
    (rhi : ∀ x, hi = some x → ∃ v, vhi = some v ∧ Rel η ρ x v) (rhin : hi = none → vhi = none) (rmx : ∀ x, mx = some x → ∃ v, vmx = some v ∧ Rel η ρ x v) (rmxn : mx = none → vmx = none) :
    ∃ la lb m : Nat, (a.den η).toI = (la : Int) ∧ (b.den η).toI = (lb : Int) ∧ la ≤ lb ∧ lb ≤ l ∧ lb ≤ m ∧ m ≤ cap ∧ ∀ w, (Instr.sliceBounds true l cap vlo vhi vmx).run P w = .ok (la, lb, m) w := by
  unfold cutB at h
  split at h
  case h_2 => cases h
  rename_i m0 g0 hm
  split at h
  case h_2 => cases h
  rename_i h0 g1 hh
  have hlo : (∃ k e, lo = some (.int k e) ∧ g = mkAnd g1 (mkAnd (mk2 .ge e (eInt 0)) (mk2 .le e h0)) ∧ a = e ∧ b = h0) ∨ (lo = none ∧ g = g1 ∧ a = eInt 0 ∧ b = h0) := by
    unfold loB at h
    split at h
    · rename_i k e
      simp only [Option.some.injEq, Prod.mk.injEq] at h
      obtain ⟨r1, r2, r3⟩ := h
      exact .inl ⟨k, e, rfl, r1.symm, r2.symm, r3.symm⟩
    · simp only [Option.some.injEq, Prod.mk.injEq] at h
      obtain ⟨r1, r2, r3⟩ := h
      exact .inr ⟨rfl, r1.symm, r2.symm, r3.symm⟩
    · cases h
  have hg1 : (g1.den η).toB = true := by
    rcases hlo with ⟨k, e, _, rfl, _, _⟩ | ⟨_, rfl, _, _⟩
    · exact (toB_and hg).1
    · exact hg
  have hhi : (∃ k e, hi = some (.int k e) ∧ g1 = mkAnd g0 (mkAnd (mk2 .ge e (eInt 0)) (mk2 .le e m0)) ∧ h0 = e) ∨ (hi = none ∧ g1 = g0 ∧ h0 = len) := by
    unfold hiB at hh
    split at hh
    · rename_i k e
      simp only [Option.some.injEq, Prod.mk.injEq] at hh
      exact .inl ⟨k, e, rfl, hh.2.symm, hh.1.symm⟩
    · simp only [Option.some.injEq, Prod.mk.injEq] at hh
      exact .inr ⟨rfl, hh.2.symm, hh.1.symm⟩
    · cases hh
  have hg0 : (g0.den η).toB = true := by
    rcases hhi with ⟨k, e, _, rfl, _⟩ | ⟨_, rfl, _⟩
    · exact (toB_and hg1).1
    · exact hg1
  have hmm : (∃ k e, mx = some (.int k e) ∧ m0 = e ∧ (e.den η).toI ≤ (l : Int)) ∨ (mx = none ∧ m0 = len) := by
    unfold mxB at hm
    split at hm
    · rename_i k e
      simp only [Option.some.injEq, Prod.mk.injEq] at hm
      obtain ⟨r1, r2⟩ := hm
      subst r1 r2
      exact .inl ⟨k, _, rfl, rfl, by rw [← hl]; exact le_of hg0⟩
    · simp only [Option.some.injEq, Prod.mk.injEq] at hm
      exact .inr ⟨rfl, hm.1.symm⟩
    · cases hm
  -- the numbers
  have hb0 : 0 ≤ (h0.den η).toI ∧ (h0.den η).toI ≤ (m0.den η).toI ∧ (m0.den η).toI ≤ (l : Int) := by
    have hml : (m0.den η).toI ≤ (l : Int) := by
      rcases hmm with ⟨k, e, _, rfl, h3⟩ | ⟨_, rfl⟩
      · exact h3
      · omega
    rcases hhi with ⟨k, e, _, rfl, rfl⟩ | ⟨h1, rfl, rfl⟩
    · obtain ⟨g3, g4⟩ := toB_and (toB_and hg1).2
      exact ⟨ge0_of g3, le_of g4, hml⟩
    · rcases hmm with ⟨k, e, h2, _⟩ | ⟨_, rfl⟩
      · exfalso
        rw [h1, h2] at hmx; simp at hmx
      · omega
  have ha0 : 0 ≤ (a.den η).toI ∧ (a.den η).toI ≤ (h0.den η).toI := by
    rcases hlo with ⟨k, e, _, rfl, rfl, _⟩ | ⟨_, _, rfl, _⟩
    · obtain ⟨g3, g4⟩ := toB_and (toB_and hg).2
      exact ⟨ge0_of g3, le_of g4⟩
    · simp only [eInt, E.den, toI_i]; omega
  have hbb : b = h0 := by
    rcases hlo with ⟨k, e, _, _, _, h3⟩ | ⟨_, _, _, h3⟩ <;> exact h3
  subst hbb
  refine ⟨(a.den η).toI.toNat, (b.den η).toI.toNat, (match vmx with | some _ => (m0.den η).toI.toNat | none => cap), by omega, by omega, by omega, by omega, ?_, ?_, fun w => ?_⟩
  · split <;> omega
  · split <;> omega
  · have hA0 : ((a.den η).toI.toNat : Int) = (a.den η).toI := by omega
    have e1 : (∃ k, vlo = some (.int k (a.den η).toI)) ∨ (vlo = none ∧ (a.den η).toI = 0) := by
      rcases hlo with ⟨k, e, h1, _, rfl, _⟩ | ⟨h1, _, rfl, _⟩
      · obtain ⟨v, h2, h3⟩ := rlo _ h1
        simp only [Rel] at h3; subst h3
        exact .inl ⟨k, h2⟩
      · exact .inr ⟨rlon h1, rfl⟩
    have e2 : (∃ k, vhi = some (.int k (b.den η).toI)) ∨ (vhi = none ∧ vmx = none ∧ (b.den η).toI = (l : Int)) := by
      rcases hhi with ⟨k, e, h1, _, rfl⟩ | ⟨h1, _, rfl⟩
      · obtain ⟨v, h2, h3⟩ := rhi _ h1
        simp only [Rel] at h3; subst h3
        exact .inl ⟨k, h2⟩
      · refine .inr ⟨rhin h1, rmxn ?_, hl⟩
        cases hq : mx with
        | none => rfl
        | some q => rw [hq, h1] at hmx; simp at hmx
    have e3 : (∃ k, vmx = some (.int k (m0.den η).toI)) ∨ vmx = none := by
      rcases hmm with ⟨k, e, h1, rfl, _⟩ | ⟨h1, _⟩
      · obtain ⟨v, h2, h3⟩ := rmx _ h1
        simp only [Rel] at h3; subst h3
        exact .inl ⟨k, h2⟩
      · exact .inr (rmxn h1)
    have q1 : (a.den η).toI ≤ max (b.den η).toI 0 := by omega
    have q2 : (b.den η).toI ≤ max (m0.den η).toI 0 := by omega
    have q3 : (m0.den η).toI ≤ (cap : Int) := by omega
    have q4 : 0 ≤ (m0.den η).toI := by omega
    have q5 : (b.den η).toI ≤ (cap : Int) := by omega
    have q6 : (a.den η).toI ≤ (l : Int) := by omega
    rcases e1 with ⟨k1, rfl⟩ | ⟨rfl, e1⟩ <;> rcases e2 with ⟨k2, rfl⟩ | ⟨rfl, rfl, e2⟩
    · rcases e3 with ⟨k3, rfl⟩ | rfl
      · simp [Instr.sliceBounds, Instr.sliceBound, asIntOf, hb0.1, ha0.1, q1, q2, q3, q4, Option.isSome]
      · simp [Instr.sliceBounds, Instr.sliceBound, asIntOf, hb0.1, ha0.1, q1, q5]
    · simp [Instr.sliceBounds, Instr.sliceBound, asIntOf, ha0.1, q6, e2]
    · rcases e3 with ⟨k3, rfl⟩ | rfl
      · simp [Instr.sliceBounds, Instr.sliceBound, asIntOf, hb0.1, q2, q3, q4, e1]
      · simp [Instr.sliceBounds, Instr.sliceBound, asIntOf, hb0.1, q5, e1]
    · simp [Instr.sliceBounds, e1, e2]
end
end Go.Sy
