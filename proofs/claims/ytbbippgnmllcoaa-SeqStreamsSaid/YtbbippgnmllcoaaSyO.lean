/- The symbolic executor, twelfth part: code and calls; what it finds is so. Own work of this session. -/
import Derived.Test.YtbbippgnmllcoaaSyN
set_option linter.unusedVariables false
set_option linter.unusedSimpArgs false
namespace Go.Sy
section
variable {P : Program} {Ω : Om} {η : Env} {B : World} {T' : Nat → Prop}

/-- Whoever is as 's' says is as 's2' says (some chunks forgotten). -/
def Leads (Ω : Om) (η : Env) (B : World) (T' : Nat → Prop) (n : Nat) (s s2 : St) : Prop :=
  ∀ ρ0 ρ vs w, ρ0 <+: ρ → ρ0.length ≤ n → At Ω η B T' ρ s vs w → ∃ ρ', ρ0 <+: ρ' ∧ At Ω η B T' ρ' s2 vs w
theorem join_leaf {n : Nat} {t : T (X × St)} {x : X × St} (h : (join n t).leaf η = some x) : ∃ y, t.leaf η = some y ∧ y.1 = x.1 ∧ Leads Ω η B T' n y.2 x.2 := by
  have hK : Less (η := η) n (fun z => z.1 = x.1 ∧ Leads Ω η B T' n z.2 x.2) := by
    intro x' c s1 s2 s3 hm ⟨h1, h2⟩
    refine ⟨h1, fun ρ0 ρ vs w hp hn hA => ?_⟩
    obtain ⟨ρ', q1, q2⟩ := At.merge hm hA hp hn
    exact h2 ρ0 ρ' vs w q1 hn q2
  have := join_holds hK (T.holds_leaf.2 ⟨x, h, rfl, fun ρ0 ρ vs w hp _ hA => ⟨ρ, hp, hA⟩⟩)
  exact T.holds_leaf.1 this

def X.exit' : X → Exit
  | .normal => .normal
  | .ret => .ret
  | .exit id => .exit id

theorem Goes.lead {n : Nat} {ρ : List Hd} {d : List Deferred} {s s2 : St} {K : Act → World → Prop} (h : Goes Ω η B T' ρ d s2 K) (hl : Leads Ω η B T' n s s2) (hn : ρ.length ≤ n) : Goes Ω η B T' ρ d s K := by
  intro ρ' a' w' hp hA hd
  obtain ⟨ρ'', q1, q2⟩ := hl ρ ρ' _ w' hp hn hA
  exact h ρ'' a' w' q1 q2 hd

/-- Where a part of a function's code stands. -/
inductive PathOf (body : Code) : Nat → Code → Prop
  | root : PathOf body 1 body
  | seqL {p : Nat} {a b : Code} : PathOf body p (.seq a b) → PathOf body (2 * p) a
  | seqR {p : Nat} {a b : Code} : PathOf body p (.seq a b) → PathOf body (2 * p + 1) b
  | condL {p : Nat} {x : Operand} {a b : Code} : PathOf body p (.cond x a b) → PathOf body (2 * p) a
  | condR {p : Nat} {x : Operand} {a b : Code} : PathOf body p (.cond x a b) → PathOf body (2 * p + 1) b
  | block {p id : Nat} {c : Code} : PathOf body p (.block id c) → PathOf body (2 * p) c
  | loop {p : Nat} {c : Code} : PathOf body p (.loop c) → PathOf body (2 * p) c
theorem PathOf.pos {body c : Code} {p : Nat} (h : PathOf body p c) : 1 ≤ p := by
  induction h <;> omega
/-- What a step down gives. -/
def stepDown (right : Bool) : Code → Option Code
  | .seq a b => some (if right then b else a)
  | .cond _ a b => some (if right then b else a)
  | .block _ c => if right then none else some c
  | .loop c => if right then none else some c
  | _ => none
theorem PathOf.inv {body c : Code} {p : Nat} (h : PathOf body p c) : (p = 1 ∧ c = body) ∨ ∃ c0, PathOf body (p / 2) c0 ∧ stepDown (p % 2 == 1) c0 = some c := by
  cases h
  case root => exact .inl ⟨rfl, rfl⟩
  case seqL p b h => exact .inr ⟨_, by rw [Nat.mul_div_cancel_left _ (by decide)]; exact h, by simp [stepDown]⟩
  case seqR p a h => exact .inr ⟨_, by rw [show (2 * p + 1) / 2 = p by omega]; exact h, by simp [stepDown]⟩
  case condL p x b h => exact .inr ⟨_, by rw [Nat.mul_div_cancel_left _ (by decide)]; exact h, by simp [stepDown]⟩
  case condR p x a h => exact .inr ⟨_, by rw [show (2 * p + 1) / 2 = p by omega]; exact h, by simp [stepDown]⟩
  case block p id h => exact .inr ⟨_, by rw [Nat.mul_div_cancel_left _ (by decide)]; exact h, by simp [stepDown]⟩
  case loop p h => exact .inr ⟨_, by rw [Nat.mul_div_cancel_left _ (by decide)]; exact h, by simp [stepDown]⟩
theorem PathOf.one {body : Code} : ∀ (n p : Nat), p ≤ n → ∀ {c c' : Code}, PathOf body p c → PathOf body p c' → c = c'
  | 0, p, hp, c, c', h, h' => by have := h.pos; omega
  | n + 1, p, hp, c, c', h, h' => by
    rcases h.inv with ⟨rfl, rfl⟩ | ⟨c0, h0, e0⟩
    · rcases h'.inv with ⟨_, rfl⟩ | ⟨c1, h1, e1⟩
      · rfl
      · have := h1.pos; omega
    · rcases h'.inv with ⟨rfl, rfl⟩ | ⟨c1, h1, e1⟩
      · have := h0.pos; omega
      · have hp0 := h0.pos
        have := PathOf.one n (p / 2) (by omega) h0 h1
        subst this
        rw [e0] at e1; injection e1
/-- What stands at a path, to be computed: the way down, from the root. -/
def codeAt (body : Code) : Nat → Nat → Option Code
  | 0, _ => none
  | n + 1, p => if p = 1 then some body else (codeAt body n (p / 2)).bind (stepDown (p % 2 == 1))
theorem PathOf.at {body : Code} : ∀ {n p : Nat} {c : Code}, codeAt body n p = some c → 1 ≤ p → PathOf body p c
  | 0, p, c, h, _ => by simp [codeAt] at h
  | n + 1, p, c, h, hp => by
    simp only [codeAt] at h
    split at h
    · rename_i h1; subst h1
      simp only [Option.some.injEq] at h; subst h
      exact .root
    · rename_i h1
      rw [Option.bind_eq_some_iff] at h
      obtain ⟨c0, h2, h3⟩ := h
      have h0 := PathOf.at h2 (by omega)
      rcases Nat.mod_two_eq_zero_or_one p with hm | hm
      · rw [hm] at h3
        have e : 2 * (p / 2) = p := by omega
        cases c0 <;> simp [stepDown] at h3
        · subst h3; rw [← e]; exact .seqL h0
        · subst h3; rw [← e]; exact .condL h0
        · subst h3; rw [← e]; exact .block h0
        · subst h3; rw [← e]; exact .loop h0
      · rw [hm] at h3
        have e : 2 * (p / 2) + 1 = p := by omega
        cases c0 <;> simp [stepDown] at h3
        · subst h3; rw [← e]; exact .seqR h0
        · subst h3; rw [← e]; exact .condR h0

/-- What is asked of those who answer besides. -/
structure ExtOK (P : Program) (Ω : Om) (η : Env) (B : World) (T' : Nat → Prop) (Z : Ext) : Prop where
  call : ∀ f args m t vm, Z.call f args m = some t → t.leaf η = some vm → ∀ (ρ : List Hd) (vs : List Value) (w : World), Inv Ω η B T' ρ m w → Rels η ρ args vs →
    Calls P f ⟨vs⟩ w fun e w' => ∃ u ρ', e = .returned u ∧ ρ <+: ρ' ∧ Inv Ω η B T' ρ' vm.2 w' ∧ Rel η ρ' vm.1 u
  loop : ∀ f p s t y, Z.loop f p s = some t → t.leaf η = some y → ∀ fn body c, P.funcs[f]? = some fn → fn.body = some body → PathOf body p (.loop c) →
    ∀ (ρ : List Hd) (a : Act) (w : World) (Q : Exit → Act → World → Prop), At Ω η B T' ρ s a.tmps.toList w → Goes Ω η B T' ρ a.defers y.2 (Q y.1.exit') → (Code.loop c).wp P Q a w
theorem ExtOK.none : ExtOK P Ω η B T' Ext.none := ⟨fun _ _ _ _ _ h => by simp [Ext.none] at h, fun _ _ _ _ _ h => by simp [Ext.none] at h⟩
variable {Z : Ext}

def CodeOK (P : Program) (Ω : Om) (η : Env) (B : World) (T' : Nat → Prop) (Z : Ext) (n : Nat) : Prop :=
  ∀ (f : FuncId) (fn : Func) (body : Code) (p : Nat) (c : Code) (s : St) (x : X × St), P.funcs[f]? = some fn → fn.body = some body → PathOf body p c → (evCode P Z f n p c s).leaf η = some x →
    ∀ (ρ : List Hd) (a : Act) (w : World) (Q : Exit → Act → World → Prop), At Ω η B T' ρ s a.tmps.toList w → Goes Ω η B T' ρ a.defers x.2 (Q x.1.exit') → c.wp P Q a w
def LoopOK (P : Program) (Ω : Om) (η : Env) (B : World) (T' : Nat → Prop) (Z : Ext) (n : Nat) : Prop :=
  ∀ (f : FuncId) (fn : Func) (body : Code) (p : Nat) (c : Code) (s : St) (x : X × St), P.funcs[f]? = some fn → fn.body = some body → PathOf body p (.loop c) → (evRounds P Z f n p c s).leaf η = some x →
    ∀ (ρ : List Hd) (a : Act) (w : World) (Q : Exit → Act → World → Prop), At Ω η B T' ρ s a.tmps.toList w → Goes Ω η B T' ρ a.defers x.2 (Q x.1.exit') → Code.rounds P c Q n a w

theorem Goes.next {ρ ρ' : List Hd} {d d' : List Deferred} {s : St} {K : Act → World → Prop} (h : Goes Ω η B T' ρ d s K) (hp : ρ <+: ρ') (hd : d' = d) : Goes Ω η B T' ρ' d' s K :=
  fun ρ'' a' w' q1 q2 q3 => h ρ'' a' w' (hp.trans q1) q2 (q3.trans hd)

theorem bool_of {ρ : List Hd} {s : St} {a : Act} (hf : Rels η ρ s.fr a.tmps.toList) {c : Operand} {e : E} (h : opd s c = .bool e) : a.eval c = .bool (e.den η).toB := by
  have := opd_rel hf c
  rw [h] at this
  simpa only [Rel] using this

theorem entry_run {f : FuncId} {n : Nat} {fn : Func} {c : Code} (h : entryOk P f n = some (fn, c)) :
    P.funcs[f]? = some fn ∧ fn.body = some c ∧ n ≤ fn.ntmps ∧ ∀ as w, (callFunc f as).run P w = .ok (.enter f as) w := by
  unfold entryOk at h
  split at h
  · rename_i fn' hf
    split at h
    · cases h
    · rename_i hname
      split at h
      · rename_i c' hb
        split at h
        · rename_i hle
          simp only [Option.some.injEq, Prod.mk.injEq] at h
          obtain ⟨rfl, rfl⟩ := h
          refine ⟨hf, hb, Nat.le_of_ble_eq_true hle, fun as w => ?_⟩
          have hn : ¬ fn'.name = "runtime.NumGoroutine" := by simpa using hname
          simp [callFunc, hf, hn, hb]
        · cases h
      · cases h
  · cases h

def oneRun (tmps : Array Value) : ResultVar → Sem Value
  | .tmp t => pure (tmps.getD t undef)
  | .cell a t => do loadVar t (← asAddr (tmps.getD a undef))
theorem results_eq (fn : Func) (tmps : Array Value) : results fn tmps = (do let vs ← fn.results.mapM (oneRun tmps); pure (if h : vs.size = 1 then vs[0] else .tuple vs)) := by
  unfold results
  congr 1
theorem result_one {ρ : List Hd} {m : List Chunk} {w : World} (hI : Inv Ω η B T' ρ m w) {fr : List SV} {tmps : Array Value} (hf : Rels η ρ fr tmps.toList) {r : ResultVar} {v : SV}
    (h : oneSV P m fr r = some v) : ∃ u, Rel η ρ v u ∧ (oneRun tmps r).run P w = .ok u w := by
  have hget : ∀ t, Rel η ρ (fr.getD t (.tup [])) (tmps.getD t undef) := by
    intro t
    have := hf.getD t
    simpa [Array.getD_eq_getD_getElem?] using this
  cases r with
  | tmp t =>
    simp only [oneSV, Option.some.injEq] at h; subst h
    exact ⟨_, hget t, rfl⟩
  | cell a t =>
    simp only [oneSV] at h
    have hp := hget a
    generalize fr.getD a (.tup []) = q at h hp
    generalize ha : tmps.getD a undef = va at hp
    obtain ⟨u, h1, h2⟩ := load_rel hI h hp
    refine ⟨u, h1, ?_⟩
    unfold loadSV at h
    split at h
    · simp only [Rel] at hp
      obtain ⟨b, _, rfl⟩ := hp
      simp only [Instr.loadAt, Instr.sureAddr, Sem.run_bind, Sem.run_pure, Result.andThen_ok] at h2
      simp only [oneRun, ha, asAddr, Sem.run_bind, Sem.run_pure, Result.andThen_ok, h2]
    · cases h
theorem result_many {ρ : List Hd} {m : List Chunk} {w : World} (hI : Inv Ω η B T' ρ m w) {fr : List SV} {tmps : Array Value} (hf : Rels η ρ fr tmps.toList) : ∀ {rs : List ResultVar},
    (rs.map (oneSV P m fr)).all Option.isSome = true →
    ∃ us, Rels η ρ ((rs.map (oneSV P m fr)).filterMap id) us ∧ us.length = rs.length ∧ (rs.mapM (oneRun tmps)).run P w = .ok us w
  | [], _ => ⟨[], Rels.nil, rfl, by simp⟩
  | r :: rs, h => by
    simp only [List.map_cons, List.all_cons, Bool.and_eq_true] at h
    obtain ⟨v, hv⟩ := Option.isSome_iff_exists.1 h.1
    obtain ⟨u, h1, h2⟩ := result_one (P := P) hI hf hv
    obtain ⟨us, g1, g2, g3⟩ := result_many hI hf h.2
    refine ⟨u :: us, ?_, by simp [g2], ?_⟩
    · simp only [List.map_cons, List.filterMap_cons, hv, id]
      exact Rels.cons h1 g1
    · simp only [List.mapM_cons, Sem.run_bind, h2, Result.andThen_ok, g3, Sem.run_pure]
theorem result_rel {ρ : List Hd} {s : St} {w : World} {fn : Func} {v : SV} (h : resultSV P fn s = some v) {tmps : Array Value} (hA : At Ω η B T' ρ s tmps.toList w) :
    ∃ u, Rel η ρ v u ∧ (results fn tmps).run P w = .ok u w := by
  rw [results_eq]
  have hmap : (fn.results.mapM (oneRun tmps)).run P w = ((fn.results.toList.mapM (oneRun tmps)).run P w).andThen fun l w => .ok l.toArray w := by
    rw [Array.mapM_eq_mapM_toList, Sem.run_map]
  unfold resultSV at h
  split at h
  · rename_i r hr
    obtain ⟨u, h1, h2⟩ := result_one (P := P) hA.inv hA.fr h
    refine ⟨u, h1, ?_⟩
    rw [Sem.run_bind, hmap, hr]
    simp only [List.mapM_cons, List.mapM_nil, Sem.run_bind, Sem.run_pure, Result.andThen_ok, h2]
    simp
  · rename_i hne
    split at h
    · rename_i hall
      simp only [Option.some.injEq] at h; subst h
      obtain ⟨us, g1, g2, g3⟩ := result_many (P := P) hA.inv hA.fr hall
      refine ⟨.tuple ⟨us⟩, by simp only [Rel]; exact ⟨us, rfl, g1⟩, ?_⟩
      rw [Sem.run_bind, hmap, g3]
      simp only [Result.andThen_ok, Sem.run_pure]
      have hne1 : us.length ≠ 1 := by
        rw [g2]
        intro h1
        match hq : fn.results.toList, h1 with
        | [r], _ => exact hne r hq
      rw [dif_neg (by simpa using hne1)]
    · cases h

theorem replicate_rel {ρ : List Hd} (n : Nat) : Rels η ρ (List.replicate n (.tup [])) (List.replicate n undef) := by
  induction n with
  | zero => exact Rels.nil
  | succ n ih => exact Rels.cons undef_rel ih

theorem ev_sound (hm : P.follows .mixedOrders = true) (hZ : ExtOK P Ω η B T' Z) : ∀ n, CodeOK P Ω η B T' Z n ∧ LoopOK P Ω η B T' Z n ∧ CallSound P Ω η B T' (evFun P Z n) ∧ CallSound P Ω η B T' (evBody P Z n)
  | 0 => by
    refine ⟨?_, ?_, ?_, ?_⟩
    · intro f fn body p c s x _ _ _ h; simp [evCode, T.leaf] at h
    · intro f fn body p c s x _ _ _ h; simp [evRounds, T.leaf] at h
    · intro f args m vm h; simp [evFun, T.leaf] at h
    · intro f args m vm h; simp [evBody, T.leaf] at h
  | n + 1 => by
    obtain ⟨ihC, ihL, ihF, ihB⟩ := ev_sound hm hZ n
    refine ⟨?_, ?_, ?_, ?_⟩
    · intro f fn body p c s x hfn hbody hp h ρ a w Q hA hK
      cases c with
      | skip =>
        simp only [evCode, T.leaf, Option.some.injEq] at h; subst h
        exact wp_skip (hK ρ a w (List.prefix_refl _) hA rfl)
      | label l =>
        simp only [evCode, T.leaf, Option.some.injEq] at h; subst h
        exact wp_label (hK ρ a w (List.prefix_refl _) hA rfl)
      | ret =>
        simp only [evCode, T.leaf, Option.some.injEq] at h; subst h
        exact wp_ret (hK ρ a w (List.prefix_refl _) hA rfl)
      | exit id =>
        simp only [evCode, T.leaf, Option.some.injEq] at h; subst h
        exact wp_exit (hK ρ a w (List.prefix_refl _) hA rfl)
      | seq c1 c2 =>
        simp only [evCode, leaf_bind] at h
        obtain ⟨y, h1, h2⟩ := h
        refine wp_seq (ihC f fn body (2 * p) c1 s y hfn hbody hp.seqL h1 ρ a w _ hA ?_)
        obtain ⟨x1, s1⟩ := y
        intro ρ' a' w' q1 q2 q3
        cases x1 with
        | normal =>
          simp only [X.exit', Exit.then]
          exact ihC f fn body (2 * p + 1) c2 s1 x hfn hbody hp.seqR h2 ρ' a' w' Q q2 (hK.next q1 q3)
        | ret =>
          simp only [T.leaf, Option.some.injEq] at h2; subst h2
          exact hK ρ' a' w' q1 q2 q3
        | exit id =>
          simp only [T.leaf, Option.some.injEq] at h2; subst h2
          exact hK ρ' a' w' q1 q2 q3
      | cond b c1 c2 =>
        simp only [evCode] at h
        split at h
        · rename_i hb
          exact wp_cond_true (by rw [bool_of hA.fr hb]; rfl) (ihC f fn body (2 * p) c1 s x hfn hbody hp.condL h ρ a w Q hA hK)
        · rename_i hb
          exact wp_cond_false (by rw [bool_of hA.fr hb]; rfl) (ihC f fn body (2 * p + 1) c2 s x hfn hbody hp.condR h ρ a w Q hA hK)
        · rename_i e _ _ hb
          obtain ⟨y, h1, h2, h3⟩ := join_leaf (Ω := Ω) (B := B) (T' := T') h
          have hK' : Goes Ω η B T' ρ a.defers y.2 (Q y.1.exit') := by rw [h2]; exact hK.lead h3 (by rw [hA.inv.len]; exact Nat.le_refl _)
          simp only [T.leaf] at h1
          refine wp_cond_split (bool_of hA.fr hb) (fun ht => ?_) (fun ht => ?_)
          · rw [if_pos ht] at h1; exact ihC f fn body (2 * p) c1 s y hfn hbody hp.condL h1 ρ a w Q hA hK'
          · rw [if_neg (by simp [ht])] at h1; exact ihC f fn body (2 * p + 1) c2 s y hfn hbody hp.condR h1 ρ a w Q hA hK'
        · simp [T.leaf] at h
      | block id c =>
        simp only [evCode, leaf_bind] at h
        obtain ⟨y, h1, h2⟩ := h
        simp only [T.leaf, Option.some.injEq] at h2; subst h2
        refine wp_block (ihC f fn body (2 * p) c s y hfn hbody hp.block h1 ρ a w _ hA ?_)
        obtain ⟨x1, s1⟩ := y
        intro ρ' a' w' q1 q2 q3
        have := hK ρ' a' w' q1 q2 q3
        cases x1 with
        | normal => exact this
        | ret => exact this
        | exit i =>
          simp only [X.exit', Exit.inBlock] at this ⊢
          by_cases hi : i = id
          · subst hi
            rw [if_pos rfl]
            simpa using this
          · rw [if_neg hi]
            have hb : Nat.beq i id = false := by
              cases hbb : Nat.beq i id with
              | false => rfl
              | true => exact absurd (Nat.eq_of_beq_eq_true hbb) hi
            rw [hb] at this
            exact this
      | loop c =>
        simp only [evCode] at h
        split at h
        · rename_i t ht
          exact hZ.loop f p s _ x ht h fn body c hfn hbody hp ρ a w Q hA hK
        · exact wp_loop_rounds n (ihL f fn body p c s x hfn hbody hp h ρ a w Q hA hK)
      | region id ops draw =>
        simp only [evCode] at h
        obtain ⟨y, h1, h2, h3⟩ := join_leaf (Ω := Ω) (B := B) (T' := T') h
        unfold T.leaves at h1
        rw [leaf_bind] at h1
        obtain ⟨s1, h4, h5⟩ := h1
        simp only [T.leaf, Option.some.injEq] at h5; subst h5
        have hK' : Goes Ω η B T' ρ a.defers s1 (Q .normal) := by
          have := hK.lead h3 (by rw [hA.inv.len]; exact Nat.le_refl _)
          rw [← h2] at this
          exact this
        cases draw with
        | true =>
          simp only [if_true] at h4
          exact evDraw_sound ihF hm h4 hA hK' id
        | false =>
          simp only [Bool.false_eq_true, if_false] at h4
          exact wp_region_list (evOps_sound ihF h4 hA hK')
      | rangeFunc => simp [evCode, T.leaf] at h
      | scope => simp [evCode, T.leaf] at h
      | goto => simp [evCode, T.leaf] at h
      | refuse => simp [evCode, T.leaf] at h
    · intro f fn body p c s x hfn hbody hp h ρ a w Q hA hK
      simp only [evRounds, leaf_bind] at h
      obtain ⟨y, h1, h2⟩ := h
      rw [rounds_succ]
      refine ihC f fn body (2 * p) c s y hfn hbody hp.loop h1 ρ a w _ hA ?_
      obtain ⟨x1, s1⟩ := y
      intro ρ' a' w' q1 q2 q3
      cases x1 with
      | normal =>
        simp only [X.exit', Exit.then]
        exact ihL f fn body p c s1 x hfn hbody hp h2 ρ' a' w' Q q2 (hK.next q1 q3)
      | ret =>
        simp only [T.leaf, Option.some.injEq] at h2; subst h2
        exact hK ρ' a' w' q1 q2 q3
      | exit id =>
        simp only [T.leaf, Option.some.injEq] at h2; subst h2
        exact hK ρ' a' w' q1 q2 q3
    · intro f args m vm h ρ vs w hI hr
      simp only [evFun] at h
      split at h
      · rename_i t ht
        split at h
        · rename_i hent
          obtain ⟨⟨fn, c⟩, he⟩ := Option.isSome_iff_exists.1 hent
          exact ⟨(entry_run he).2.2.2, hZ.call f args m _ vm ht h ρ vs w hI hr⟩
        · simp [T.leaf] at h
      · exact ihB f args m vm h ρ vs w hI hr
    · intro f args m vm h ρ vs w hI hr
      simp only [evBody] at h
      split at h
      · rename_i fn c hent
        obtain ⟨hf, hb, hle, hcf⟩ := entry_run hent
        refine ⟨hcf, ?_⟩
        rw [leaf_bind] at h
        obtain ⟨z, h1, h2⟩ := h
        obtain ⟨y, h3, h4, h5⟩ := join_leaf (Ω := Ω) (B := B) (T' := T') h1
        rw [leaf_bind] at h3
        obtain ⟨x, h6, h7⟩ := h3
        have hlen : vs.length = args.length := hr.length
        have hA : At Ω η B T' ρ ⟨args ++ List.replicate (fn.ntmps - args.length) (.tup []), m⟩ (({ tmps := (⟨vs⟩ : Array Value) ++ Array.replicate (fn.ntmps - (⟨vs⟩ : Array Value).size) undef, defers := [] } : Act).tmps.toList) w := by
          refine ⟨hI, ?_⟩
          simp only [Array.toList_append, Array.toList_replicate, List.size_toArray, hlen]
          exact Rels.append hr (replicate_rel _)
        refine calls_of_wp hf hb (ihC f fn c 1 c _ x hf hb .root h6 ρ _ w _ hA ?_)
        intro ρ' a' w' q1 q2 q3
        have fin : x.1 ≠ .exit 0 ∧ (∀ id, x.1 ≠ .exit id) → ∃ v, resultSV P fn x.2 = some v ∧ y = (.ret, canon m.length ⟨[v], x.2.mem⟩) := by
          intro hx
          split at h7
          · rename_i id hid; exact absurd hid (hx.2 id)
          · split at h7
            · rename_i v hv
              simp only [T.leaf, Option.some.injEq] at h7
              exact ⟨v, hv, h7.symm⟩
            · simp [T.leaf] at h7
        have main : (∀ id, x.1 ≠ .exit id) → a'.defers = [] ∧ ∃ v, (results fn a'.tmps).run P w' = .ok v w' ∧ ∃ u ρ', Ending.returned v = .returned u ∧ ρ <+: ρ' ∧ Inv Ω η B T' ρ' vm.2 w' ∧ Rel η ρ' vm.1 u := by
          intro hx
          obtain ⟨v, hv, rfl⟩ := fin ⟨hx 0, hx⟩
          obtain ⟨u, g1, g2⟩ := result_rel hv q2
          refine ⟨q3, u, g2, u, ?_⟩
          have hA1 : At Ω η B T' ρ' ⟨[v], x.2.mem⟩ [u] w' := ⟨q2.inv, Rels.cons g1 Rels.nil⟩
          obtain ⟨ρ2, p1, hA2⟩ := At.canon m.length hA1 q1 (by rw [hI.len]; exact Nat.le_refl _)
          obtain ⟨ρ3, r1, r2⟩ := h5 ρ ρ2 [u] w' p1 (by rw [hI.len]; exact Nat.le_refl _) hA2
          refine ⟨ρ3, rfl, r1, ?_⟩
          unfold unpackRes at h2
          split at h2
          · rename_i v2 hv2
            simp only [T.leaf, Option.some.injEq] at h2; subst h2
            have hfr := r2.fr
            rw [hv2] at hfr
            exact ⟨r2.inv, (Rels.inv hfr).1⟩
          · simp [T.leaf] at h2
        obtain ⟨x1, s1⟩ := x
        cases x1 with
        | normal => exact main (by simp)
        | ret => exact main (by simp)
        | exit id => simp [T.leaf] at h7
      · simp [T.leaf] at h

/-- **WHAT THE EXECUTOR FINDS IS SO.** -/
theorem run_sound (hm : P.follows .mixedOrders = true) (hZ : ExtOK P Ω η B T' Z) {n : Nat} {f : FuncId} {args : List SV} {m : List Chunk} {vm : SV × List Chunk} (h : (evFun P Z n f args m).leaf η = some vm)
    {ρ : List Hd} {vs : List Value} {w : World} (hI : Inv Ω η B T' ρ m w) (hr : Rels η ρ args vs) :
    Calls P f ⟨vs⟩ w fun e w' => ∃ u ρ', e = .returned u ∧ ρ <+: ρ' ∧ Inv Ω η B T' ρ' vm.2 w' ∧ Rel η ρ' vm.1 u :=
  ((ev_sound hm hZ n).2.2.1 f args m vm h ρ vs w hI hr).2
theorem body_sound (hm : P.follows .mixedOrders = true) (hZ : ExtOK P Ω η B T' Z) {n : Nat} {f : FuncId} {args : List SV} {m : List Chunk} {vm : SV × List Chunk} (h : (evBody P Z n f args m).leaf η = some vm)
    {ρ : List Hd} {vs : List Value} {w : World} (hI : Inv Ω η B T' ρ m w) (hr : Rels η ρ args vs) :
    Calls P f ⟨vs⟩ w fun e w' => ∃ u ρ', e = .returned u ∧ ρ <+: ρ' ∧ Inv Ω η B T' ρ' vm.2 w' ∧ Rel η ρ' vm.1 u :=
  ((ev_sound hm hZ n).2.2.2 f args m vm h ρ vs w hI hr).2
end
end Go.Sy
