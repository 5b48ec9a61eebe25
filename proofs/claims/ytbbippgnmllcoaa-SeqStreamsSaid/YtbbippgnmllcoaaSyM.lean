/- The symbolic executor, tenth part: regions. Own work of this session. -/
import Derived.Test.YtbbippgnmllcoaaSyLc
import Derived.Deep.Quiet
set_option linter.unusedVariables false
set_option linter.unusedSimpArgs false
namespace Go.Sy

theorem leaf_bind {α β : Type} {η : Env} {f : α → T β} {b : β} : ∀ {t : T α}, (t.bind f).leaf η = some b ↔ ∃ a, t.leaf η = some a ∧ (f a).leaf η = some b
  | .ret a => by simp [T.bind, T.leaf]
  | .ite c t e => by
    simp only [T.bind, T.leaf]
    cases hc : (c.den η).toB
    · simp [leaf_bind (t := e)]
    · simp [leaf_bind (t := t)]
  | .asrt c t => by
    simp only [T.bind, T.leaf]
    cases hc : (c.den η).toB
    · simp
    · simp [leaf_bind (t := t)]
  | .fail w => by simp [T.bind, T.leaf]

section
variable {P : Program} {Ω : Om} {η : Env} {B : World} {T' : Nat → Prop} {ρ ρ0 : List Hd} {ops : Array Oper}

theorem put_at {s : St} {a : Act} {w' : World} {m : List Chunk} (hf : Rels η ρ s.fr a.tmps.toList) (dst : Option Tmp) {v : SV} {u : Value} (hu : Rel η ρ v u) (hI : Inv Ω η B T' ρ m w') :
    At Ω η B T' ρ (put s dst v m) (a.put dst u).tmps.toList w' := by
  refine ⟨hI, ?_⟩
  cases dst with
  | none => exact hf
  | some d =>
    simp only [put, Act.put, Array.toList_setIfInBounds]
    exact hf.set d hu
theorem put_defers {a : Act} (dst : Option Tmp) (u : Value) : (a.put dst u).defers = a.defers := by cases dst <;> rfl

theorem guarded_leaf {s s2 : St} {o : Oper} {run : St → T St} (h : (guarded ops s o run).leaf η = some s2) {a : Act} (hf : Rels η ρ s.fr a.tmps.toList) :
    ∃ s1 : St, s1.mem = s.mem ∧ Rels η ρ s1.fr a.tmps.toList ∧
      ((Region.wanted o (yielded ops a.tmps) = true ∧ (run s1).leaf η = some s2) ∨ (Region.wanted o (yielded ops a.tmps) = false ∧ s2 = put s1 o.dst (.tup []) s1.mem)) := by
  unfold guarded at h
  have hwant : ∀ j want, o.guard = some (j, want) → Region.wanted o (yielded ops a.tmps) = (yielded ops a.tmps j == some want) := by intro j want hg; simp [Region.wanted, hg]
  have skipd : ∀ (s : St), (T.ret (put s o.dst (.tup []) s.mem) : T St).leaf η = some s2 → s2 = put s o.dst (.tup []) s.mem := by
    intro s hs; simp only [T.leaf, Option.some.injEq] at hs; exact hs.symm
  unfold guardOf at h
  split at h
  · -- no guard
    rename_i hg
    refine ⟨s, rfl, hf, .inl ⟨?_, h⟩⟩
    have : o.guard = none := by
      cases hgd : o.guard with
      | none => rfl
      | some p => rw [hgd] at hg; cases hg
    simp [Region.wanted, this]
  · rename_i want hg
    cases hgd : o.guard with
    | none => rw [hgd] at hg; cases hg
    | some p =>
      obtain ⟨j, want'⟩ := p
      rw [hgd] at hg
      simp only [Option.some.injEq, Prod.mk.injEq] at hg
      obtain ⟨hd, rfl⟩ := hg
      refine ⟨s, rfl, hf, .inr ⟨?_, skipd s h⟩⟩
      rw [hwant j want' hgd]
      simp [yielded, hd]
  · rename_i g want hg
    cases hgd : o.guard with
    | none => rw [hgd] at hg; cases hg
    | some p =>
      obtain ⟨j, want'⟩ := p
      rw [hgd] at hg
      simp only [Option.some.injEq, Prod.mk.injEq] at hg
      obtain ⟨hd, rfl⟩ := hg
      have hw := hwant j want' hgd
      have hy : ∀ b, a.tmps[g]? = some (.bool b) → yielded ops a.tmps j = some b := by intro b hb; simp [yielded, hd, hb]
      have hy0 : ∀ vs, a.tmps[g]? = some (.tuple vs) → yielded ops a.tmps j = none := by intro b hb; simp [yielded, hd, hb]
      split at h
      · rename_i b hb
        obtain ⟨v, h1, h2⟩ := hf.get hb
        simp only [Rel, E.den, toB_b] at h2; subst h2
        have h3 := hy b (by simpa using h1)
        rw [h3] at hw
        split at h
        · rename_i hbw
          have : b = want' := by simpa using hbw
          subst this
          exact ⟨s, rfl, hf, .inl ⟨by rw [hw]; simp, h⟩⟩
        · rename_i hbw
          exact ⟨s, rfl, hf, .inr ⟨by rw [hw]; simpa using hbw, skipd s h⟩⟩
      · rename_i e _ hb
        obtain ⟨v, h1, h2⟩ := hf.get hb
        simp only [Rel] at h2; subst h2
        have h3 := hy _ (by simpa using h1)
        rw [h3] at hw
        have hset : ∀ b, (e.den η).toB = b → Rels η ρ (s.fr.set g (.bool (.lit (.b b)))) a.tmps.toList := by
          intro b hbb
          have := hf.set g (x := .bool (.lit (.b b))) (v := .bool (e.den η).toB) (by simp only [Rel, E.den, toB_b]; rw [hbb])
          have hid : a.tmps.toList.set g (.bool (e.den η).toB) = a.tmps.toList := by
            have hlt := (List.getElem?_eq_some_iff.1 h1)
            obtain ⟨hlt, he⟩ := hlt
            rw [← he]; exact List.set_getElem_self hlt
          rw [hid] at this; exact this
        simp only [T.leaf] at h
        split at h
        · rename_i ht
          rw [ht] at hw
          split at h
          · rename_i hwt
            exact ⟨⟨s.fr.set g (.bool eTrue), s.mem⟩, rfl, hset true ht, .inl ⟨by rw [hw, hwt]; rfl, h⟩⟩
          · rename_i hwt
            exact ⟨⟨s.fr.set g (.bool eTrue), s.mem⟩, rfl, hset true ht, .inr ⟨by rw [hw]; cases want' <;> simp_all, skipd _ h⟩⟩
        · rename_i ht
          have ht : (e.den η).toB = false := by simpa using ht
          rw [ht] at hw
          split at h
          · rename_i hwt
            exact ⟨⟨s.fr.set g (.bool eFalse), s.mem⟩, rfl, hset false ht, .inr ⟨by rw [hw, hwt]; rfl, skipd _ h⟩⟩
          · rename_i hwt
            exact ⟨⟨s.fr.set g (.bool eFalse), s.mem⟩, rfl, hset false ht, .inl ⟨by rw [hw]; cases want' <;> simp_all, h⟩⟩
      · rename_i hb
        obtain ⟨v, h1, h2⟩ := hf.get hb
        simp only [Rel] at h2; obtain ⟨vs, rfl, h2⟩ := h2
        have h3 := hy0 _ (by simpa using h1)
        rw [h3] at hw
        exact ⟨s, rfl, hf, .inr ⟨by rw [hw]; simp, skipd s h⟩⟩
      · simp [T.leaf] at h

theorem upon_of_gives {o : Oper} {a : Act} {vm : SV × List Chunk} {w : World} {next : Act → World → Prop} {Q : Exit → Act → World → Prop} {r : Result Next} (h : OpGives P Ω η B T' ρ vm w r)
    (hn : ∀ ρ' u w', ρ <+: ρ' → Inv Ω η B T' ρ' vm.2 w' → Rel η ρ' vm.1 u → next (a.put o.dst u) w') : o.upon P a next Q r := by
  cases r with
  | halt x w' => simp only [OpGives] at h
  | ok n w' =>
    cases n <;> simp only [OpGives] at h
    case value u => obtain ⟨ρ', h1, h2, h3⟩ := h; exact hn ρ' u w' h1 h2 h3
    case skip => obtain ⟨ρ', h1, h2, h3⟩ := h; exact hn ρ' undef w' h1 h2 h3
    case enter f args =>
      obtain ⟨rfl, h⟩ := h
      exact h.mono fun e w' ⟨u, ρ', he, h1, h2, h3⟩ => by subst he; exact hn ρ' u w' h1 h2 h3

/-- What stands behind is asked of every frame and world that is as the state says. -/
def Goes (Ω : Om) (η : Env) (B : World) (T' : Nat → Prop) (ρ : List Hd) (d : List Deferred) (s : St) (K : Act → World → Prop) : Prop :=
  ∀ ρ' a' w', ρ <+: ρ' → At Ω η B T' ρ' s a'.tmps.toList w' → a'.defers = d → K a' w'

variable {call : FuncId → List SV → List Chunk → T (SV × List Chunk)}

/-- One guarded operation, by the leaf. -/
theorem step_sound (hcall : CallSound P Ω η B T' call) {s s2 : St} {o : Oper} (h : (guarded ops s o fun s => evOp1 P call s o).leaf η = some s2) {a : Act} {w : World} (hA : At Ω η B T' ρ s a.tmps.toList w)
    {Q : Exit → Act → World → Prop} {K : Act → World → Prop} (hK : Goes Ω η B T' ρ a.defers s2 K) :
    if Region.wanted o (yielded ops a.tmps) then o.wp P a w K Q else K (a.put o.dst undef) w := by
  obtain ⟨s1, e1, f1, h | h⟩ := guarded_leaf h hA.fr
  · rw [if_pos h.1]
    have h2 := h.2
    unfold evOp1 at h2
    rw [leaf_bind] at h2
    obtain ⟨vm, g1, g2⟩ := h2
    simp only [T.leaf, Option.some.injEq] at g2; subst g2
    have hI := hA.inv; rw [← e1] at hI
    unfold Oper.wp
    refine upon_of_gives (evOp_gives hcall hI f1 g1) fun ρ' u w' p1 p2 p3 => ?_
    exact hK ρ' _ w' p1 (put_at (Rels.mono p1 _ _ f1) o.dst p3 p2) (put_defers _ _)
  · rw [if_neg (by simp [h.1])]
    obtain ⟨hw, rfl⟩ := h
    have hI := hA.inv; rw [← e1] at hI
    exact hK ρ _ w (List.prefix_refl _) (put_at f1 o.dst undef_rel hI) (put_defers _ _)

theorem evOps_sound (hcall : CallSound P Ω η B T' call) {Q : Exit → Act → World → Prop} : ∀ {l : List Oper} {s s2 : St}, (evOps P call ops l s).leaf η = some s2 → ∀ {ρ : List Hd} {a : Act} {w : World}, At Ω η B T' ρ s a.tmps.toList w →
    Goes Ω η B T' ρ a.defers s2 (Q .normal) → wpList P ops Q l a w
  | [], s, s2, h, ρ, a, w, hA, hK => by
    simp only [evOps, T.leaf, Option.some.injEq] at h; subst h
    exact hK ρ a w (List.prefix_refl _) hA rfl
  | o :: rest, s, s2, h, ρ, a, w, hA, hK => by
    simp only [evOps, leaf_bind] at h
    obtain ⟨s1, h1, h2⟩ := h
    refine wpList_step fun K hKK => ?_
    refine step_sound hcall h1 hA fun ρ' a' w' p1 p2 p3 => hKK _ _ ?_
    exact evOps_sound hcall h2 p2 fun ρ'' a'' w'' q1 q2 q3 => hK ρ'' a'' w'' (p1.trans q1) q2 (q3.trans p3)

/-! ### A region that draws: nothing is turned -/
theorem eqbMem_eq : ∀ (m m' : List Chunk), eqbMem m m' = true → m = m'
  | [], m', h => by cases m' <;> simp [eqbMem] at h ⊢
  | c :: m, m', h => by
    cases m' with
    | nil => cases c <;> simp [eqbMem] at h
    | cons c' m' =>
      cases c <;> cases c' <;> simp only [eqbMem, Bool.and_eq_true, Bool.false_eq_true] at h
      · rw [eqbs_eq _ _ h.1.2, Nat.eq_of_beq_eq_true h.1.1, eqbMem_eq m m' h.2]
      · rw [ET.eqb_eq _ _ h.1.1, eqE_eq h.1.2, eqbMem_eq m m' h.2]
      · rw [eqE_eq h.1, eqbMem_eq m m' h.2]
      · rw [eqE_eq h.1.2, Nat.eq_of_beq_eq_true h.1.1, eqbMem_eq m m' h.2]
      · rw [eqbMem_eq m m' h]

/-- Two runs of one operation from worlds that are both as the state says. -/
theorem quiet_op (hcall : CallSound P Ω η B T' call) {s : St} {a : Act} {w0 : World} (hI : Inv Ω η B T' ρ s.mem w0) (hf : Rels η ρ s.fr a.tmps.toList) {o : Oper} {vm : SV × List Chunk}
    (h : (evOp P call s o).leaf η = some vm) (hq : (noStore o.op && eqbMem vm.2 s.mem && sure vm.1) = true) :
    ∃ v, Rel η ρ vm.1 v ∧ ∀ w, Inv Ω η B T' ρ s.mem w → o.quietAt P a (fun w' => Inv Ω η B T' ρ s.mem w') w v := by
  simp only [Bool.and_eq_true] at hq
  obtain ⟨⟨hst, hm⟩, hs⟩ := hq
  have hm := eqbMem_eq _ _ hm
  have key : ∀ {ρ' : List Hd} {w' : World}, ρ <+: ρ' → Inv Ω η B T' ρ' vm.2 w' → ρ' = ρ := by
    intro ρ' w' hp hi
    have h1 := hi.len; rw [hm, ← hI.len] at h1
    exact (hp.eq_of_length h1.symm).symm
  have one : ∀ {x : Operand}, Rel η ρ (opd s x) (a.eval x) := fun {x} => opd_rel hf x
  have bad : ∀ {x : Chunk}, s.mem ++ [x] = s.mem → False := by
    intro x hx
    have := congrArg List.length hx; simp at this
  unfold evOp at h
  split at h
  · rename_i e v he
    obtain ⟨ht, hl⟩ := leaf_need h
    simp only [T.leaf, Option.some.injEq] at hl; subst hl
    obtain ⟨u, h1, h2⟩ := evVal_rel hI hf he ht
    refine ⟨u, h1, fun w hw => ?_⟩
    obtain ⟨u', h1', h2'⟩ := evVal_rel hw hf he ht
    have : u' = u := Rel.uniq _ _ _ hs h1' h1
    subst this
    unfold Oper.quietAt; rw [h2']; exact ⟨rfl, rfl⟩
  · have callCase : ∀ (c : Call), o.op = .call c → (match evCallee s c with | some (f, args) => if noTop args then call f args s.mem else .fail "call: an argument" | none => .fail "call: whom" : T (SV × List Chunk)).leaf η = some vm →
        ∃ v, Rel η ρ vm.1 v ∧ ∀ w, Inv Ω η B T' ρ s.mem w → o.quietAt P a (fun w' => Inv Ω η B T' ρ s.mem w') w v := by
      intro c ho h
      split at h
      · rename_i f args hcl
        split at h
        · obtain ⟨vs, h1, h2⟩ := callee_rel (P := P) hf hcl
          obtain ⟨_, g0⟩ := hcall f args s.mem vm h ρ vs w0 hI h1
          obtain ⟨e0, w1, _, ⟨u, ρ', _, p1, p2, p3⟩, _⟩ := g0 []
          have hρ := key p1 p2
          subst hρ
          refine ⟨u, p3, fun w hw => ?_⟩
          obtain ⟨g1, g2⟩ := hcall f args s.mem vm h ρ' vs w hw h1
          have : (execOp a.eval o).run P w = .ok (.enter f ⟨vs⟩) w := by
            unfold execOp; rw [ho]; rw [← g1 ⟨vs⟩ w, ← h2 o.type w]
          unfold Oper.quietAt; rw [this]
          refine ⟨rfl, g2.mono fun e w' ⟨u', ρ'', he, q1, q2, q3⟩ => ?_⟩
          have hρ := key q1 q2
          subst hρ
          have : u' = u := Rel.uniq _ _ _ hs q3 p3
          subst this
          exact ⟨he, by rw [hm] at q2; exact q2⟩
        · simp [T.leaf] at h
      · simp [T.leaf] at h
    split at h
    · rename_i t x y ho; rw [ho] at hst; simp [noStore] at hst
    · split at h
      · simp only [T.leaf, Option.some.injEq] at h; subst h
        exact (bad hm).elim
      · simp [T.leaf] at h
    · split at h
      · split at h
        · simp only [T.leaf, Option.some.injEq] at h; subst h
          exact (bad hm).elim
        · simp [T.leaf] at h
      · simp [T.leaf] at h
    · rename_i ho; rw [ho] at hst; simp [noStore] at hst
    · rename_i ho; rw [ho] at hst; simp [noStore] at hst
    · rename_i ho; rw [ho] at hst; simp [noStore] at hst
    · rename_i ho; rw [ho] at hst; simp [noStore] at hst
    · unfold evConvB at h
      split at h
      · split at h
        · simp only [T.leaf, Option.some.injEq] at h; subst h
          exact (bad hm).elim
        · simp [T.leaf] at h
      · simp [T.leaf] at h
    · rename_i ho; rw [ho] at hst; simp [noStore] at hst
    · rename_i ho; rw [ho] at hst; simp [noStore] at hst
    · rename_i c _ _ ho
      exact callCase c ho h
    · simp [T.leaf] at h

theorem evQuiet_sound (hcall : CallSound P Ω η B T' call) {m : List Chunk} {Q : Act → Prop} {w0 : World} (hI : Inv Ω η B T' ρ m w0) : ∀ {l : List Oper} {s s2 : St}, s.mem = m → (evQuiet P call ops l s).leaf η = some s2 →
    ∀ {a : Act}, Rels η ρ s.fr a.tmps.toList → (∀ a', s2.mem = m → Rels η ρ s2.fr a'.tmps.toList → a'.defers = a.defers → Q a') → wpQuiet P ops (fun w' => Inv Ω η B T' ρ m w') Q l a
  | [], s, s2, hm, h, a, hf, hK => by
    simp only [evQuiet, T.leaf, Option.some.injEq] at h; subst h
    exact hK a hm hf rfl
  | o :: rest, s, s2, hm, h, a, hf, hK => by
    simp only [evQuiet, leaf_bind] at h
    obtain ⟨s1, h1, h2⟩ := h
    refine wpQuiet_step fun K hKK => ?_
    obtain ⟨s0, e1, f1, h | h⟩ := guarded_leaf h1 hf
    · rw [if_pos h.1]
      have h3 := h.2
      rw [leaf_bind] at h3
      obtain ⟨vm, g1, g2⟩ := h3
      by_cases hq : (noStore o.op && eqbMem vm.2 s0.mem && sure vm.1) = true
      · rw [if_pos hq] at g2
        simp only [T.leaf, Option.some.injEq] at g2; subst g2
        have e2 : s0.mem = m := e1.trans hm
        obtain ⟨v, hv, hall⟩ := quiet_op hcall (by rw [e2]; exact hI) f1 g1 hq
        refine ⟨v, fun w hw => by have := hall w (by rw [e2]; exact hw); rw [e2] at this; exact this, hKK _ ?_⟩
        have hat := put_at (m := m) (w' := w0) f1 o.dst hv hI
        exact evQuiet_sound hcall hI (s := put s0 o.dst vm.1 s0.mem) (by simp [put, e2]) h2 (a := a.put o.dst v) (by have := hat.fr; simpa [put] using this) fun a' q1 q2 q3 => hK a' q1 q2 (q3.trans (put_defers _ _))
      · rw [if_neg hq] at g2; simp [T.leaf] at g2
    · rw [if_neg (by simp [h.1])]
      obtain ⟨hw, rfl⟩ := h
      have e2 : s0.mem = m := e1.trans hm
      have hat := put_at (m := m) (w' := w0) f1 o.dst (v := .tup []) undef_rel hI
      refine hKK _ (evQuiet_sound hcall hI (s := put s0 o.dst (.tup []) s0.mem) (by simp [put, e2]) h2 (a := a.put o.dst undef) (by have := hat.fr; simpa [put] using this) fun a' q1 q2 q3 => hK a' q1 q2 (q3.trans (put_defers _ _)))
end
end Go.Sy
