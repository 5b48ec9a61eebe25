/- The symbolic executor, sixteenth part: contracts of loops and of calls. Own work of this session. -/
import Derived.Test.YtbbippgnmllcoaaSyR
set_option linter.unusedVariables false
set_option linter.unusedSimpArgs false
namespace Go.Sy

/-! ### How a template fits: a search, and the check -/
structure Fnd where
  π : List (Nat × Option Nat)
  σ : List (Nat × E)
def lk {α : Type} (n : Nat) : List (Nat × α) → Option α
  | [] => none
  | (m, a) :: r => if Nat.beq m n then some a else lk n r
def Fnd.bindC (f : Fnd) (c : Nat) (k : Option Nat) : Fnd := if (lk c f.π).isSome then f else ⟨(c, k) :: f.π, f.σ⟩
def Fnd.bindE (f : Fnd) : E → E → Fnd
  | .var i, e => if (lk i f.σ).isSome then f else ⟨f.π, (i, e) :: f.σ⟩
  | _, _ => f
mutual
def findSV (f : Fnd) : SV → SV → Fnd
  | .int _ t, .int _ e => f.bindE t (wI e)
  | .bool t, .bool e => f.bindE t (wB e)
  | .str t, .str e => f.bindE t (wS e)
  | .ptr c _, .ptr c' _ => f.bindC c (some c')
  | .slice c _ _ _, .slice c' _ _ _ => f.bindC c (some c')
  | .asl n c _ o l, .asl n' c' _ o' l' => (((f.bindC c (some c')).bindE n (wB n')).bindE o (wI o')).bindE l (wI l')
  | .asl n c _ o l, .snil => (((f.bindC c none).bindE n eFalse).bindE o (eInt 0)).bindE l (eInt 0)
  | .eptr c _ i _, .eptr c' _ i' _ => (f.bindC c (some c')).bindE i (wI i')
  | .rsl _ e, .rsl _ e' => f.bindE e (wL e')
  | .rsl _ e, .snil => f.bindE e eNil
  | .rptr _ e i _, .rptr _ e' i' _ => (f.bindE e (wL e')).bindE i (wI i')
  | .hnd c, .hnd c' => f.bindC c (some c')
  | .clo _ l, .clo _ l' => findSVs f l l'
  | .agg l, .agg l' => findSVs f l l'
  | .tup l, .tup l' => findSVs f l l'
  | _, _ => f
def findSVs (f : Fnd) : List SV → List SV → Fnd
  | x :: l, y :: l' => findSVs (findSV f x y) l l'
  | _, _ => f
end
def findChunk (f : Fnd) : Chunk → Chunk → Fnd
  | .row l _, .row l' _ => findSVs f l l'
  | .arr _ e, .arr _ e' => f.bindE e (wL e')
  | .map e, .map e' => f.bindE e (wL e')
  | .opq _ e, .opq _ e' => f.bindE e e'
  | _, _ => f
def findMem (m : List Chunk) : Nat → List Chunk → Fnd → Fnd
  | _, [], f => f
  | c, ch :: r, f => findMem m (c + 1) r (match lk c f.π with
    | some (some k) => match m[k]? with | some ch' => findChunk f ch ch' | none => f
    | some none => findChunk f ch (.arr (.one .bool) eNil)
    | none => f)
def zeroE : Srt → E | .i => eInt 0 | .b => eFalse | .s => .lit (.s []) | .l => eNil | .d => eInt 0
def fitI (init : List (Nat × Option Nat)) (tp : Tpl) (s : St) : Option (List (Option Nat) × List E) :=
  let f0 := findSVs ⟨init, []⟩ tp.st.fr s.fr
  let f1 := findMem s.mem 0 tp.st.mem f0
  let f2 := findMem s.mem 0 tp.st.mem f1
  let π := (List.range tp.st.mem.length).map fun c => (lk c f2.π).getD none
  let σ := tp.srts.zipIdx.map fun p => (lk p.2 f2.σ).getD (zeroE p.1)
  if chkSt π σ tp s then some (π, σ) else none
def fit (tp : Tpl) (s : St) : Option (List (Option Nat) × List E) := fitI [] tp s
theorem fitI_spec {init : List (Nat × Option Nat)} {tp : Tpl} {s : St} {π : List (Option Nat)} {σ : List E} (h : fitI init tp s = some (π, σ)) : ChkSt π σ tp s := by
  unfold fitI at h
  simp only at h
  split at h
  · rename_i hc
    simp only [Option.some.injEq, Prod.mk.injEq] at h
    obtain ⟨rfl, rfl⟩ := h
    exact chkSt_spec hc
  · cases h
theorem fit_spec {tp : Tpl} {s : St} {π : List (Option Nat)} {σ : List E} (h : fit tp s = some (π, σ)) : ChkSt π σ tp s := fitI_spec h
/-- Every chunk that keeps its place lies in its place. -/
def headsOk (mode : List Mode) (π : List (Option Nat)) : Bool :=
  (List.range mode.length).all fun c => match mode[c]? with
    | some md => !keepM md || (match π[c]? with | some (some c') => Nat.beq c' c | _ => false)
    | none => true
theorem headsOk_spec {mode : List Mode} {π : List (Option Nat)} (h : headsOk mode π = true) {c : Nat} {md : Mode} (h1 : mode[c]? = some md) (h2 : keepM md = true) : π[c]? = some (some c) := by
  unfold headsOk at h
  rw [List.all_eq_true] at h
  have := h c (List.mem_range.2 (List.getElem?_eq_some_iff.1 h1).1)
  rw [h1] at this
  simp only [h2, Bool.not_true, Bool.false_or] at this
  split at this
  · rename_i c' hc; rw [Nat.eq_of_beq_eq_true this] at hc; exact hc
  · cases this
def keptAt (mode : List Mode) : List (Nat × Option Nat) := mode.zipIdx.filterMap fun p => if keepM p.1 then some (p.2, some p.2) else none
def fitR (mode : List Mode) (tp : Tpl) (s : St) : Option (List E) :=
  match fitI (keptAt mode) tp s with
  | some (π, σ) => if headsOk mode π then some σ else none
  | none => none

/-! ### One round, as a tree of new values -/
structure Con where
  K : Nat
  tp : Tpl
  inv : List Nat                            -- variables that stay what they are
  outs : List (X × Tpl)
def isVar (srts : List Srt) (σ : List E) (i j : Nat) : Bool :=
  match σ[i]? with
  | some (.var n) => Nat.beq n j
  | some (.o1 o (.var n)) => Nat.beq n j && (match o, srts[j]? with | .asI, some .i => true | .asB, some .b => true | .asS, some .s => true | .asL, some .l => true | _, _ => false)
  | _ => false
/-- What is said to be passed on is passed on. -/
def passOk (srts : List Srt) (inv : List Nat) (pass : List (Option Nat)) (σ : List E) : Bool :=
  (List.range pass.length).all fun i => match pass[i]? with | some (some j) => inv.any (Nat.beq j) && isVar srts σ i j | _ => true
def invOk (srts : List Srt) (inv : List Nat) (σ : List E) : Bool := inv.all fun j => isVar srts σ j j
def findExit (srts : List Srt) (mode : List Mode) (inv : List Nat) (x : X × St) : Nat → List (X × Tpl) → Option (Nat × List E)
  | _, [] => none
  | j, (e, tx) :: r => if e = x.1 then match fitR mode tx x.2 with
      | some σ => if passOk srts inv tx.pass σ then some (j, σ) else findExit srts mode inv x (j + 1) r
      | none => findExit srts mode inv x (j + 1) r
    else findExit srts mode inv x (j + 1) r
def outT (k : Con) (x : X × St) : T (Nat × List E) :=
  match findExit k.tp.srts k.tp.mode k.inv x 0 k.outs with | some (j, σ) => .ret (j + 1, σ) | none => .fail "way out"
def roundT (k : Con) (x : X × St) : T (Nat × List E) :=
  match x.1 with
  | .normal => match fitR k.tp.mode k.tp x.2 with | some σ => if invOk k.tp.srts k.inv σ then .ret (0, σ) else .fail "again: turned" | none => .fail "again"
  | _ => outT k x
def stepL (P : Program) (Z : Ext) (f n p : Nat) (c : Code) (k : Con) : T (Nat × List E) := (evCode P Z f n (2 * p) c k.tp.st).bind (roundT k)
def stepC (P : Program) (Z : Ext) (f n : Nat) (k : Con) : T (Nat × List E) := (evBody P Z n f k.tp.st.fr k.tp.st.mem).bind fun vm => outT k (.ret, ⟨[vm.1], vm.2⟩)
def noR : Nat → Option (List Value) := fun _ => none
def leafV (η : Env) : T (Nat × List E) → Option (Nat × List D)
  | .ret x => some (x.1, x.2.map (E.den η))
  | .ite c t e => if (c.den η).toB then leafV η t else leafV η e
  | .asrt c t => if (c.den η).toB then leafV η t else none
  | .fail _ => none
theorem leafV_eq (η : Env) : ∀ t : T (Nat × List E), leafV η t = (t.leaf η).map fun x => (x.1, x.2.map (E.den η))
  | .ret x => rfl
  | .ite c t e => by simp only [leafV, T.leaf, leafV_eq η t, leafV_eq η e]; split <;> rfl
  | .asrt c t => by simp only [leafV, T.leaf, leafV_eq η t]; split <;> rfl
  | .fail _ => rfl
def stepV (F : Nat → D → D) (t : T (Nat × List E)) (l : List D) : Option (Nat × List D) := leafV (envL F noR l) t
def iterV (step : List D → Option (Nat × List D)) : Nat → List D → Option (Nat × List D)
  | 0, _ => none
  | n + 1, l => match step l with | some (0, l') => iterV step n l' | some (j + 1, l') => some (j, l') | none => none
theorem den_R (F : Nat → D → D) (R R' : Nat → Option (List Value)) (l : List D) : ∀ e : E, e.den (envL F R l) = e.den (envL F R' l)
  | .lit _ => rfl
  | .var _ => rfl
  | .o1 o a => by simp only [E.den, den_R F R R' l a]
  | .o2 o a b => by simp only [E.den, den_R F R R' l a, den_R F R R' l b]
  | .o3 o a b c => by simp only [E.den, den_R F R R' l a, den_R F R R' l b, den_R F R R' l c]
  | .fn k a => by simp only [E.den, den_R F R R' l a]; rfl
theorem leaf_R {α : Type} (F : Nat → D → D) (R R' : Nat → Option (List Value)) (l : List D) : ∀ t : T α, t.leaf (envL F R l) = t.leaf (envL F R' l)
  | .ret _ => rfl
  | .ite c t e => by simp only [T.leaf, den_R F R R' l c, leaf_R F R R' l t, leaf_R F R R' l e]
  | .asrt c t => by simp only [T.leaf, den_R F R R' l c, leaf_R F R R' l t]
  | .fail _ => rfl
theorem stepV_R {F : Nat → D → D} {t : T (Nat × List E)} {l : List D} {j : Nat} {ys : List D} (h : stepV F t l = some (j, ys)) (R : Nat → Option (List Value)) :
    ∃ σ, t.leaf (envL F R l) = some (j, σ) ∧ ys = σ.map (E.den (envL F R l)) := by
  unfold stepV at h
  rw [leafV_eq, Option.map_eq_some_iff] at h
  obtain ⟨⟨j', σ⟩, h1, h2⟩ := h
  simp only [Prod.mk.injEq] at h2
  obtain ⟨rfl, rfl⟩ := h2
  refine ⟨σ, (leaf_R F _ _ l t).trans h1, ?_⟩
  apply List.map_congr_left
  intro e _
  exact den_R F _ _ l e

theorem findExit_spec {srts : List Srt} {mode : List Mode} {inv : List Nat} {x : X × St} : ∀ {outs : List (X × Tpl)} {j0 j : Nat} {σ : List E}, findExit srts mode inv x j0 outs = some (j, σ) →
    ∃ i tx, j = j0 + i ∧ outs[i]? = some (x.1, tx) ∧ fitR mode tx x.2 = some σ ∧ passOk srts inv tx.pass σ = true
  | [], _, _, _, h => by simp [findExit] at h
  | (e, tx) :: r, j0, j, σ, h => by
    have next : findExit srts mode inv x (j0 + 1) r = some (j, σ) → ∃ i tx', j = j0 + i ∧ ((e, tx) :: r)[i]? = some (x.1, tx') ∧ fitR mode tx' x.2 = some σ ∧ passOk srts inv tx'.pass σ = true := by
      intro h
      obtain ⟨i, tx', h1, h2, h3⟩ := findExit_spec h
      exact ⟨i + 1, tx', by omega, by simpa using h2, h3⟩
    simp only [findExit] at h
    split at h
    · rename_i he
      split at h
      · rename_i σ' hf
        split at h
        · rename_i hp
          simp only [Option.some.injEq, Prod.mk.injEq] at h
          obtain ⟨rfl, rfl⟩ := h
          exact ⟨0, tx, rfl, by simp [he], hf, hp⟩
        · exact next h
      · exact next h
    · exact next h
theorem outT_spec {k : Con} {x : X × St} {η : Env} {j : Nat} {σ : List E} (h : (outT k x).leaf η = some (j, σ)) : ∃ i tx, j = i + 1 ∧ k.outs[i]? = some (x.1, tx) ∧ fitR k.tp.mode tx x.2 = some σ ∧ passOk k.tp.srts k.inv tx.pass σ = true := by
  unfold outT at h
  split at h
  · rename_i i σ' hf
    simp only [T.leaf, Option.some.injEq, Prod.mk.injEq] at h
    obtain ⟨rfl, rfl⟩ := h
    obtain ⟨i', tx, h1, h2, h3⟩ := findExit_spec hf
    simp only [Nat.zero_add] at h1; subst h1
    exact ⟨i, tx, rfl, h2, h3⟩
  · simp [T.leaf] at h
def hasSrt : Srt → D → Bool
  | .i, .i _ => true | .b, .b _ => true | .s, .s _ => true | .l, .ls _ => true | .d, _ => true | _, _ => false
def typed : List Srt → List D → Prop
  | [], [] => True
  | q :: r, d :: l => hasSrt q d = true ∧ typed r l
  | _, _ => False
theorem typed_get : ∀ {srts : List Srt} {l : List D} {j : Nat} {q : Srt}, typed srts l → srts[j]? = some q → hasSrt q (l.getD j default) = true
  | [], _, _, _, _, h => by simp at h
  | _ :: _, [], _, _, h, _ => h.elim
  | q' :: r, d :: l, 0, q, h, hs => by simp at hs; subst hs; exact h.1
  | q' :: r, d :: l, j + 1, q, h, hs => by simpa using typed_get (j := j) h.2 (by simpa using hs)
theorem isVar_den {srts : List Srt} {σ : List E} {i j : Nat} (h : isVar srts σ i j = true) (F : Nat → D → D) (R : Nat → Option (List Value)) {l : List D} (ht : typed srts l) : (σ.map (E.den (envL F R l))).getD i default = l.getD j default := by
  unfold isVar at h
  split at h
  · rename_i n hn
    have := Nat.eq_of_beq_eq_true h; subst this
    rw [List.getD_eq_getElem?_getD, List.getElem?_map, hn]; rfl
  · rename_i o n hn
    simp only [Bool.and_eq_true] at h
    have := Nat.eq_of_beq_eq_true h.1; subst this
    rw [List.getD_eq_getElem?_getD, List.getElem?_map, hn]
    have h2 := h.2
    show o.den (l.getD n default) = _
    split at h2
    · rename_i hs; have := typed_get ht hs; revert this; cases l.getD n default <;> simp [hasSrt, O1.den, D.toI]
    · rename_i hs; have := typed_get ht hs; revert this; cases l.getD n default <;> simp [hasSrt, O1.den, D.toB]
    · rename_i hs; have := typed_get ht hs; revert this; cases l.getD n default <;> simp [hasSrt, O1.den, D.toS]
    · rename_i hs; have := typed_get ht hs; revert this; cases l.getD n default <;> simp [hasSrt, O1.den, D.toL]
    · cases h2
  · cases h
theorem typed_of {η : Env} : ∀ {srts : List Srt} {σ : List E}, σ.length = srts.length → (∀ (i : Nat) (e : E) (s' : Srt), σ[i]? = some e → srts[i]? = some s' → s' = .d ∨ e.srt = s') → typed srts (σ.map (E.den η))
  | [], [], _, _ => trivial
  | [], _ :: _, h, _ => by simp at h
  | _ :: _, [], h, _ => by simp at h
  | q :: r, e :: σ, h, hs => by
    refine ⟨?_, typed_of (by simpa using h) fun i e' s' h1 h2 => hs (i + 1) e' s' (by simpa using h1) (by simpa using h2)⟩
    rcases hs 0 e q rfl rfl with rfl | h0
    · cases e.den η <;> rfl
    · have := srt_den η e
      rw [h0] at this
      cases q <;> first | (obtain ⟨n, hn⟩ := this; rw [hn]; rfl) | (cases e.den η <;> rfl)
theorem ChkSt.typed {π : List (Option Nat)} {σ : List E} {tp : Tpl} {s : St} (h : ChkSt π σ tp s) (η : Env) : Sy.typed tp.srts (σ.map (E.den η)) := by
  refine typed_of h.nv fun i e s' h1 h2 => ?_
  have hs := h.srt
  unfold srtOk at hs
  rw [List.all_eq_true] at hs
  have := hs i (List.mem_range.2 (List.getElem?_eq_some_iff.1 h2).1)
  rw [h1, h2] at this
  simpa using this

/-- The passed values. -/
def Passed (inv : List Nat) (pass : List (Option Nat)) (l ys : List D) : Prop := ∀ i j : Nat, pass[i]? = some (some j) → j ∈ inv ∧ ys.getD i default = l.getD j default
theorem passOk_spec {srts : List Srt} {inv : List Nat} {pass : List (Option Nat)} {σ : List E} (h : passOk srts inv pass σ = true) (F : Nat → D → D) (R : Nat → Option (List Value)) {l : List D} (ht : typed srts l) : Passed inv pass l (σ.map (E.den (envL F R l))) := by
  intro i j hij
  unfold passOk at h
  rw [List.all_eq_true] at h
  have := h i (List.mem_range.2 (List.getElem?_eq_some_iff.1 hij).1)
  rw [hij] at this
  simp only [Bool.and_eq_true, List.any_eq_true] at this
  obtain ⟨⟨j', h1, h2⟩, h3⟩ := this
  have := Nat.eq_of_beq_eq_true h2; subst this
  exact ⟨h1, isVar_den h3 F R ht⟩
theorem invOk_spec {srts : List Srt} {inv : List Nat} {σ : List E} (h : invOk srts inv σ = true) (F : Nat → D → D) (R : Nat → Option (List Value)) {l : List D} (ht : typed srts l) : ∀ j ∈ inv, (σ.map (E.den (envL F R l))).getD j default = l.getD j default := by
  intro j hj
  unfold invOk at h
  rw [List.all_eq_true] at h
  exact isVar_den (h j hj) F R ht

section
variable {P : Program} {Ω : Om} {F : Nat → D → D} {Z : Ext} {k : Con}
/-- What is asked of those who answer besides, whatever the variables are. -/
def Good (P : Program) (Ω : Om) (F : Nat → D → D) (Z : Ext) : Prop := ∀ (η : Env), η.f = F → ∀ B T', ExtOK P Ω η B T' Z
theorem Good.none : Good P Ω F Ext.none := fun _ _ _ _ => ExtOK.none

/-- The heads of the chunks that keep their places are what they were. -/
def Heads (mode : List Mode) (ρ ρ' : List Hd) : Prop := ∀ (c : Nat) (md : Mode), mode[c]? = some md → keepM md = true → ρ'[c]? = ρ[c]?
theorem Heads.trans {mode : List Mode} {ρ ρ' ρ2 : List Hd} (h : Heads mode ρ ρ') (h' : Heads mode ρ' ρ2) : Heads mode ρ ρ2 := fun c md h1 h2 => (h' c md h1 h2).trans (h c md h1 h2)
theorem fitR_at {η : Env} {B : World} {T' : Nat → Prop} {ρ ρ' : List Hd} {s : St} {vs : List Value} {w : World} {mode : List Mode} {tp : Tpl} {σ : List E} (h : fitR mode tp s = some σ) (hA : At Ω η B T' ρ' s vs w)
    (hp : ρ <+: ρ') (hl : mode.length ≤ ρ.length) : ∃ ρ2, Heads mode ρ ρ2 ∧ At Ω (η.inst σ) B T' ρ2 tp.st vs w ∧ σ.length = tp.srts.length := by
  unfold fitR at h
  split at h
  · rename_i π σ' hf
    split at h
    · rename_i hh
      simp only [Option.some.injEq] at h; subst h
      have hc := fitI_spec hf
      refine ⟨selH π ρ', fun c md h1 h2 => ?_, hA.sel hc, hc.nv⟩
      have hcl : c < ρ.length := Nat.lt_of_lt_of_le (List.getElem?_eq_some_iff.1 h1).1 hl
      have e := getElem?_prefix hp (List.getElem?_eq_getElem hcl)
      rw [selH_get (headsOk_spec hh h1 h2) e, List.getElem?_eq_getElem hcl]
    · cases h
  · cases h
theorem fitR_typed {mode : List Mode} {tp : Tpl} {s : St} {σ : List E} (h : fitR mode tp s = some σ) (η : Env) : typed tp.srts (σ.map (E.den η)) := by
  unfold fitR at h
  split at h
  · rename_i π σ' hf
    split at h
    · simp only [Option.some.injEq] at h; subst h
      exact (fitI_spec hf).typed η
    · cases h
  · cases h
theorem inst_envL {F : Nat → D → D} {R : Nat → Option (List Value)} {l : List D} (σ : List E) : (envL F R l).inst σ = envL F R (σ.map (E.den (envL F R l))) := rfl

/-- The contract's lists fit together. -/
def Con.wf (k : Con) : Bool := Nat.beq k.tp.mode.length k.tp.st.mem.length && k.outs.all fun x => Nat.ble k.tp.st.mem.length x.2.st.mem.length
theorem wf_mode (h : k.wf = true) : k.tp.mode.length = k.tp.st.mem.length := by
  unfold Con.wf at h; simp only [Bool.and_eq_true] at h; exact Nat.eq_of_beq_eq_true h.1
theorem wf_outs (h : k.wf = true) {j : Nat} {x : X × Tpl} (hx : k.outs[j]? = some x) : k.tp.st.mem.length ≤ x.2.st.mem.length := by
  unfold Con.wf at h; simp only [Bool.and_eq_true, List.all_eq_true] at h
  exact Nat.le_of_ble_eq_true (h.2 x (List.mem_of_getElem? hx))

/-- A loop's rounds, as the iteration of the step. -/
theorem rounds_ok (hm : P.follows .mixedOrders = true) (hG : Good P Ω F Z) (hwf : k.wf = true) {f n p : Nat} {fn : Func} {body c : Code} (hfn : P.funcs[f]? = some fn) (hbody : fn.body = some body) (hpath : PathOf body p (.loop c))
    {R : Nat → Option (List Value)} {B : World} {T' : Nat → Prop} : ∀ (N : Nat) (l : List D) (j : Nat) (ys : List D), typed k.tp.srts l → iterV (stepV F (stepL P Z f n p c k)) N l = some (j, ys) →
    ∃ e tx, k.outs[j]? = some (e, tx) ∧ ys.length = tx.srts.length ∧ Passed k.inv tx.pass l ys ∧ ∀ (ρ : List Hd) (a : Act) (w : World) (Q : Exit → Act → World → Prop), At Ω (envL F R l) B T' ρ k.tp.st a.tmps.toList w →
      (∀ ρ' a' w', Heads k.tp.mode ρ ρ' → At Ω (envL F R ys) B T' ρ' tx.st a'.tmps.toList w' → a'.defers = a.defers → Q e.exit' a' w') → Code.rounds P c Q N a w
  | 0, l, j, ys, _, h => by simp [iterV] at h
  | N + 1, l, j, ys, ht, h => by
    simp only [iterV] at h
    have step : ∀ j' l', stepV F (stepL P Z f n p c k) l = some (j', l') → ∃ x σ, (evCode P Z f n (2 * p) c k.tp.st).leaf (envL F R l) = some x ∧ (roundT k x).leaf (envL F R l) = some (j', σ) ∧ l' = σ.map (E.den (envL F R l)) := by
      intro j' l' hs
      obtain ⟨σ, h1, h2⟩ := stepV_R hs R
      unfold stepL at h1
      rw [leaf_bind] at h1
      obtain ⟨x, h3, h4⟩ := h1
      exact ⟨x, σ, h3, h4, h2⟩
    have hcode := (ev_sound (B := B) (T' := T') hm (hG (envL F R l) rfl B T') n).1
    split at h
    · rename_i l' hs
      obtain ⟨x, σ, h1, h2, rfl⟩ := step 0 l' hs
      obtain ⟨hinv, hft⟩ : invOk k.tp.srts k.inv σ = true ∧ fitR k.tp.mode k.tp x.2 = some σ := by
        unfold roundT at h2
        split at h2
        · split at h2
          · rename_i hf
            split at h2
            · rename_i hi
              simp only [T.leaf, Option.some.injEq, Prod.mk.injEq, true_and] at h2; subst h2; exact ⟨hi, hf⟩
            · simp [T.leaf] at h2
          · simp [T.leaf] at h2
        · obtain ⟨i, tx', e1, _⟩ := outT_spec h2; cases e1
      obtain ⟨e, tx, g1, g2, gp, g3⟩ := rounds_ok hm hG hwf (n := n) hfn hbody hpath (R := R) (B := B) (T' := T') N _ j ys (fitR_typed hft _) h
      refine ⟨e, tx, g1, g2, fun i j' hij => ⟨(gp i j' hij).1, (gp i j' hij).2.trans (invOk_spec hinv F R ht j' (gp i j' hij).1)⟩, fun ρ a w Q hA hQ => ?_⟩
      rw [rounds_succ]
      refine hcode f fn body (2 * p) c k.tp.st x hfn hbody hpath.loop h1 ρ a w _ hA ?_
      intro ρ' a' w' q1 q2 q3
      obtain ⟨x1, s1⟩ := x
      unfold roundT at h2
      cases x1 with
      | normal =>
        simp only at h2
        split at h2
        · rename_i σ' hf
          rw [show (if invOk k.tp.srts k.inv σ' then T.ret (0, σ') else .fail "again: turned" : T (Nat × List E)).leaf (envL F R l) = some (0, σ) ↔ (invOk k.tp.srts k.inv σ' = true ∧ σ' = σ) by split <;> simp_all [T.leaf]] at h2
          obtain ⟨_, rfl⟩ := h2
          simp only [X.exit', Exit.then]
          obtain ⟨ρ2, r1, r2, _⟩ := fitR_at hf q2 q1 (by rw [wf_mode hwf, hA.inv.len]; exact Nat.le_refl _)
          rw [inst_envL] at r2
          exact g3 ρ2 a' w' Q r2 fun ρ3 a3 w3 u1 u2 u3 => hQ ρ3 a3 w3 (r1.trans u1) u2 (u3.trans q3)
        · simp [T.leaf] at h2
      | ret => obtain ⟨i, tx', e1, _⟩ := outT_spec h2; cases e1
      | exit id => obtain ⟨i, tx', e1, _⟩ := outT_spec h2; cases e1
    · rename_i j' l' hs
      simp only [Option.some.injEq, Prod.mk.injEq] at h
      obtain ⟨rfl, rfl⟩ := h
      obtain ⟨x, σ, h1, h2, rfl⟩ := step _ _ hs
      obtain ⟨x1, s1⟩ := x
      have hne : x1 ≠ .normal := by
        rintro rfl
        unfold roundT at h2
        simp only at h2
        split at h2
        · split at h2
          · simp [T.leaf] at h2
          · simp [T.leaf] at h2
        · simp [T.leaf] at h2
      have h3 : (outT k (x1, s1)).leaf (envL F R l) = some (j' + 1, σ) := by
        unfold roundT at h2
        cases x1 with
        | normal => exact absurd rfl hne
        | ret => exact h2
        | exit id => exact h2
      obtain ⟨i, tx, e1, e2, e3, e4⟩ := outT_spec h3
      obtain rfl : j' = i := by omega
      have hlen : (σ.map (E.den (envL F R l))).length = tx.srts.length := by
        unfold fitR at e3
        split at e3
        · rename_i π σ' hf
          split at e3
          · simp only [Option.some.injEq] at e3; subst e3
            simpa using (fitI_spec hf).nv
          · cases e3
        · cases e3
      refine ⟨x1, tx, e2, hlen, passOk_spec e4 F R ht, fun ρ a w Q hA hQ => ?_⟩
      rw [rounds_succ]
      refine hcode f fn body (2 * p) c k.tp.st (x1, s1) hfn hbody hpath.loop h1 ρ a w _ hA ?_
      intro ρ' a' w' q1 q2 q3
      obtain ⟨ρ2, r1, r2, _⟩ := fitR_at e3 q2 q1 (by rw [wf_mode hwf, hA.inv.len]; exact Nat.le_refl _)
      rw [inst_envL] at r2
      have := hQ ρ2 a' w' r1 r2 q3
      cases x1 with
      | normal => exact absurd rfl hne
      | ret => exact this
      | exit id => exact this
    · cases h

/-! ### The contract at work -/
def vals (K : Nat) (a : E) (σ : List E) (pass : List (Option Nat)) (n : Nat) : List E :=
  (List.range n).map fun i => match pass[i]? with | some (some j) => σ.getD j (.lit default) | _ => .o1 (.at i) (.o1 .asL (.fn (K + 2) a))
def Con.choose (k : Con) (m : List Chunk) (π : List (Option Nat)) (σ : List E) (a : E) : Nat → List (X × Tpl) → T (X × St)
  | _, [] => .fail "no way out"
  | _, [(e, tx)] => .ret (e, backSt π k.tp.mode m tx.st (vals k.K a σ tx.pass tx.srts.length))
  | j, (e, tx) :: b :: r => .cond (mk2 .eq (wI (.fn (k.K + 1) a)) (eInt j)) (.ret (e, backSt π k.tp.mode m tx.st (vals k.K a σ tx.pass tx.srts.length))) (Con.choose k m π σ a (j + 1) (b :: r))
def Con.res (k : Con) (s : St) : Option (T (X × St)) :=
  match fit k.tp s with
  | some (π, σ) => some (.need (wB (.fn k.K (mkRow σ))) (k.choose s.mem π σ (mkRow σ) 0 k.outs))
  | none => none
theorem choose_leaf {m : List Chunk} {π : List (Option Nat)} {σ : List E} {a : E} {η : Env} : ∀ {outs : List (X × Tpl)} {j0 i : Nat} {e : X} {tx : Tpl} {y : X × St}, outs[i]? = some (e, tx) → ((E.fn (k.K + 1) a).den η).toI = ((j0 + i : Nat) : Int) →
    (k.choose m π σ a j0 outs).leaf η = some y → y = (e, backSt π k.tp.mode m tx.st (vals k.K a σ tx.pass tx.srts.length))
  | [], _, _, _, _, _, h, _, _ => by simp at h
  | [(e1, tx1)], j0, i, e, tx, y, h, hj, hy => by
      simp only [Con.choose, T.leaf, Option.some.injEq] at hy
      cases i with
      | zero => simp at h; obtain ⟨rfl, rfl⟩ := h; exact hy.symm
      | succ i => simp at h
  | (e1, tx1) :: b :: r, j0, i, e, tx, y, h, hj, hy => by
      simp only [Con.choose] at hy
      have hcond : ∀ {c : E} {t u : T (X × St)}, (T.cond c t u).leaf η = if (c.den η).toB then t.leaf η else u.leaf η := by
        intro c t u
        unfold T.cond
        split
        · rfl
        · rfl
        · rfl
      have hv : ((mk2 .eq (wI (.fn (k.K + 1) a)) (eInt (j0 : Int))).den η).toB = (((j0 + i : Nat) : Int) == (j0 : Int)) := by
        rw [den_mk2]
        show (((wI (.fn (k.K + 1) a)).den η).toI == (j0 : Int)) = _
        rw [den_wI, hj]
      rw [hcond, hv] at hy
      cases i with
      | zero =>
        simp at h; obtain ⟨rfl, rfl⟩ := h
        simp [T.leaf] at hy
        exact hy.symm
      | succ i =>
        have h' : (b :: r)[i]? = some (e, tx) := by simpa using h
        have hb : (((j0 + (i + 1) : Nat) : Int) == (j0 : Int)) = false := by simp; omega
        rw [hb, if_neg (by simp)] at hy
        exact choose_leaf h' (by rw [hj]; congr 1; omega) hy
theorem vals_map {η : Env} {K : Nat} {a : E} {σ : List E} {inv : List Nat} {pass : List (Option Nat)} {ys : List D} (h : η.f (K + 2) (a.den η) = .ls ys) (hp : Passed inv pass (σ.map (E.den η)) ys) : (vals K a σ pass ys.length).map (E.den η) = ys := by
  unfold vals
  apply List.ext_getElem?
  intro i
  rw [List.map_map, List.getElem?_map]
  rcases Nat.lt_or_ge i ys.length with hi | hi
  · rw [List.getElem?_range hi, List.getElem?_eq_getElem hi]
    simp only [Option.map_some, Function.comp_apply, Option.some.injEq]
    split
    · rename_i j hj
      rw [getD_map_den, ← (hp i j hj).2, List.getD_eq_getElem?_getD, List.getElem?_eq_getElem hi]; rfl
    · simp [E.den, O1.den, h, toL_ls, List.getD_eq_getElem?_getD, List.getElem?_eq_getElem hi]
  · rw [List.getElem?_eq_none (by simpa using hi), List.getElem?_eq_none hi]; rfl
/-- What the contract's functions are, of the steps of a loop. -/
def SpecL (F : Nat → D → D) (k : Con) (t : T (Nat × List E)) : Prop :=
  ∀ l, typed k.tp.srts l → (F k.K (.ls l)).toB = true → ∃ (N j : Nat) (ys : List D), iterV (stepV F t) N l = some (j, ys) ∧ (F (k.K + 1) (.ls l)).toI = (j : Int) ∧ F (k.K + 2) (.ls l) = .ls ys
/-- The same of a call. -/
def SpecC (F : Nat → D → D) (k : Con) (t : T (Nat × List E)) : Prop :=
  ∀ l, typed k.tp.srts l → (F k.K (.ls l)).toB = true → ∃ (j : Nat) (ys : List D), stepV F t l = some (j + 1, ys) ∧ (F (k.K + 1) (.ls l)).toI = (j : Int) ∧ F (k.K + 2) (.ls l) = .ls ys
theorem need_leaf {α : Type} {η : Env} {c : E} {t : T α} {y : α} (h : (T.need c t).leaf η = some y) : (c.den η).toB = true ∧ t.leaf η = some y := by
  unfold T.need at h
  split at h
  · exact ⟨rfl, h⟩
  · simp only [T.leaf] at h
    split at h
    · rename_i hc; exact ⟨hc, h⟩
    · cases h

theorem loop_good (hm : P.follows .mixedOrders = true) (hG : Good P Ω F Z) (hwf : k.wf = true) {f n p : Nat} {fn : Func} {body c : Code} (hfn : P.funcs[f]? = some fn) (hbody : fn.body = some body) (hpath : PathOf body p (.loop c))
    (hS : SpecL F k (stepL P Z f n p c k)) {η : Env} (hη : η.f = F) {B : World} {T' : Nat → Prop} {s : St} {t : T (X × St)} {y : X × St} (h : k.res s = some t) (hy : t.leaf η = some y)
    {ρ : List Hd} {a : Act} {w : World} {Q : Exit → Act → World → Prop} (hA : At Ω η B T' ρ s a.tmps.toList w) (hQ : Goes Ω η B T' ρ a.defers y.2 (Q y.1.exit')) : (Code.loop c).wp P Q a w := by
  unfold Con.res at h
  split at h
  · rename_i π σ hf
    simp only [Option.some.injEq] at h; subst h
    obtain ⟨h1, h2⟩ := need_leaf hy
    have hc := fit_spec hf
    rw [den_wB] at h1
    simp only [E.den, den_mkRow, hη] at h1
    obtain ⟨N, j, ys, g1, g2, g3⟩ := hS _ (hc.typed η) h1
    obtain ⟨e, tx, g4, g5, gp, g6⟩ := rounds_ok hm hG hwf (n := n) hfn hbody hpath (R := η.R) (B := w) (T' := Own π k.tp.mode (fun c x => (hA.inv.foot.choose) c x)) N _ j ys (hc.typed η) g1
    obtain ⟨f1, f2, f3⟩ := hA.inv.foot.choose_spec
    have hres := choose_leaf (y := y) g4 (by simp only [E.den, den_mkRow, hη]; rw [g2]; simp) h2
    have hin := hA.focus hc f1 f2 f3
    rw [show η.inst σ = envL F η.R (σ.map (E.den η)) by unfold Env.inst; rw [hη]] at hin
    refine wp_loop_rounds N (g6 _ a w Q hin fun ρ2 a' w' q1 q2 q3 => ?_)
    have hθ : η.inst (vals k.K (mkRow σ) σ tx.pass tx.srts.length) = envL F η.R ys := by
      unfold Env.inst
      rw [← g5, vals_map (by simp only [den_mkRow, hη]; exact g3) gp, hη]
    rw [← hθ] at q2
    obtain ⟨ρ', r1, r2⟩ := hA.back hc f1 f2 f3 q2 (fun c hk => by
      obtain ⟨md, k', m1, m2, _, _⟩ := kept_spec (n0 := 0) hk
      exact q1 c md m1 m2) (wf_outs hwf g4) (wf_mode hwf)
    subst hres
    exact hQ ρ' a' w' r1 r2 q3
  · cases h

def Con.resC (k : Con) (args : List SV) (m : List Chunk) : Option (T (SV × List Chunk)) :=
  match k.res ⟨args, m⟩ with
  | some t => some (t.bind unpackRes)
  | none => none
theorem call_good (hm : P.follows .mixedOrders = true) (hG : Good P Ω F Z) (hwf : k.wf = true) {f n : Nat} (hS : SpecC F k (stepC P Z f n k)) {η : Env} (hη : η.f = F) {B : World} {T' : Nat → Prop} {args : List SV} {m : List Chunk}
    {t : T (SV × List Chunk)} {vm : SV × List Chunk} (h : k.resC args m = some t) (hy : t.leaf η = some vm) {ρ : List Hd} {vs : List Value} {w : World} (hI : Inv Ω η B T' ρ m w) (hr : Rels η ρ args vs) :
    Calls P f ⟨vs⟩ w fun e w' => ∃ u ρ', e = .returned u ∧ ρ <+: ρ' ∧ Inv Ω η B T' ρ' vm.2 w' ∧ Rel η ρ' vm.1 u := by
  unfold Con.resC at h
  split at h
  · rename_i t' ht
    simp only [Option.some.injEq] at h; subst h
    rw [leaf_bind] at hy
    obtain ⟨y, hy, hun⟩ := hy
    unfold Con.res at ht
    split at ht
    · rename_i π σ hf
      simp only [Option.some.injEq] at ht; subst ht
      obtain ⟨h1, h2⟩ := need_leaf hy
      have hc := fit_spec hf
      rw [den_wB] at h1
      simp only [E.den, den_mkRow, hη] at h1
      obtain ⟨j, ys, g1, g2, g3⟩ := hS _ (hc.typed η) h1
      have hA : At Ω η B T' ρ ⟨args, m⟩ vs w := ⟨hI, hr⟩
      obtain ⟨F0, f1, f2, f3⟩ := hI.foot
      have hin := hA.focus hc f1 f2 f3
      rw [show η.inst σ = envL F η.R (σ.map (E.den η)) by unfold Env.inst; rw [hη]] at hin
      obtain ⟨σ', l1, rfl⟩ := stepV_R g1 η.R
      unfold stepC at l1
      rw [leaf_bind] at l1
      obtain ⟨vm', l2, l3⟩ := l1
      obtain ⟨i, tx, e1, e2, e3, e4⟩ := outT_spec l3
      obtain rfl : j = i := by omega
      have hres := choose_leaf (y := y) e2 (by simp only [E.den, den_mkRow, hη]; rw [g2]; simp) h2
      refine (body_sound hm (hG (envL F η.R (σ.map (E.den η))) rfl w (Own π k.tp.mode F0)) l2 hin.inv hin.fr).mono fun e w' ⟨u, ρ1, p1, p2, p3, p4⟩ => ?_
      have hX : At Ω (envL F η.R (σ.map (E.den η))) w (Own π k.tp.mode F0) ρ1 ⟨[vm'.1], vm'.2⟩ [u] w' := ⟨p3, Rels.cons p4 Rels.nil⟩
      obtain ⟨ρ2, r1, r2, r3⟩ := fitR_at e3 hX p2 (by rw [wf_mode hwf, hin.inv.len]; exact Nat.le_refl _)
      rw [inst_envL] at r2
      have hθ : η.inst (vals k.K (mkRow σ) σ tx.pass tx.srts.length) = envL F η.R (σ'.map (E.den (envL F η.R (σ.map (E.den η))))) := by
        unfold Env.inst
        rw [← r3, ← List.length_map (E.den (envL F η.R (σ.map (E.den η)))), vals_map (by simp only [den_mkRow, hη]; exact g3) (passOk_spec e4 F η.R (hc.typed η)), hη]
      rw [← hθ] at r2
      obtain ⟨ρ', q1, q2⟩ := hA.back hc f1 f2 f3 r2 (fun c hk => by
        obtain ⟨md, k', m1, m2, _, _⟩ := kept_spec (n0 := 0) hk
        exact r1 c md m1 m2) (wf_outs hwf e2) (wf_mode hwf)
      subst hres
      unfold unpackRes at hun
      split at hun
      · rename_i v2 hv2
        simp only [T.leaf, Option.some.injEq] at hun; subst hun
        have hfr := q2.fr
        rw [hv2] at hfr
        exact ⟨u, ρ', p1, q1, q2.inv, (Rels.inv hfr).1⟩
      · simp [T.leaf] at hun
    · cases ht
  · cases h

/-! ### One after the other -/
def Ext.addLoop (Z : Ext) (f p : Nat) (k : Con) : Ext :=
  ⟨Z.call, fun f' p' s => if Nat.beq f' f && Nat.beq p' p then match k.res s with | some t => some t | .none => Z.loop f' p' s else Z.loop f' p' s⟩
def Ext.addCall (Z : Ext) (f : Nat) (k : Con) : Ext :=
  ⟨fun f' args m => if Nat.beq f' f then match k.resC args m with | some t => some t | .none => Z.call f' args m else Z.call f' args m, Z.loop⟩
theorem Good.addLoop (hm : P.follows .mixedOrders = true) (hG : Good P Ω F Z) (hwf : k.wf = true) {f n p : Nat} {fn : Func} {body c : Code} (hfn : P.funcs[f]? = some fn) (hbody : fn.body = some body) (hpath : PathOf body p (.loop c))
    (hS : SpecL F k (stepL P Z f n p c k)) : Good P Ω F (Z.addLoop f p k) := by
  intro η hη B T'
  refine ⟨(hG η hη B T').call, ?_⟩
  intro f' p' s t y h hy fn' body' c' hfn' hbody' hpath' ρ a w Q hA hQ
  simp only [Ext.addLoop] at h
  split at h
  · rename_i hfp
    simp only [Bool.and_eq_true] at hfp
    have e1 := Nat.eq_of_beq_eq_true hfp.1
    have e2 := Nat.eq_of_beq_eq_true hfp.2
    subst e1 e2
    rw [hfn] at hfn'; injection hfn' with hfn'; subst hfn'
    rw [hbody] at hbody'; injection hbody' with hbody'; subst hbody'
    have hcc := PathOf.one p' p' (Nat.le_refl _) hpath hpath'
    injection hcc with hcc; subst hcc
    split at h
    · rename_i t' ht
      simp only [Option.some.injEq] at h; subst h
      exact loop_good hm hG hwf hfn hbody hpath hS hη ht hy hA hQ
    · exact (hG η hη B T').loop f' p' s t y h hy fn body c hfn hbody hpath ρ a w Q hA hQ
  · exact (hG η hη B T').loop f' p' s t y h hy fn' body' c' hfn' hbody' hpath' ρ a w Q hA hQ
theorem Good.addCall (hm : P.follows .mixedOrders = true) (hG : Good P Ω F Z) (hwf : k.wf = true) {f n : Nat} (hS : SpecC F k (stepC P Z f n k)) : Good P Ω F (Z.addCall f k) := by
  intro η hη B T'
  refine ⟨?_, (hG η hη B T').loop⟩
  intro f' args m t vm h hy ρ vs w hI hr
  simp only [Ext.addCall] at h
  split at h
  · rename_i hff
    have e1 := Nat.eq_of_beq_eq_true hff
    subst e1
    split at h
    · rename_i t' ht
      simp only [Option.some.injEq] at h; subst h
      exact call_good hm hG hwf hS hη ht hy hI hr
    · exact (hG η hη B T').call f' args m t vm h hy ρ vs w hI hr
  · exact (hG η hη B T').call f' args m t vm h hy ρ vs w hI hr
end

/-! ### By path -/
def bodyOf (P : Program) (f : Nat) : Code := match P.funcs[f]? with | some fn => (match fn.body with | some c => c | none => .skip) | none => .skip
def loopAt (P : Program) (f p : Nat) : Code := match codeAt (bodyOf P f) 300 p with | some (.loop c) => c | _ => .skip
def loopOk (P : Program) (f p : Nat) : Bool :=
  match P.funcs[f]? with
  | some fn => fn.body.isSome && (match codeAt (bodyOf P f) 300 p with | some (.loop _) => true | _ => false) && Nat.ble 1 p
  | none => false
theorem Good.loop {P : Program} {Ω : Om} {F : Nat → D → D} {Z : Ext} {k : Con} (hm : P.follows .mixedOrders = true) (hG : Good P Ω F Z) {f n p : Nat} (hl : loopOk P f p = true) (hwf : k.wf = true)
    (hS : SpecL F k (stepL P Z f n p (loopAt P f p) k)) : Good P Ω F (Z.addLoop f p k) := by
  unfold loopOk at hl
  split at hl
  · rename_i fn hfn
    simp only [Bool.and_eq_true] at hl
    obtain ⟨⟨h1, h2⟩, h3⟩ := hl
    obtain ⟨body, hb⟩ := Option.isSome_iff_exists.1 h1
    have hbody : bodyOf P f = body := by simp [bodyOf, hfn, hb]
    rw [hbody] at h2
    split at h2
    · rename_i c hc
      have hla : loopAt P f p = c := by simp [loopAt, hbody, hc]
      rw [hla] at hS
      exact Good.addLoop hm hG hwf hfn hb (PathOf.at hc (Nat.le_of_ble_eq_true h3)) hS
    · cases h2
  · cases hl
theorem Good.call {P : Program} {Ω : Om} {F : Nat → D → D} {Z : Ext} {k : Con} (hm : P.follows .mixedOrders = true) (hG : Good P Ω F Z) {f n : Nat} (hwf : k.wf = true) (hS : SpecC F k (stepC P Z f n k)) : Good P Ω F (Z.addCall f k) :=
  Good.addCall hm hG hwf hS
end Go.Sy
