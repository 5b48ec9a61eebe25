/- The symbolic executor, fourteenth part: templates: a part of what is told, with variables for its terms; what is found of a template holds of whatever fits it. Own work of this session. -/
import Derived.Test.YtbbippgnmllcoaaSyP
set_option linter.unusedVariables false
set_option linter.unusedSimpArgs false
namespace Go.Sy

/-! ### Variables that are told by a list -/
def envL (F : Nat → D → D) (R : Nat → Option (List Value)) (l : List D) : Env := ⟨fun n => l.getD n default, F, R⟩
def Env.inst (η : Env) (σ : List E) : Env := envL η.f η.R (σ.map (E.den η))
def instE (θ : List E) : E → E
  | .lit d => .lit d
  | .var n => θ.getD n (.lit default)
  | .o1 o a => mk1 o (instE θ a)
  | .o2 o a b => mk2 o (instE θ a) (instE θ b)
  | .o3 o a b c => mk3 o (instE θ a) (instE θ b) (instE θ c)
  | .fn k a => .fn k (instE θ a)
theorem getD_map_den (η : Env) (θ : List E) (n : Nat) : (θ.getD n (.lit default)).den η = (θ.map (E.den η)).getD n default := by
  rw [List.getD_eq_getElem?_getD, List.getD_eq_getElem?_getD, List.getElem?_map]
  cases θ[n]? <;> rfl
theorem den_instE (η : Env) (θ : List E) : ∀ e : E, (instE θ e).den η = e.den (η.inst θ)
  | .lit d => rfl
  | .var n => getD_map_den η θ n
  | .o1 o a => by simp only [instE, den_mk1, E.den, den_instE η θ a]
  | .o2 o a b => by simp only [instE, den_mk2, E.den, den_instE η θ a, den_instE η θ b]
  | .o3 o a b c => by simp only [instE, den_mk3, E.den, den_instE η θ a, den_instE η θ b, den_instE η θ c]
  | .fn k a => by simp only [instE, E.den, den_instE η θ a]; rfl
mutual
def instSV (τ : Nat → Nat) (θ : List E) : SV → SV
  | .top => .top
  | .unk => .unk
  | .int k e => .int k (instE θ e)
  | .bool e => .bool (instE θ e)
  | .str e => .str (instE θ e)
  | .nil => .nil
  | .ptr c o => .ptr (τ c) o
  | .snil => .snil
  | .slice c o l p => .slice (τ c) o l p
  | .asl n c w o l => .asl (instE θ n) (τ c) w (instE θ o) (instE θ l)
  | .eptr c w i j => .eptr (τ c) w (instE θ i) j
  | .rsl t e => .rsl t (instE θ e)
  | .rptr t e i j => .rptr t (instE θ e) (instE θ i) j
  | .hnd c => .hnd (τ c)
  | .fn f => .fn f
  | .clo f l => .clo f (instSVs τ θ l)
  | .agg l => .agg (instSVs τ θ l)
  | .tup l => .tup (instSVs τ θ l)
def instSVs (τ : Nat → Nat) (θ : List E) : List SV → List SV
  | [] => []
  | x :: l => instSV τ θ x :: instSVs τ θ l
end
def instChunk (τ : Nat → Nat) (θ : List E) : Chunk → Chunk
  | .row l t => .row (instSVs τ θ l) t
  | .arr t e => .arr t (instE θ e)
  | .map e => .map (instE θ e)
  | .opq k e => .opq k (instE θ e)
  | .dead => .dead

section
variable {η : Env} {ρ ρ2 : List Hd} {θ : List E} {τ : Nat → Nat}
mutual
theorem Rel.inst (hτ : ∀ c h, ρ2[c]? = some h → ρ[τ c]? = some h) : ∀ (x : SV) (v : Value), Rel (η.inst θ) ρ2 x v → Rel η ρ (instSV τ θ x) v
  | .top, _, _ => by simp only [instSV, Rel]
  | .unk, _, r => by simp only [instSV, Rel] at *; exact r
  | .int .., _, r => by simp only [instSV, Rel, den_instE] at *; exact r
  | .bool _, _, r => by simp only [instSV, Rel, den_instE] at *; exact r
  | .str _, _, r => by simp only [instSV, Rel, den_instE] at *; exact r
  | .nil, _, r => by simp only [instSV, Rel] at *; exact r
  | .ptr .., _, r => by simp only [instSV, Rel] at *; obtain ⟨b, h1, h2⟩ := r; exact ⟨b, hτ _ _ h1, h2⟩
  | .snil, _, r => by simp only [instSV, Rel] at *; exact r
  | .slice .., _, r => by simp only [instSV, Rel] at *; obtain ⟨b, h1, h2⟩ := r; exact ⟨b, hτ _ _ h1, h2⟩
  | .asl .., _, r => by
    simp only [instSV, Rel, den_instE] at *
    split
    · rename_i hn
      rw [if_pos hn] at r
      obtain ⟨b, o, n, off', l, cap, h1, h2⟩ := r
      exact ⟨b, o, n, off', l, cap, hτ _ _ h1, h2⟩
    · rename_i hn
      rw [if_neg hn] at r
      exact r
  | .eptr .., _, r => by simp only [instSV, Rel, den_instE] at *; obtain ⟨b, o, n, k, h1, h2⟩ := r; exact ⟨b, o, n, k, hτ _ _ h1, h2⟩
  | .rsl .., _, r => by simp only [instSV, Rel, den_instE] at *; exact r
  | .rptr .., _, r => by simp only [instSV, Rel, den_instE] at *; exact r
  | .hnd _, _, r => by simp only [instSV, Rel] at *; exact ⟨hτ _ _ r.1, r.2⟩
  | .fn _, _, r => by simp only [instSV, Rel] at *; exact r
  | .clo _ l, _, r => by simp only [instSV, Rel] at *; obtain ⟨vs, h1, h2⟩ := r; exact ⟨vs, h1, Rels.inst hτ l vs h2⟩
  | .agg l, _, r => by simp only [instSV, Rel] at *; obtain ⟨vs, h1, h2⟩ := r; exact ⟨vs, h1, Rels.inst hτ l vs h2⟩
  | .tup l, _, r => by simp only [instSV, Rel] at *; obtain ⟨vs, h1, h2⟩ := r; exact ⟨vs, h1, Rels.inst hτ l vs h2⟩
theorem Rels.inst (hτ : ∀ c h, ρ2[c]? = some h → ρ[τ c]? = some h) : ∀ (l : List SV) (vs : List Value), Rels (η.inst θ) ρ2 l vs → Rels η ρ (instSVs τ θ l) vs
  | [], _, r => by simp only [instSVs, Rels] at *; exact r
  | x :: l, _, r => by simp only [instSVs, Rels] at *; obtain ⟨v, t, h1, h2, h3⟩ := r; exact ⟨v, t, h1, Rel.inst hτ x v h2, Rels.inst hτ l t h3⟩
end
theorem Chunk.holds_inst {Ω : Om} {h : Hd} {F : Nat → Prop} {w : World} (hτ : ∀ c h, ρ2[c]? = some h → ρ[τ c]? = some h) : ∀ {ch : Chunk}, ch.holds Ω (η.inst θ) ρ2 h F w → (instChunk τ θ ch).holds Ω η ρ h F w
  | .row cells ty, r => by
    simp only [instChunk, Chunk.holds] at *
    obtain ⟨b, vs, h1, h2, h3, h4⟩ := r
    exact ⟨b, vs, h1, h2, Rels.inst hτ _ _ h3, h4⟩
  | .arr t e, r => by simp only [instChunk, Chunk.holds, den_instE] at *; exact r
  | .map e, r => by simp only [instChunk, Chunk.holds, den_instE] at *; exact r
  | .opq k e, r => by simp only [instChunk, Chunk.holds, den_instE] at *; exact r
  | .dead, _ => by simp only [instChunk, Chunk.holds]
end

/-! ### What fits a template -/
/-- What becomes of a template's chunk: ghost: its head alone is spoken of; fixed: it is owned, and keeps its head; mobile: it is owned, and goes over into another one. -/
inductive Mode where
  | ghost | fixed | mobile
  deriving DecidableEq, Inhabited
def keepM : Mode → Bool | .mobile => false | _ => true
structure Tpl where
  st : St
  mode : List Mode
  srts : List Srt
  pass : List (Option Nat)                  -- of a way out: which variable of the way in it is
  deriving Inhabited
def chkE (σ : List E) : E → E → Bool
  | .var i, e => match σ[i]? with | some e' => eqE e' e | none => false
  | .lit d, .lit d' => D.eqb d d'
  | _, _ => false
def chkC (π : List (Option Nat)) (c c' : Nat) : Bool := match π[c]? with | some (some k) => Nat.beq k c' | _ => false
mutual
def chkSV (π : List (Option Nat)) (σ : List E) : SV → SV → Bool
  | .top, _ => true
  | .unk, x => x.cellish
  | .int k t, .int k' e => decide (k = k') && chkE σ t (wI e)
  | .bool t, .bool e => chkE σ t (wB e)
  | .str t, .str e => chkE σ t (wS e)
  | .nil, .nil => true
  | .ptr c o, .ptr c' o' => chkC π c c' && Nat.beq o o'
  | .snil, .snil => true
  | .slice c o l p, .slice c' o' l' p' => chkC π c c' && Nat.beq o o' && Nat.beq l l' && Nat.beq p p'
  | .asl n c w o l, .asl n' c' w' o' l' => chkC π c c' && Nat.beq w w' && chkE σ n (wB n') && chkE σ o (wI o') && chkE σ l (wI l')
  | .asl n _ _ _ l, .snil => chkE σ n eFalse && chkE σ l (eInt 0)
  | .eptr c w i j, .eptr c' w' i' j' => chkC π c c' && Nat.beq w w' && chkE σ i (wI i') && Nat.beq j j'
  | .rsl t e, .rsl t' e' => ET.eqb t t' && chkE σ e (wL e')
  | .rsl _ e, .snil => chkE σ e eNil
  | .rptr t e i j, .rptr t' e' i' j' => ET.eqb t t' && chkE σ e (wL e') && chkE σ i (wI i') && Nat.beq j j'
  | .hnd c, .hnd c' => chkC π c c'
  | .fn f, .fn f' => Nat.beq f f'
  | .clo f l, .clo f' l' => Nat.beq f f' && chkSVs π σ l l'
  | .agg l, .agg l' => chkSVs π σ l l'
  | .tup l, .tup l' => chkSVs π σ l l'
  | _, _ => false
def chkSVs (π : List (Option Nat)) (σ : List E) : List SV → List SV → Bool
  | [], [] => true
  | x :: l, y :: l' => chkSV π σ x y && chkSVs π σ l l'
  | _, _ => false
end
def chkChunk (π : List (Option Nat)) (σ : List E) : Chunk → Chunk → Bool
  | .dead, _ => true
  | .row l t, .row l' t' => Nat.beq t t' && chkSVs π σ l l'
  | .arr t e, .arr t' e' => ET.eqb t t' && chkE σ e (wL e')
  | .map e, .map e' => chkE σ e (wL e')
  | .opq k e, .opq k' e' => Nat.beq k k' && chkE σ e e'
  | _, _ => false
def isDead : Chunk → Bool | .dead => true | _ => false
def chkSlot (π : List (Option Nat)) (σ : List E) (m : List Chunk) (md : Mode) (ch : Chunk) (p : Option Nat) : Bool :=
  match p with
  | some k => match md with
    | .ghost => isDead ch && Nat.blt k m.length
    | _ => match m[k]? with | some ch' => chkChunk π σ ch ch' | none => false
  | none => match md, ch with
    | .mobile, .arr _ t => chkE σ t eNil
    | .mobile, .dead => true
    | _, _ => false
def apartP (π : List (Option Nat)) : Bool :=
  (List.range π.length).all fun c => (List.range π.length).all fun d => Nat.beq c d || match π[c]?, π[d]? with | some (some k), some (some k') => !Nat.beq k k' | _, _ => true
def chkSlots (π : List (Option Nat)) (σ : List E) (tp : Tpl) (m : List Chunk) : Bool :=
  (List.range tp.st.mem.length).all fun c => match tp.mode[c]?, tp.st.mem[c]?, π[c]? with | some md, some ch, some p => chkSlot π σ m md ch p | _, _, _ => false
def srtOk (σ : List E) (srts : List Srt) : Bool :=
  (List.range srts.length).all fun i => match σ[i]?, srts[i]? with | some e, some st => decide (st = .d) || decide (e.srt = st) | _, _ => false
def chkSt (π : List (Option Nat)) (σ : List E) (tp : Tpl) (s : St) : Bool :=
  chkSVs π σ tp.st.fr s.fr && Nat.beq π.length tp.st.mem.length && Nat.beq σ.length tp.srts.length && apartP π && chkSlots π σ tp s.mem && srtOk σ tp.srts

def selH (π : List (Option Nat)) (ρ : List Hd) : List Hd := π.map fun | some k => (ρ[k]?).getD .none | none => .none
theorem selH_get {π : List (Option Nat)} {ρ : List Hd} {c k : Nat} {h : Hd} (h1 : π[c]? = some (some k)) (h2 : ρ[k]? = some h) : (selH π ρ)[c]? = some h := by
  simp [selH, List.getElem?_map, h1, h2]
theorem chkC_get {π : List (Option Nat)} {c c' : Nat} (h : chkC π c c' = true) : π[c]? = some (some c') := by
  unfold chkC at h
  split at h
  · rename_i k hk; rw [Nat.eq_of_beq_eq_true h] at hk; exact hk
  · cases h

section
variable {η : Env} {ρ : List Hd} {π : List (Option Nat)} {σ : List E}
theorem chkE_den {t e : E} (h : chkE σ t e = true) : t.den (η.inst σ) = e.den η := by
  unfold chkE at h
  split at h
  · rename_i i
    split at h
    · rename_i e' he
      have := eqE_eq h
      subst this
      show (σ.map (E.den η)).getD i default = _
      rw [List.getD_eq_getElem?_getD, List.getElem?_map, he]; rfl
    · cases h
  · rename_i d d'
    rw [D.eqb_eq _ _ h]; rfl
  · cases h
theorem chkE_I {t e : E} (h : chkE σ t (wI e) = true) : (t.den (η.inst σ)).toI = (e.den η).toI := by rw [chkE_den h, den_wI]
theorem chkE_B {t e : E} (h : chkE σ t (wB e) = true) : (t.den (η.inst σ)).toB = (e.den η).toB := by rw [chkE_den h, den_wB]
theorem chkE_S {t e : E} (h : chkE σ t (wS e) = true) : (t.den (η.inst σ)).toS = (e.den η).toS := by rw [chkE_den h, den_wS]
theorem chkE_L {t e : E} (h : chkE σ t (wL e) = true) : (t.den (η.inst σ)).toL = (e.den η).toL := by rw [chkE_den h, den_wL]
mutual
theorem Rel.sel : ∀ (t x : SV) (v : Value), chkSV π σ t x = true → Rel η ρ x v → Rel (η.inst σ) (selH π ρ) t v
  | .top, _, _, _, _ => by simp only [Rel]
  | .unk, x, v, h, r => by simp only [chkSV] at h; simp only [Rel]; exact Rel.cell h r
  | .int .., x, v, h, r => by
    cases x <;> simp only [chkSV, Bool.false_eq_true, Bool.and_eq_true, decide_eq_true_eq] at h
    obtain ⟨rfl, h⟩ := h
    simp only [Rel] at *
    rw [chkE_I h]; exact r
  | .bool _, x, v, h, r => by
    cases x <;> simp only [chkSV, Bool.false_eq_true] at h
    simp only [Rel] at *
    rw [chkE_B h]; exact r
  | .str _, x, v, h, r => by
    cases x <;> simp only [chkSV, Bool.false_eq_true] at h
    simp only [Rel] at *
    rw [chkE_S h]; exact r
  | .nil, x, v, h, r => by
    cases x <;> simp only [chkSV, Bool.false_eq_true] at h
    simp only [Rel] at *; exact r
  | .ptr .., x, v, h, r => by
    cases x <;> simp only [chkSV, Bool.false_eq_true, Bool.and_eq_true] at h
    simp only [Rel] at *
    obtain ⟨b, h1, h2⟩ := r
    rw [Nat.eq_of_beq_eq_true h.2]
    exact ⟨b, selH_get (chkC_get h.1) h1, h2⟩
  | .snil, x, v, h, r => by
    cases x <;> simp only [chkSV, Bool.false_eq_true] at h
    simp only [Rel] at *; exact r
  | .slice .., x, v, h, r => by
    cases x <;> simp only [chkSV, Bool.false_eq_true, Bool.and_eq_true] at h
    simp only [Rel] at *
    obtain ⟨b, h1, h2⟩ := r
    rw [Nat.eq_of_beq_eq_true h.1.1.2, Nat.eq_of_beq_eq_true h.1.2, Nat.eq_of_beq_eq_true h.2]
    exact ⟨b, selH_get (chkC_get h.1.1.1) h1, h2⟩
  | .asl n c w o l, x, v, h, r => by
    cases x <;> simp only [chkSV, Bool.false_eq_true, Bool.and_eq_true] at h
    · simp only [Rel] at *
      have e1 : (n.den (η.inst σ)).toB = false := by rw [chkE_den h.1]; rfl
      have e2 : (l.den (η.inst σ)).toI = 0 := by rw [chkE_den h.2]; rfl
      rw [if_neg (by rw [e1]; simp)]
      exact ⟨r, e2⟩
    · simp only [Rel] at *
      rw [chkE_B h.1.1.2, chkE_I h.1.2, chkE_I h.2, Nat.eq_of_beq_eq_true h.1.1.1.2]
      split
      · rename_i hn
        rw [if_pos hn] at r
        obtain ⟨b, o, n, off', l, cap, h1, h2⟩ := r
        exact ⟨b, o, n, off', l, cap, selH_get (chkC_get h.1.1.1.1) h1, h2⟩
      · rename_i hn
        rw [if_neg hn] at r
        exact r
  | .eptr .., x, v, h, r => by
    cases x <;> simp only [chkSV, Bool.false_eq_true, Bool.and_eq_true] at h
    simp only [Rel] at *
    obtain ⟨b, o, n, k, h1, h2⟩ := r
    rw [Nat.eq_of_beq_eq_true h.1.1.2, Nat.eq_of_beq_eq_true h.2, chkE_I h.1.2]
    exact ⟨b, o, n, k, selH_get (chkC_get h.1.1.1) h1, h2⟩
  | .rsl .., x, v, h, r => by
    cases x <;> simp only [chkSV, Bool.false_eq_true, Bool.and_eq_true] at h
    · simp only [Rel] at *
      rw [chkE_den h]
      exact .inl ⟨r, rfl⟩
    · simp only [Rel] at *
      rw [ET.eqb_eq _ _ h.1, chkE_L h.2]; exact r
  | .rptr .., x, v, h, r => by
    cases x <;> simp only [chkSV, Bool.false_eq_true, Bool.and_eq_true] at h
    simp only [Rel] at *
    rw [ET.eqb_eq _ _ h.1.1.1, chkE_L h.1.1.2, chkE_I h.1.2, Nat.eq_of_beq_eq_true h.2]; exact r
  | .hnd _, x, v, h, r => by
    cases x <;> simp only [chkSV, Bool.false_eq_true] at h
    simp only [Rel] at *
    exact ⟨selH_get (chkC_get h) r.1, r.2⟩
  | .fn _, x, v, h, r => by
    cases x <;> simp only [chkSV, Bool.false_eq_true] at h
    simp only [Rel] at *
    rw [Nat.eq_of_beq_eq_true h]; exact r
  | .clo _ l, x, v, h, r => by
    cases x <;> simp only [chkSV, Bool.false_eq_true, Bool.and_eq_true] at h
    simp only [Rel] at *
    obtain ⟨vs, h1, h2⟩ := r
    rw [Nat.eq_of_beq_eq_true h.1]
    exact ⟨vs, h1, Rels.sel l _ vs h.2 h2⟩
  | .agg l, x, v, h, r => by
    cases x <;> simp only [chkSV, Bool.false_eq_true] at h
    simp only [Rel] at *
    obtain ⟨vs, h1, h2⟩ := r
    exact ⟨vs, h1, Rels.sel l _ vs h h2⟩
  | .tup l, x, v, h, r => by
    cases x <;> simp only [chkSV, Bool.false_eq_true] at h
    simp only [Rel] at *
    obtain ⟨vs, h1, h2⟩ := r
    exact ⟨vs, h1, Rels.sel l _ vs h h2⟩
theorem Rels.sel : ∀ (l l' : List SV) (vs : List Value), chkSVs π σ l l' = true → Rels η ρ l' vs → Rels (η.inst σ) (selH π ρ) l vs
  | [], l', vs, h, r => by
    cases l' <;> simp only [chkSVs, Bool.false_eq_true] at h
    simp only [Rels] at *; exact r
  | x :: l, l', vs, h, r => by
    cases l' <;> simp only [chkSVs, Bool.false_eq_true, Bool.and_eq_true] at h
    simp only [Rels] at *
    obtain ⟨v, t, h1, h2, h3⟩ := r
    exact ⟨v, t, h1, Rel.sel x _ v h.1 h2, Rels.sel l _ t h.2 h3⟩
end
theorem Chunk.holds_sel {Ω : Om} {h : Hd} {F : Nat → Prop} {w : World} : ∀ {t ch : Chunk}, chkChunk π σ t ch = true → ch.holds Ω η ρ h F w → t.holds Ω (η.inst σ) (selH π ρ) h F w
  | .row l ty, ch, hc, r => by
    cases ch <;> simp only [chkChunk, Bool.false_eq_true, Bool.and_eq_true] at hc
    simp only [Chunk.holds] at *
    obtain ⟨b, vs, h1, h2, h3, h4⟩ := r
    rw [Nat.eq_of_beq_eq_true hc.1]
    exact ⟨b, vs, h1, h2, Rels.sel _ _ _ hc.2 h3, h4⟩
  | .arr t e, ch, hc, r => by
    cases ch <;> simp only [chkChunk, Bool.false_eq_true, Bool.and_eq_true] at hc
    simp only [Chunk.holds] at *
    rw [ET.eqb_eq _ _ hc.1, chkE_L hc.2]; exact r
  | .map e, ch, hc, r => by
    cases ch <;> simp only [chkChunk, Bool.false_eq_true, Bool.and_eq_true] at hc
    simp only [Chunk.holds] at *
    rw [chkE_L hc]; exact r
  | .opq k e, ch, hc, r => by
    cases ch <;> simp only [chkChunk, Bool.false_eq_true, Bool.and_eq_true] at hc
    simp only [Chunk.holds] at *
    rw [Nat.eq_of_beq_eq_true hc.1, chkE_den hc.2]; exact r
  | .dead, _, _, _ => by simp only [Chunk.holds]
end

/-! ### A part of the memory, looked at alone -/
section
variable {Ω : Om} {η : Env} {ρ : List Hd} {π : List (Option Nat)} {σ : List E} {tp : Tpl} {s : St} {vs : List Value} {w : World}
theorem apartP_spec (h : apartP π = true) {c d k : Nat} (h1 : π[c]? = some (some k)) (h2 : π[d]? = some (some k)) : c = d := by
  unfold apartP at h
  rw [List.all_eq_true] at h
  have := h c (List.mem_range.2 (List.getElem?_eq_some_iff.1 h1).1)
  rw [List.all_eq_true] at this
  have := this d (List.mem_range.2 (List.getElem?_eq_some_iff.1 h2).1)
  rw [h1, h2] at this
  simp only [Bool.or_eq_true, Bool.not_eq_true'] at this
  rcases this with h | h
  · exact Nat.eq_of_beq_eq_true h
  · simp at h
structure ChkSt (π : List (Option Nat)) (σ : List E) (tp : Tpl) (s : St) : Prop where
  fr : chkSVs π σ tp.st.fr s.fr = true
  len : π.length = tp.st.mem.length
  nv : σ.length = tp.srts.length
  inj : ∀ c d k : Nat, π[c]? = some (some k) → π[d]? = some (some k) → c = d
  slot : ∀ (c : Nat) (ch : Chunk), tp.st.mem[c]? = some ch → ∃ md p, tp.mode[c]? = some md ∧ π[c]? = some p ∧ chkSlot π σ s.mem md ch p = true
  srt : srtOk σ tp.srts = true
theorem chkSt_spec (h : chkSt π σ tp s = true) : ChkSt π σ tp s := by
  unfold chkSt at h
  simp only [Bool.and_eq_true] at h
  obtain ⟨⟨⟨⟨⟨h1, h2⟩, h3⟩, h4⟩, h5⟩, h6⟩ := h
  refine ⟨h1, Nat.eq_of_beq_eq_true h2, Nat.eq_of_beq_eq_true h3, fun c d k => apartP_spec h4, fun c ch hc => ?_, h6⟩
  unfold chkSlots at h5
  rw [List.all_eq_true] at h5
  have := h5 c (List.mem_range.2 (List.getElem?_eq_some_iff.1 hc).1)
  rw [hc] at this
  split at this
  · rename_i md ch' p e1 e2 e3
    injection e2 with e2; subst e2
    exact ⟨md, p, e1, e3, this⟩
  · cases this

/-- Which blocks a template owns. -/
def Own (π : List (Option Nat)) (mode : List Mode) (F : Nat → Nat → Prop) (x : Nat) : Prop :=
  ∃ (c k : Nat) (md : Mode), mode[c]? = some md ∧ md ≠ .ghost ∧ π[c]? = some (some k) ∧ F k x
def selF (π : List (Option Nat)) (mode : List Mode) (F : Nat → Nat → Prop) (c x : Nat) : Prop :=
  ∃ (k : Nat) (md : Mode), mode[c]? = some md ∧ md ≠ .ghost ∧ π[c]? = some (some k) ∧ F k x
theorem sel_at {B' : World} {T' : Nat → Prop} (hc : ChkSt π σ tp s) (hl : ρ.length = s.mem.length) (hfr : Rels η ρ s.fr vs) {F : Nat → Nat → Prop}
    (f1 : ∀ (c : Nat) (ch : Chunk) (h : Hd), s.mem[c]? = some ch → ρ[c]? = some h → ch.holds Ω η ρ h (F c) w) (f2 : ∀ c c' x, F c x → F c' x → c = c')
    (hk : Keep B' T' w) (hr : RoOk η B' T') (f3 : ∀ c x, selF π tp.mode F c x → x < w.heap.size ∧ (T' x ∨ B'.heap.size ≤ x)) :
    At Ω (η.inst σ) B' T' (selH π ρ) tp.st vs w := by
  refine ⟨⟨by simp [selH, hc.len], hk, hr, selF π tp.mode F, ?_, ?_, f3⟩, Rels.sel _ _ _ hc.fr hfr⟩
  · intro c ch h e1 e2
    obtain ⟨md, p, m1, m2, m3⟩ := hc.slot c ch e1
    unfold chkSlot at m3
    cases p with
    | none =>
      have hF : ∀ x, ¬ selF π tp.mode F c x := by
        rintro x ⟨k, md', _, _, h3, _⟩
        rw [m2] at h3; simp at h3
      have hh : h = .none := by simp [selH, List.getElem?_map, m2] at e2; exact e2.symm
      simp only at m3
      split at m3
      · simp only [Chunk.holds]
        refine .inr ⟨hh, ?_, hF⟩
        rw [chkE_den m3]; rfl
      · simp only [Chunk.holds]
      · cases m3
    | some k =>
      simp only at m3
      have mem : ∀ ch', s.mem[k]? = some ch' → ρ[k]? = some h := by
        intro ch' hk'
        have hlt := (List.getElem?_eq_some_iff.1 hk').1
        rw [← hl] at hlt
        have := selH_get (ρ := ρ) m2 (List.getElem?_eq_getElem hlt)
        rw [e2] at this; injection this with this; subst this
        exact List.getElem?_eq_getElem hlt
      cases md with
      | ghost =>
        simp only [Bool.and_eq_true] at m3
        have : ch = .dead := by cases ch <;> simp [isDead] at m3 ⊢
        subst this; simp only [Chunk.holds]
      | fixed =>
        simp only at m3
        split at m3
        · rename_i ch' hch
          have hsel : selF π tp.mode F c = F k := by
            funext x; apply propext
            exact ⟨fun ⟨k', md', _, _, h3, h4⟩ => by rw [m2] at h3; injection h3 with h3; injection h3 with h3; subst h3; exact h4, fun hx => ⟨k, _, m1, by simp, m2, hx⟩⟩
          rw [hsel]
          exact Chunk.holds_sel m3 (f1 k ch' h hch (mem _ hch))
        · cases m3
      | mobile =>
        simp only at m3
        split at m3
        · rename_i ch' hch
          have hsel : selF π tp.mode F c = F k := by
            funext x; apply propext
            exact ⟨fun ⟨k', md', _, _, h3, h4⟩ => by rw [m2] at h3; injection h3 with h3; injection h3 with h3; subst h3; exact h4, fun hx => ⟨k, _, m1, by simp, m2, hx⟩⟩
          rw [hsel]
          exact Chunk.holds_sel m3 (f1 k ch' h hch (mem _ hch))
        · cases m3
  · rintro c c' x ⟨k, _, _, _, h3, h4⟩ ⟨k', _, _, _, h3', h4'⟩
    have := f2 k k' x h4 h4'
    subst this
    exact hc.inj c c' k h3 h3'
/-- Over the same base. -/
theorem At.sel {B : World} {T : Nat → Prop} (hA : At Ω η B T ρ s vs w) (hc : ChkSt π σ tp s) : At Ω (η.inst σ) B T (selH π ρ) tp.st vs w := by
  obtain ⟨F, f1, f2, f3⟩ := hA.inv.foot
  exact sel_at hc hA.inv.len hA.fr f1 f2 hA.inv.keep hA.inv.ro fun c x ⟨k, _, _, _, _, h⟩ => f3 k x h
/-- Over a base of its own. -/
theorem At.focus {B : World} {T : Nat → Prop} (hA : At Ω η B T ρ s vs w) (hc : ChkSt π σ tp s) {F : Nat → Nat → Prop}
    (f1 : ∀ (c : Nat) (ch : Chunk) (h : Hd), s.mem[c]? = some ch → ρ[c]? = some h → ch.holds Ω η ρ h (F c) w) (f2 : ∀ c c' x, F c x → F c' x → c = c') (f3 : ∀ c x, F c x → x < w.heap.size ∧ (T x ∨ B.heap.size ≤ x)) :
    At Ω (η.inst σ) w (Own π tp.mode F) (selH π ρ) tp.st vs w := by
  refine sel_at hc hA.inv.len hA.fr f1 f2 (Keep.refl _ _) ?_ ?_
  · intro b cs hb
    obtain ⟨h1, h2, h3⟩ := hA.inv.ro b cs hb
    obtain ⟨ty, fz, h4⟩ := hA.inv.read hb
    refine ⟨?_, Nat.lt_of_lt_of_le h2 hA.inv.keep.size, ty, fz, h4⟩
    rintro ⟨c, k, md, _, _, _, hx⟩
    rcases (f3 k b hx).2 with h | h
    · exact h1 h
    · omega
  · rintro c x ⟨k, md, h1, h2, h3, h4⟩
    exact ⟨(f3 k x h4).1, .inl ⟨c, k, md, h1, h2, h3, h4⟩⟩
end
end Go.Sy
