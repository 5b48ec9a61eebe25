/- The symbolic executor, fifteenth part: back from a part of the memory to the whole. Own work of this session. -/
import Derived.Test.YtbbippgnmllcoaaSyQ
set_option linter.unusedVariables false
set_option linter.unusedSimpArgs false
namespace Go.Sy

/-- Does chunk c of a template keep its place? -/
def kept (π : List (Option Nat)) (mode : List Mode) (c : Nat) : Bool :=
  match mode[c]?, π[c]? with | some md, some (some _) => keepM md | _, _ => false
def allKept (π : List (Option Nat)) (mode : List Mode) (n : Nat) : Bool := (List.range n).all (kept π mode)
/-- Where a template's chunk lies in the whole. -/
def tau (π : List (Option Nat)) (mode : List Mode) (n0 c : Nat) : Nat :=
  match mode[c]?, π[c]? with | some md, some (some k) => if keepM md then k else n0 + c | _, _ => n0 + c
def whereIs (π : List (Option Nat)) (k : Nat) : Option Nat := (List.range π.length).find? fun c => match π[c]? with | some (some k') => Nat.beq k' k | _ => false
def backOne (π : List (Option Nat)) (mode : List Mode) (n0 : Nat) (θ : List E) (m xm : List Chunk) (k : Nat) : Chunk :=
  match whereIs π k with
  | none => m.getD k .dead
  | some c => match mode[c]? with
    | some .ghost => m.getD k .dead
    | some .fixed => instChunk (tau π mode n0) θ (xm.getD c .dead)
    | _ => .dead
def backNew (π : List (Option Nat)) (mode : List Mode) (n0 : Nat) (θ : List E) (xm : List Chunk) (c : Nat) : Chunk :=
  if kept π mode c then .dead else instChunk (tau π mode n0) θ (xm.getD c .dead)
def backMem (π : List (Option Nat)) (mode : List Mode) (m : List Chunk) (θ : List E) (xm : List Chunk) : List Chunk :=
  (List.range m.length).map (backOne π mode m.length θ m xm) ++ (if allKept π mode xm.length then [] else (List.range xm.length).map (backNew π mode m.length θ xm))
def backSt (π : List (Option Nat)) (mode : List Mode) (m : List Chunk) (x : St) (θ : List E) : St :=
  ⟨instSVs (tau π mode m.length) θ x.fr, backMem π mode m θ x.mem⟩

section
variable {π : List (Option Nat)} {mode : List Mode} {n0 : Nat}
theorem whereIs_some {k c : Nat} (h : whereIs π k = some c) : π[c]? = some (some k) := by
  have := List.find?_some h
  split at this
  · rename_i k' hk; rw [Nat.eq_of_beq_eq_true this] at hk; exact hk
  · cases this
theorem whereIs_none {k : Nat} (h : whereIs π k = none) (c : Nat) : π[c]? ≠ some (some k) := by
  intro hc
  have := List.find?_eq_none.1 h c (List.mem_range.2 (List.getElem?_eq_some_iff.1 hc).1)
  rw [hc] at this
  simp at this
theorem kept_spec {c : Nat} (h : kept π mode c = true) : ∃ md k, mode[c]? = some md ∧ keepM md = true ∧ π[c]? = some (some k) ∧ tau π mode n0 c = k := by
  unfold kept at h
  split at h
  · rename_i md k h1 h2
    exact ⟨md, k, h1, h, h2, by simp [tau, h1, h2, h]⟩
  · cases h
theorem tau_not {c : Nat} (h : kept π mode c = false) : tau π mode n0 c = n0 + c := by
  unfold kept at h
  unfold tau
  split at h
  · rename_i md k h1 h2
    simp [h1, h2, h]
  · rfl
end

section
variable {Ω : Om} {η : Env} {ρ ρ2 : List Hd} {π : List (Option Nat)} {σ θ : List E} {tp : Tpl} {s x : St} {vs vs2 : List Value} {w w2 : World} {B : World} {T : Nat → Prop}
theorem At.back (hA : At Ω η B T ρ s vs w) (hc : ChkSt π σ tp s) {F : Nat → Nat → Prop}
    (f1 : ∀ (c : Nat) (ch : Chunk) (h : Hd), s.mem[c]? = some ch → ρ[c]? = some h → ch.holds Ω η ρ h (F c) w) (f2 : ∀ c c' x, F c x → F c' x → c = c') (f3 : ∀ c x, F c x → x < w.heap.size ∧ (T x ∨ B.heap.size ≤ x))
    (hX : At Ω (η.inst θ) w (Own π tp.mode F) ρ2 x vs2 w2) (hh : ∀ c, kept π tp.mode c = true → ρ2[c]? = (selH π ρ)[c]?) (hn : tp.st.mem.length ≤ x.mem.length) (hml : tp.mode.length = tp.st.mem.length) :
    ∃ ρ', ρ <+: ρ' ∧ At Ω η B T ρ' (backSt π tp.mode s.mem x θ) vs2 w2 := by
  obtain ⟨G, g1, g2, g3⟩ := hX.inv.foot
  have hkw := hA.inv.keep
  have hk2 := hX.inv.keep
  have hlen := hA.inv.len
  have hlen2 := hX.inv.len
  -- a kept chunk lies in the old memory
  have hin : ∀ c k : Nat, π[c]? = some (some k) → k < s.mem.length := by
    intro c k hp
    have hcl : c < tp.st.mem.length := by rw [← hc.len]; exact (List.getElem?_eq_some_iff.1 hp).1
    obtain ⟨md, p, m1, m2, m3⟩ := hc.slot c _ (List.getElem?_eq_getElem hcl)
    rw [hp] at m2; injection m2 with m2; subst m2
    unfold chkSlot at m3
    cases md <;> simp only [Bool.and_eq_true] at m3
    · have := m3.2; simpa [Nat.blt_eq] using this
    · split at m3
      · rename_i ch hch; exact (List.getElem?_eq_some_iff.1 hch).1
      · cases m3
    · split at m3
      · rename_i ch hch; exact (List.getElem?_eq_some_iff.1 hch).1
      · cases m3
  let n0 := s.mem.length
  let newH : List Hd := if allKept π tp.mode x.mem.length then [] else ρ2
  let ρ' := ρ ++ newH
  have hτ : ∀ (c : Nat) (h : Hd), ρ2[c]? = some h → ρ'[tau π tp.mode n0 c]? = some h := by
    intro c h hch
    cases hkc : kept π tp.mode c with
    | true =>
      obtain ⟨md, k, h1, h2, h3, h4⟩ := kept_spec (n0 := n0) hkc
      rw [h4]
      have hkl := hin c k h3
      rw [← hlen] at hkl
      have e := hh c hkc
      rw [hch, selH_get h3 (List.getElem?_eq_getElem hkl)] at e
      injection e with e; subst e
      show (ρ ++ newH)[k]? = _
      rw [List.getElem?_append_left hkl]; exact List.getElem?_eq_getElem hkl
    | false =>
      rw [tau_not hkc]
      have hcl := (List.getElem?_eq_some_iff.1 hch).1
      have : allKept π tp.mode x.mem.length = false := by
        cases ha : allKept π tp.mode x.mem.length with
        | false => rfl
        | true =>
          unfold allKept at ha
          rw [List.all_eq_true] at ha
          have := ha c (List.mem_range.2 (by omega))
          rw [hkc] at this; cases this
      show (ρ ++ newH)[n0 + c]? = _
      rw [List.getElem?_append_right (by omega)]
      have e : n0 + c - ρ.length = c := by omega
      rw [e]
      show (if allKept π tp.mode x.mem.length then [] else ρ2)[c]? = _
      rw [this]; exact hch
  have hp : ρ <+: ρ' := List.prefix_append _ _
  let Un : Nat → Prop := fun k => k < n0 ∧ ∀ c : Nat, π[c]? = some (some k) → tp.mode[c]? = some .ghost
  let Ft : Nat → Nat → Prop := fun k y => (Un k ∧ F k y) ∨ ∃ c : Nat, c < x.mem.length ∧ tp.mode[c]? ≠ some .ghost ∧ tau π tp.mode n0 c = k ∧ G c y
  have tauinj : ∀ c c', tau π tp.mode n0 c = tau π tp.mode n0 c' → c = c' := by
    intro c c' e
    cases hk1 : kept π tp.mode c <;> cases hk2 : kept π tp.mode c'
    · rw [tau_not hk1, tau_not hk2] at e; omega
    · obtain ⟨_, k, _, _, h3, h4⟩ := kept_spec (n0 := n0) hk2
      rw [tau_not hk1, h4] at e
      have := hin _ _ h3; omega
    · obtain ⟨_, k, _, _, h3, h4⟩ := kept_spec (n0 := n0) hk1
      rw [tau_not hk2, h4] at e
      have := hin _ _ h3; omega
    · obtain ⟨_, k, _, _, h3, h4⟩ := kept_spec (n0 := n0) hk1
      obtain ⟨_, k', _, _, h3', h4'⟩ := kept_spec (n0 := n0) hk2
      rw [h4, h4'] at e; subst e
      exact hc.inj _ _ _ h3 h3'
  -- no block of an untouched chunk is owned
  have hout : ∀ k y, Un k → F k y → ¬ Own π tp.mode F y := by
    rintro k y ⟨hk, hu⟩ hF ⟨c, k', md, h1, h2, h3, h4⟩
    have := f2 k k' y hF h4; subst this
    have := hu c h3
    rw [h1] at this; injection this with this; exact h2 this
  have hdis : ∀ k c y, Un k → F k y → c < x.mem.length → G c y → False := by
    intro k c y hu hF hcl hG
    have h1 := (g3 c y hG).2
    have h2 := (f3 k y hF).1
    rcases h1 with h1 | h1
    · exact hout k y hu hF h1
    · omega
  have htau_un : ∀ c k : Nat, c < x.mem.length → tp.mode[c]? ≠ some .ghost → tau π tp.mode n0 c = k → ¬ Un k := by
    rintro c k hcl hg e ⟨hk, hu⟩
    cases hkc : kept π tp.mode c with
    | true =>
      obtain ⟨_, k', _, _, h3, h4⟩ := kept_spec (n0 := n0) hkc
      rw [h4] at e; subst e
      exact hg (hu c h3)
    | false => rw [tau_not hkc] at e; omega
  have hFtU : ∀ k, Un k → Ft k = F k := by
    intro k hu
    funext y; apply propext
    constructor
    · rintro (h | ⟨c, h1, h2, h3, h4⟩)
      · exact h.2
      · exact absurd hu (htau_un c k h1 h2 h3)
    · exact fun h => .inl ⟨hu, h⟩
  have hFtG : ∀ c : Nat, c < x.mem.length → tp.mode[c]? ≠ some .ghost → Ft (tau π tp.mode n0 c) = G c := by
    intro c hcl hg
    funext y; apply propext
    constructor
    · rintro (h | ⟨c', h1, h2, h3, h4⟩)
      · exact absurd h.1 (htau_un c _ hcl hg rfl)
      · have := tauinj _ _ h3; subst this; exact h4
    · exact fun h => .inr ⟨c, hcl, hg, rfl, h⟩
  have hrfr : Rels η ρ' (backSt π tp.mode s.mem x θ).fr vs2 := Rels.inst hτ _ _ hX.fr
  refine ⟨ρ', hp, ⟨?_, ?_, hA.inv.ro, Ft, ?_, ?_, ?_⟩, hrfr⟩
  · show (ρ ++ newH).length = _
    simp only [backSt, backMem, List.length_append, List.length_map, List.length_range, hlen, newH]
    split
    · simp
    · simp [hlen2]
  · refine ⟨hk2.os.trans hkw.os, hk2.tape.trans hkw.tape, hk2.output.trans hkw.output, Nat.le_trans hkw.size hk2.size, fun k hk hT => ?_⟩
    have hkk : k < w.heap.size := Nat.lt_of_lt_of_le hk hkw.size
    rw [hk2.block k hkk ?_]
    · exact hkw.block k hk hT
    · rintro ⟨c, k', md, h1, h2, h3, h4⟩
      rcases (f3 k' k h4).2 with h | h
      · exact hT h
      · omega
  · intro k ch h e1 e2
    -- what lies there
    have heapU : ∀ k, Un k → ∀ y, F k y → w2.heap[y]? = w.heap[y]? := fun k hu y hF => hk2.block y (f3 k y hF).1 (hout k y hu hF)
    have holdU : k < n0 → Un k → ch = s.mem.getD k .dead → ch.holds Ω η ρ' h (Ft k) w2 := by
      intro hkl hu hch
      rw [hFtU k hu]
      have hk' : k < ρ.length := by omega
      have e2' : ρ[k]? = some h := by
        have : (ρ ++ newH)[k]? = some h := e2
        rw [List.getElem?_append_left hk'] at this; exact this
      have hm : s.mem[k]? = some ch := by
        rw [hch, List.getD_eq_getElem?_getD, List.getElem?_eq_getElem hkl]; rfl
      exact Chunk.holds_mono hp (heapU k hu) (f1 k ch h hm e2')
    simp only [backSt, backMem] at e1
    rcases Nat.lt_or_ge k n0 with hkl | hkl
    · rw [List.getElem?_append_left (by simpa using hkl), List.getElem?_map, List.getElem?_range hkl] at e1
      simp only [Option.map_some, Option.some.injEq] at e1
      unfold backOne at e1
      cases hw : whereIs π k with
      | none =>
        rw [hw] at e1
        exact holdU hkl ⟨hkl, fun c hcp => absurd hcp (whereIs_none hw c)⟩ e1.symm
      | some c =>
        rw [hw] at e1
        simp only at e1
        have hpc := whereIs_some hw
        have hcl : c < x.mem.length := by
          have : c < π.length := (List.getElem?_eq_some_iff.1 hpc).1
          have := hc.len; omega
        cases hmd : tp.mode[c]? with
        | none =>
          rw [hmd] at e1; simp only at e1; subst e1
          simp only [Chunk.holds]
        | some md =>
          rw [hmd] at e1
          cases md with
          | ghost =>
            simp only at e1
            refine holdU hkl ⟨hkl, fun c' hcp => ?_⟩ e1.symm
            have := hc.inj _ _ _ hpc hcp; subst this; exact hmd
          | fixed =>
            simp only at e1
            have hkc : kept π tp.mode c = true := by simp [kept, hmd, hpc, keepM]
            obtain ⟨_, k', _, _, h3, h4⟩ := kept_spec (n0 := n0) hkc
            rw [hpc] at h3; injection h3 with h3; injection h3 with h3; subst h3
            have hFt := hFtG c hcl (by rw [hmd]; simp)
            rw [h4] at hFt
            rw [hFt]
            have hc2 : c < ρ2.length := by omega
            have hh2 : ρ2[c]? = some h := by
              have := hτ c _ (List.getElem?_eq_getElem hc2)
              rw [h4] at this
              have e : ρ'[k]? = some h := e2
              rw [e] at this; injection this with this; rw [this]; exact List.getElem?_eq_getElem hc2
            have hm : x.mem[c]? = some (x.mem.getD c .dead) := by
              rw [List.getD_eq_getElem?_getD, List.getElem?_eq_getElem hcl]; rfl
            rw [← e1]
            exact Chunk.holds_inst hτ (g1 c _ h hm hh2)
          | mobile =>
            simp only at e1; subst e1
            simp only [Chunk.holds]
    · rw [List.getElem?_append_right (by simpa using hkl)] at e1
      simp only [List.length_map, List.length_range] at e1
      split at e1
      · simp at e1
      · rename_i hak
        rw [List.getElem?_map] at e1
        have hcl : k - n0 < x.mem.length := by
          rcases Nat.lt_or_ge (k - n0) x.mem.length with h0 | h0
          · exact h0
          · rw [List.getElem?_eq_none (by simpa using h0)] at e1; cases e1
        rw [List.getElem?_range hcl] at e1
        simp only [Option.map_some, Option.some.injEq] at e1
        unfold backNew at e1
        split at e1
        · subst e1; simp only [Chunk.holds]
        · rename_i hkc
          have hkc : kept π tp.mode (k - n0) = false := by simpa using hkc
          have ht := tau_not (n0 := n0) hkc
          have ht' : tau π tp.mode n0 (k - n0) = k := by rw [ht]; omega
          by_cases hg : tp.mode[k - n0]? = some .ghost
          · -- a ghost is kept
            have hcl' : k - n0 < tp.st.mem.length := by rw [← hml]; exact (List.getElem?_eq_some_iff.1 hg).1
            obtain ⟨md, p, m1, m2, m3⟩ := hc.slot _ _ (List.getElem?_eq_getElem hcl')
            rw [hg] at m1; injection m1 with m1; subst m1
            cases p with
            | none => simp [chkSlot] at m3
            | some k' => simp [kept, hg, m2, keepM] at hkc
          · have hFt := hFtG _ hcl hg
            rw [ht'] at hFt
            rw [hFt]
            have hc2 : k - n0 < ρ2.length := by omega
            have hh2 : ρ2[k - n0]? = some h := by
              have := hτ _ _ (List.getElem?_eq_getElem hc2)
              rw [ht'] at this
              have e : ρ'[k]? = some h := e2
              rw [e] at this; injection this with this; rw [this]; exact List.getElem?_eq_getElem hc2
            have hm : x.mem[k - n0]? = some (x.mem.getD (k - n0) .dead) := by
              rw [List.getD_eq_getElem?_getD, List.getElem?_eq_getElem hcl]; rfl
            rw [← e1]
            exact Chunk.holds_inst hτ (g1 _ _ h hm hh2)
  · rintro k k' y (⟨hu, hF⟩ | ⟨c, h1, h2, h3, h4⟩) (⟨hu', hF'⟩ | ⟨c', h1', h2', h3', h4'⟩)
    · exact f2 _ _ _ hF hF'
    · exact (hdis _ _ _ hu hF h1' h4').elim
    · exact (hdis _ _ _ hu' hF' h1 h4).elim
    · have := g2 _ _ _ h4 h4'; subst this
      rw [← h3, ← h3']
  · rintro k y (⟨hu, hF⟩ | ⟨c, h1, h2, h3, h4⟩)
    · exact ⟨Nat.lt_of_lt_of_le (f3 k y hF).1 hk2.size, (f3 k y hF).2⟩
    · obtain ⟨q1, q2⟩ := g3 c y h4
      refine ⟨q1, ?_⟩
      rcases q2 with ⟨c', k', md, p1, p2, p3, p4⟩ | q2
      · exact (f3 k' y p4).2
      · exact .inr (Nat.le_trans hkw.size q2)
end
end Go.Sy
