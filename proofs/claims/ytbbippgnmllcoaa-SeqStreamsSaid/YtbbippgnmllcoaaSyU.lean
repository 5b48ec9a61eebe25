/- The symbolic executor, seventeenth part: the contracts' functions, out of their steps. Own work of this session. -/
import Derived.Test.YtbbippgnmllcoaaSyS
set_option linter.unusedVariables false
set_option linter.unusedSimpArgs false
namespace Go.Sy

/-- F, with a contract's three functions: is there an answer; which way out; the values. -/
def updF (F : Nat → D → D) (K : Nat) (sp : D → Option (Nat × List D)) : Nat → D → D := fun k d =>
  if Nat.beq k K then .b (sp d).isSome
  else if Nat.beq k (K + 1) then .i (match sp d with | some (j, _) => (j : Int) - 1 | none => 0)
  else if Nat.beq k (K + 2) then .ls (match sp d with | some (_, ys) => ys | none => [])
  else F k d

theorem iterV_succ {step : List D → Option (Nat × List D)} : ∀ {N : Nat} {l : List D} {r : Nat × List D}, iterV step N l = some r → iterV step (N + 1) l = some r
  | 0, _, _, h => by simp [iterV] at h
  | N + 1, l, r, h => by
    rw [iterV] at h ⊢
    cases hs : step l with
    | none => rw [hs] at h; cases h
    | some p =>
      obtain ⟨j, l'⟩ := p
      rw [hs] at h
      cases j with
      | zero => exact iterV_succ h
      | succ j => exact h
theorem iterV_le {step : List D → Option (Nat × List D)} {N M : Nat} {l : List D} {r : Nat × List D} (h : iterV step N l = some r) (hle : N ≤ M) : iterV step M l = some r := by
  induction hle with
  | refl => exact h
  | step _ ih => exact iterV_succ ih
/-- A loop's answer, whatever its rounds. -/
noncomputable def loopV (step : List D → Option (Nat × List D)) (l : List D) : Option (Nat × List D) :=
  open Classical in if h : ∃ r N, iterV step N l = some r then some (h.choose.1 + 1, h.choose.2) else none
theorem loopV_of {step : List D → Option (Nat × List D)} {N : Nat} {l : List D} {j : Nat} {ys : List D} (h : iterV step N l = some (j, ys)) : loopV step l = some (j + 1, ys) := by
  have hex : ∃ r N, iterV step N l = some r := ⟨_, N, h⟩
  unfold loopV
  rw [dif_pos hex]
  obtain ⟨M, hM⟩ := hex.choose_spec
  have h1 := iterV_le h (Nat.le_max_left N M)
  have h2 := iterV_le hM (Nat.le_max_right N M)
  rw [h1] at h2; injection h2 with h2
  rw [← h2]
theorem loopV_inv {step : List D → Option (Nat × List D)} {l : List D} {j : Nat} {ys : List D} (h : loopV step l = some (j, ys)) : ∃ N i, j = i + 1 ∧ iterV step N l = some (i, ys) := by
  unfold loopV at h
  split at h
  · rename_i hex
    obtain ⟨N, hN⟩ := hex.choose_spec
    simp only [Option.some.injEq, Prod.mk.injEq] at h
    exact ⟨N, hex.choose.1, h.1.symm, by rw [hN, ← h.2]⟩
  · cases h
/-- One round more. -/
theorem loopV_again {step : List D → Option (Nat × List D)} {l l' : List D} (h : step l = some (0, l')) : loopV step l = loopV step l' := by
  cases hl : loopV step l' with
  | some r =>
    obtain ⟨j, ys⟩ := r
    obtain ⟨N, i, rfl, hN⟩ := loopV_inv hl
    exact loopV_of (N := N + 1) (by simp only [iterV, h]; exact hN)
  | none =>
    cases hl2 : loopV step l with
    | none => rfl
    | some r =>
      obtain ⟨j, ys⟩ := r
      obtain ⟨N, i, rfl, hN⟩ := loopV_inv hl2
      cases N with
      | zero => simp [iterV] at hN
      | succ N =>
        simp only [iterV, h] at hN
        rw [loopV_of hN] at hl; cases hl
theorem loopV_out {step : List D → Option (Nat × List D)} {l l' : List D} {j : Nat} (h : step l = some (j + 1, l')) : loopV step l = some (j + 1, l') :=
  loopV_of (N := 1) (by simp [iterV, h])

theorem stepC_pos {P : Program} {Z : Ext} {f n : Nat} {k : Con} {F : Nat → D → D} {l : List D} {j : Nat} {ys : List D} (h : stepV F (stepC P Z f n k) l = some (j, ys)) : 1 ≤ j := by
  obtain ⟨σ, h1, _⟩ := stepV_R h noR
  unfold stepC at h1
  rw [leaf_bind] at h1
  obtain ⟨vm, _, h3⟩ := h1
  obtain ⟨i, tx, e1, _⟩ := outT_spec h3
  omega
theorem specC_of {P : Program} {Z : Ext} {f n : Nat} {F : Nat → D → D} {k : Con} {sp : List D → Option (Nat × List D)} (h0 : F k.K = fun d => .b (sp d.toL).isSome)
    (h1 : F (k.K + 1) = fun d => .i (match sp d.toL with | some (j, _) => (j : Int) - 1 | none => 0)) (h2 : F (k.K + 2) = fun d => .ls (match sp d.toL with | some (_, ys) => ys | none => []))
    (hs : ∀ l r, sp l = some r → stepV F (stepC P Z f n k) l = some r) : SpecC F k (stepC P Z f n k) := by
  intro l _ hp
  rw [h0] at hp
  simp only [toB_b, toL_ls] at hp
  obtain ⟨⟨j, ys⟩, hr⟩ := Option.isSome_iff_exists.1 hp
  have hst := hs l _ hr
  have := stepC_pos hst
  obtain ⟨i, rfl⟩ : ∃ i, j = i + 1 := ⟨j - 1, by omega⟩
  refine ⟨i, ys, hst, ?_, ?_⟩
  · rw [h1]; simp only [toL_ls, hr, toI_i]; omega
  · rw [h2]; simp only [toL_ls, hr]
theorem iterV_of {step step' : List D → Option (Nat × List D)} (hs : ∀ l r, step l = some r → step' l = some r) : ∀ {N : Nat} {l : List D} {r : Nat × List D}, iterV step N l = some r → iterV step' N l = some r
  | 0, _, _, h => by simp [iterV] at h
  | N + 1, l, r, h => by
    simp only [iterV] at h ⊢
    split at h
    · rename_i l' hq; rw [hs _ _ hq]; exact iterV_of hs h
    · rename_i j l' hq; rw [hs _ _ hq]; exact h
    · cases h
theorem specL_of {F : Nat → D → D} {k : Con} {t : T (Nat × List E)} {sp : List D → Option (Nat × List D)} (h0 : F k.K = fun d => .b (loopV sp d.toL).isSome)
    (h1 : F (k.K + 1) = fun d => .i (match loopV sp d.toL with | some (j, _) => (j : Int) - 1 | none => 0)) (h2 : F (k.K + 2) = fun d => .ls (match loopV sp d.toL with | some (_, ys) => ys | none => []))
    (hs : ∀ l r, sp l = some r → stepV F t l = some r) : SpecL F k t := by
  intro l _ hp
  rw [h0] at hp
  simp only [toB_b, toL_ls] at hp
  obtain ⟨⟨j, ys⟩, hr⟩ := Option.isSome_iff_exists.1 hp
  obtain ⟨N, i, rfl, hN⟩ := loopV_inv hr
  refine ⟨N, i, ys, iterV_of hs hN, ?_, ?_⟩
  · rw [h1]; simp only [toL_ls, hr, toI_i]; omega
  · rw [h2]; simp only [toL_ls, hr]

/-- A law that the executor has found true, over contracts. -/
theorem law_walkF {P : Program} (hm : P.follows .mixedOrders = true) {n : Nat} {f : FuncId} {args : List SV} {F : Nat → D → D} {R : Nat → Option (List Value)} {l : List D} {Z : Ext} {Ω : Om} {w : World} (hG : Good P Ω F Z)
    (hR : ∀ b cs, R b = some cs → b < w.heap.size ∧ ∃ ty fz, w.heap[b]? = some (.cells ⟨cs⟩ ty fz)) (h : (evFun P Z n f args []).okB (envL F R l) = true) {vs : List Value} (hr : Rels (envL F R l) [] args vs) :
    Calls P f ⟨vs⟩ w fun e w' => e = .returned (.bool true) ∧ RowKit.Below w.heap.size w w' :=
  law_walk hm (hG _ rfl w _) hR h hr
end Go.Sy
