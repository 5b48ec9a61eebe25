/- The symbolic executor, eleventh part: regions that draw their order and write. Own work of this session. -/
import Derived.Test.YtbbippgnmllcoaaSyM
set_option linter.unusedVariables false
set_option linter.unusedSimpArgs false
namespace Go.Sy
section
variable {P : Program} {Ω : Om} {η : Env} {B : World} {T' : Nat → Prop} {ρ ρ0 : List Hd} {ops : Array Oper}
variable {call : FuncId → List SV → List Chunk → T (SV × List Chunk)}

/-- The held cells hold what they held. -/
def Held (ρ : List Hd) (K : List (Nat × Nat × SV)) (w1 w : World) : Prop :=
  ∀ k ∈ K, ∀ b, ρ[k.1]? = some (.blk b) → w.cell? ⟨b, k.2.1, none⟩ = w1.cell? ⟨b, k.2.1, none⟩
/-- They are told to the last. -/
def HeldOk (η : Env) (ρ : List Hd) (K : List (Nat × Nat × SV)) (w1 : World) : Prop :=
  ∀ k ∈ K, ∃ b, ρ[k.1]? = some (.blk b) ∧ definite k.2.2 = true ∧ ∃ u, w1.cell? ⟨b, k.2.1, none⟩ = some u ∧ Rel η ρ k.2.2 u
theorem definite_sure {x : SV} (h : definite x = true) : sure x = true := by cases x <;> simp [definite, sure] at h ⊢

theorem Rel.nrm {x : SV} {v : Value} : Rel η ρ (Sy.nrm x) v ↔ Rel η ρ x v := by
  unfold Sy.nrm
  split
  · simp only [Rel, E.den, O1.den, toI_i]
  · simp only [Rel, E.den, O1.den, toB_b]
  · simp only [Rel, E.den, O1.den, toS_s]
  · exact Iff.rfl
theorem stillHeld_held {K : List (Nat × Nat × SV)} {m : List Chunk} {w1 w : World} (hk : HeldOk η ρ0 K w1) (hp : ρ0 <+: ρ) (hI : Inv Ω η B T' ρ m w) (h : stillHeld K m = true) : Held ρ0 K w1 w := by
  intro k hkm b hb
  unfold stillHeld at h
  rw [List.all_eq_true] at h
  have h1 := h k hkm
  obtain ⟨b', hb', hd, u, hu, hr⟩ := hk k hkm
  rw [hb'] at hb; injection hb with hb; injection hb with hb; subst hb
  split at h1
  · rename_i cs ty hrow
    split at h1
    · rename_i v hv
      have hnrm := eqb_eq _ _ h1
      obtain ⟨vs, g1, g2⟩ := hI.row hrow (getElem?_prefix hp hb')
      obtain ⟨u', g3, g4⟩ := g2.get hv
      have g4 := Rel.nrm.1 (hnrm ▸ Rel.nrm.2 g4)
      have : u' = u := Rel.uniq _ _ _ (definite_sure hd) g4 (Rel.mono hp _ _ hr)
      subst this
      rw [cell_of_row g1, g3, hu]
    · cases h1
  · cases h1

theorem heldCells_ok {m : List Chunk} {w : World} (hI : Inv Ω η B T' ρ m w) (ls ws : List (Nat × Nat × Nat)) (hblk : ∀ c l ty, rowOf m c = some (l, ty) → ∃ b, ρ[c]? = some (.blk b)) :
    HeldOk η ρ (heldCells m ls ws) w := by
  intro k hk
  unfold heldCells at hk
  rw [List.mem_flatMap] at hk
  obtain ⟨l, _, hk⟩ := hk
  split at hk
  · rename_i cs ty hrow
    rw [List.mem_filterMap] at hk
    obtain ⟨j, _, hk⟩ := hk
    split at hk
    · rename_i v hv
      split at hk
      · rename_i hc
        simp only [Bool.and_eq_true] at hc
        simp only [Option.some.injEq] at hk; subst hk
        obtain ⟨b, hb⟩ := hblk _ _ _ hrow
        obtain ⟨vs, g1, g2⟩ := hI.row hrow hb
        obtain ⟨u, g3, g4⟩ := g2.get hv
        exact ⟨b, hb, hc.1, u, by rw [cell_of_row g1]; exact g3, g4⟩
      · cases hk
    · cases hk
  · cases hk
theorem row_blk {m : List Chunk} {w : World} (hI : Inv Ω η B T' ρ m w) (c : Nat) (l : List SV) (ty : TypeId) (h : rowOf m c = some (l, ty)) : ∃ b, ρ[c]? = some (.blk b) := by
  have hm := rowOf_get h
  have hlt := (List.getElem?_eq_some_iff.1 hm).1
  rw [← hI.len] at hlt
  obtain ⟨F, f1, _, _⟩ := hI.foot
  have := f1 c _ _ hm (List.getElem?_eq_getElem hlt)
  simp only [Chunk.holds] at this
  obtain ⟨b, vs, h1, _⟩ := this
  exact ⟨b, by rw [List.getElem?_eq_getElem hlt, h1]⟩

theorem isHeld_mem {K : List (Nat × Nat × SV)} {c off : Nat} (h : isHeld K c off = true) : ∃ k ∈ K, k.1 = c ∧ k.2.1 = off := by
  unfold isHeld at h
  rw [List.any_eq_true] at h
  obtain ⟨k, hk, h⟩ := h
  simp only [Bool.and_eq_true] at h
  exact ⟨k, hk, Nat.eq_of_beq_eq_true h.1, Nat.eq_of_beq_eq_true h.2⟩

/-- What may be taken first. -/
theorem early_rel {K : List (Nat × Nat × SV)} {w1 w : World} {s : St} {a : Act} (hk : HeldOk η ρ0 K w1) (hp : ρ0 <+: ρ) (hH : Held ρ0 K w1 w) (hA : At Ω η B T' ρ s a.tmps.toList w) {o : Oper} {e : E} {v : SV}
    (h : early P K s o.op = some (e, v)) (he : (e.den η).toB = true) : ∃ u, Rel η ρ v u ∧ ∀ w', Held ρ0 K w1 w' → (execOp a.eval o).run P w' = .ok (.value u) w' := by
  unfold early at h
  split at h
  · rename_i t x ho
    split at h
    · rename_i c off hx
      split at h
      · rename_i hall
        rw [Option.map_eq_some_iff] at h
        obtain ⟨v', hv, h⟩ := h
        simp only [Prod.mk.injEq] at h; obtain ⟨rfl, rfl⟩ := h
        have hx' := opd_rel hA.fr x
        rw [hx] at hx'; simp only [Rel] at hx'
        obtain ⟨b, hb, hax⟩ := hx'
        cases hr : rowOf s.mem c with
        | none => simp [loadSV, hr] at hv
        | some p =>
          obtain ⟨l, ty⟩ := p
          obtain ⟨vs, g1, g2⟩ := hA.inv.row hr hb
          obtain ⟨u, g3, g4⟩ := load_any (P := P) hr hb g2 hv
          refine ⟨u, g3, fun w' hw' => ?_⟩
          have hcell : ∀ j, j < loadW P t → w'.cell? ⟨b, off + j, none⟩ = vs[off + j]? := by
            intro j hj
            rw [List.all_eq_true] at hall
            obtain ⟨k, hkm, hk1, hk2⟩ := isHeld_mem (hall j (List.mem_range.2 hj))
            obtain ⟨b', hb', _⟩ := hk k hkm
            have hbb : b' = b := by
              have := getElem?_prefix hp hb'
              rw [hk1, hb] at this
              injection this with this; injection this with this; exact this.symm
            subst hbb
            have e1 := hw' k hkm b' hb'
            have e2 := hH k hkm b' hb'
            rw [hk2] at e1 e2
            rw [e1, ← e2, cell_of_row g1]
          have := g4 w' hcell
          unfold execOp; rw [ho]; simp only [exec_v, hax, this]; rfl
      · cases h
    · cases h
  · obtain ⟨u, h1, h2⟩ := evPure_rel hA.fr h he
    exact ⟨u, h1, fun w' _ => h2 w'⟩

theorem noPanic_put {Q : Exit → Act → World → Prop} {dst : Option Tmp} {v : Value} : ∀ c a' w, NoPanic Q (.panic c) (a'.put dst v) w → NoPanic Q (.panic c) a' w := fun _ _ _ h => h

theorem strip_leaf {hyp : List E} (hh : ∀ c ∈ hyp, (c.den η).toB = true) : ∀ {u v : T St}, strip hyp u = some v → u.leaf η = v.leaf η
  | .ret _, v, h => by simp only [strip, Option.some.injEq] at h; subst h; rfl
  | .ite .., v, h => by simp only [strip, Option.some.injEq] at h; subst h; rfl
  | .fail _, v, h => by simp only [strip, Option.some.injEq] at h; subst h; rfl
  | .asrt c u, v, h => by
    simp only [strip] at h
    split at h
    · rename_i hc
      rw [List.any_eq_true] at hc
      obtain ⟨d, hd, he⟩ := hc
      have := eqE_eq he; subst this
      simp only [T.leaf, hh _ hd, if_true]
      exact strip_leaf hh h
    · cases h
theorem eqbT_leaf {t u : T St} {hyp : List E} (hh : ∀ c ∈ hyp, (c.den η).toB = true) (h : eqbT hyp t u = true) {x : St} (hx : t.leaf η = some x) : u.leaf η = some x := by
  induction t generalizing u hyp with
  | ret a =>
    simp only [eqbT] at h
    split at h
    · rename_i b hs
      rw [strip_leaf hh hs, ← hx]
      simp only [Bool.and_eq_true] at h
      obtain ⟨fx, mx⟩ := a; obtain ⟨fy, my⟩ := b
      simp only at h
      rw [eqbs_eq _ _ h.1, eqbMem_eq _ _ h.2]
    · cases h
  | ite c t e iht ihe =>
    simp only [eqbT] at h
    split at h
    · rename_i c' t' e' hs
      rw [strip_leaf hh hs]
      simp only [Bool.and_eq_true] at h
      have := eqE_eq h.1.1; subst this
      simp only [T.leaf] at hx ⊢
      split
      · rename_i hc; rw [if_pos hc] at hx; exact iht hh h.1.2 hx
      · rename_i hc; rw [if_neg hc] at hx; exact ihe hh h.2 hx
    · cases h
  | asrt c t iht =>
    simp only [eqbT] at h
    simp only [T.leaf] at hx
    split at hx
    · rename_i hc
      exact iht (hyp := c :: hyp) (fun d hd => by cases hd with | head => exact hc | tail _ hd => exact hh d hd) h hx
    · cases hx
  | fail w => simp [eqbT] at h

theorem clean_free {cl : Bool} (hcl : cl = true → clean ops = true) {listed : Array Bool} {i : Nat} (hr : i ∈ Region.ready .any ops listed) (h : (cl || Region.free .any ops listed i) = true) : Region.free .any ops listed i = true := by
  cases cl with
  | false => simpa using h
  | true =>
    have hc := hcl rfl
    unfold clean at hc
    rw [List.all_eq_true] at hc
    unfold Region.ready at hr
    rw [List.mem_filter, List.mem_range] at hr
    obtain ⟨hi, hr⟩ := hr
    have h1 := hc i (List.mem_range.2 hi)
    rw [List.all_eq_true] at h1
    have hoi : ops[i]? = some ops[i] := Array.getElem?_eq_getElem hi
    rw [hoi] at hr
    simp only [Option.map_some, Option.getD_some, Bool.and_eq_true] at hr
    have hra := hr.2
    unfold Region.free
    rw [hoi]
    simp only
    rw [List.all_eq_true]
    intro j hj
    have hjs := List.mem_range.1 hj
    have hoj : ops[j]? = some ops[j] := Array.getElem?_eq_getElem hjs
    have h2 := h1 j hj
    rw [hoi, hoj] at h2
    rw [hoj]
    simp only [Bool.or_eq_true] at h2 ⊢
    rcases h2 with h2 | (h2 | h2) | h2
    · left; left; rw [Nat.eq_of_beq_eq_true h2]; simp
    · right; left; exact h2
    · -- i waits for j: it is listed
      obtain ⟨e, he, hb⟩ := Array.any_eq_true'.1 h2
      simp only [Bool.and_eq_true, beq_iff_eq] at hb
      have := (Array.all_eq_true_iff_forall_mem.1 hra) e he
      simp only [hb.1, Bool.not_true, Bool.false_or, hb.2] at this
      left; right
      rw [← this]
      have hjl : ∀ (b c : Bool), listed.getD j false = true → listed.getD j b = listed.getD j c := by
        intro b c hh
        simp only [Array.getD_eq_getD_getElem?] at hh ⊢
        cases hq : listed[j]? with
        | none => rw [hq] at hh; simp at hh
        | some v => rfl
      exact hjl _ _ this
    · right; right; exact h2

theorem explore_sound {cl : Bool} (hcl : cl = true → clean ops = true) (hcall : CallSound P Ω η B T' call) {K : List (Nat × Nat × SV)} {w1 : World} (hk : HeldOk η ρ0 K w1) (hsel : Region.noSelect ops = true) {Q : Exit → Act → World → Prop} :
    ∀ {n : Nat} {listed : Array Bool} {s s2 : St}, (explore P call K ops cl n listed s).leaf η = some s2 → ∀ {ρ : List Hd} {a : Act} {w : World}, ρ0 <+: ρ → Held ρ0 K w1 w → At Ω η B T' ρ s a.tmps.toList w →
      Goes Ω η B T' ρ a.defers s2 (Q .normal) → wpAnyH P .any ops (NoPanic Q) (Held ρ0 K w1) n listed a w
  | 0, listed, s, s2, h, ρ, a, w, hp, hH, hA, hK => by
    simp only [explore] at h
    split at h
    · rename_i he
      simp only [T.leaf, Option.some.injEq] at h; subst h
      exact ⟨by simpa using he, hK ρ a w (List.prefix_refl _) hA rfl⟩
    · simp [T.leaf] at h
  | n + 1, listed, s, s2, h, ρ, a, w, hp, hH, hA, hK => by
    simp only [explore] at h
    split at h
    · -- taken first
      rename_i i hi
      have him := List.mem_of_find?_eq_some hi
      have hie := List.find?_some hi
      split at h
      · rename_i o ho
        rw [leaf_bind] at h
        obtain ⟨s1, h1, h2⟩ := h
        have hfree : Region.free .any ops listed i = true := by
          unfold earlyAt at hie
          rw [Bool.and_eq_true] at hie
          exact clean_free hcl him hie.2
        obtain ⟨s0, e1, f1, h3 | h3⟩ := guarded_leaf h1 hA.fr
        · have h4 := h3.2
          split at h4
          · rename_i e v hev
            obtain ⟨he, h5⟩ := leaf_need h4
            simp only [T.leaf, Option.some.injEq] at h5; subst h5
            have hA0 : At Ω η B T' ρ s0 a.tmps.toList w := ⟨by rw [e1]; exact hA.inv, f1⟩
            obtain ⟨u, g1, g2⟩ := early_rel hk hp hH hA0 hev he
            refine wpAnyH_take ho hsel hfree (by simpa using him) noPanic_put (.inl ⟨h3.1, g2⟩) hH ?_
            exact explore_sound hcl hcall hk hsel h2 hp hH (put_at f1 o.dst g1 (by rw [e1]; exact hA.inv)) (by rw [put_defers]; exact hK)
          · simp [T.leaf] at h4
        · obtain ⟨hw, rfl⟩ := h3
          refine wpAnyH_take ho hsel hfree (by simpa using him) noPanic_put (v := undef) (.inr ⟨hw, rfl⟩) hH ?_
          exact explore_sound hcl hcall hk hsel h2 hp hH (put_at f1 o.dst undef_rel (by rw [e1]; exact hA.inv)) (by rw [put_defers]; exact hK)
      · simp [T.leaf] at h
    · -- whichever comes up
      split at h
      · rename_i hr
        simp only [T.leaf, Option.some.injEq] at h; subst h
        exact wpAnyH_done (Q := NoPanic Q) hr (NoPanic.normal (hK ρ a w (List.prefix_refl _) hA rfl)) _
      · rename_i i r hr
        have hall : ∀ j ∈ i :: r, ∃ o s3, ops[j]? = some o ∧ ((guarded ops s o fun s => evOp1 P call s o).bind fun s => if stillHeld K s.mem then explore P call K ops cl n (listed.setIfInBounds j true) s else .fail "a held cell is written").leaf η = some s3 ∧ (s3 = s2 ∨ canon s.mem.length s3 = s2) := by
          have hone : ∀ (t : T St) (l : List (T St)), (sameAll t l).leaf η = some s2 → t.leaf η = some s2 ∧ ∀ u ∈ l, u.leaf η = some s2 := by
            intro t l
            induction l with
            | nil => intro h; exact ⟨h, fun u hu => by cases hu⟩
            | cons x l ih =>
              intro h
              simp only [sameAll] at h
              split at h
              · rename_i he
                obtain ⟨g1, g2⟩ := ih h
                refine ⟨g1, fun u hu => ?_⟩
                cases hu with
                | head => exact eqbT_leaf (fun c hc => by cases hc) he g1
                | tail _ hu => exact g2 u hu
              · simp [T.leaf] at h
          have hcan : ∀ t : T St, (canonT s.mem.length t).leaf η = some s2 → ∃ s3, t.leaf η = some s3 ∧ canon s.mem.length s3 = s2 := by
            intro t ht
            unfold canonT at ht
            rw [leaf_bind] at ht
            obtain ⟨s3, g1, g2⟩ := ht
            simp only [T.leaf, Option.some.injEq] at g2
            exact ⟨s3, g1, g2⟩
          have fin : ∀ j, (∃ s3, (match ops[j]? with
            | some o => (guarded ops s o fun s => evOp1 P call s o).bind fun s => if stillHeld K s.mem then explore P call K ops cl n (listed.setIfInBounds j true) s else .fail "a held cell is written"
            | none => .fail "explore: no such" : T St).leaf η = some s3 ∧ (s3 = s2 ∨ canon s.mem.length s3 = s2)) → ∃ o s3, ops[j]? = some o ∧ ((guarded ops s o fun s => evOp1 P call s o).bind fun s => if stillHeld K s.mem then explore P call K ops cl n (listed.setIfInBounds j true) s else .fail "a held cell is written").leaf η = some s3 ∧ (s3 = s2 ∨ canon s.mem.length s3 = s2) := by
            rintro j ⟨s3, g1, g2⟩
            cases ho : ops[j]? with
            | none => rw [ho] at g1; simp [T.leaf] at g1
            | some o => rw [ho] at g1; exact ⟨o, s3, rfl, g1, g2⟩
          intro j hj
          apply fin
          cases r with
          | nil =>
            simp only at h
            cases hj with
            | head => exact ⟨s2, h, .inl rfl⟩
            | tail _ hj => cases hj
          | cons i2 r =>
            obtain ⟨g1, g2⟩ := hone _ _ h
            cases hj with
            | head => obtain ⟨s3, q1, q2⟩ := hcan _ g1; exact ⟨s3, q1, .inr q2⟩
            | tail _ hj => obtain ⟨s3, q1, q2⟩ := hcan _ (g2 _ (List.mem_map.2 ⟨j, hj, rfl⟩)); exact ⟨s3, q1, .inr q2⟩
        refine wpAnyH_all hr (by simp) fun j hj => ?_
        obtain ⟨o, s3, ho, hl, hs3⟩ := hall j hj
        have hK : Goes Ω η B T' ρ a.defers s3 (Q .normal) := by
          rcases hs3 with rfl | rfl
          · exact hK
          · intro ρ'' a'' w'' r1 r2 r3
            obtain ⟨ρ3, t1, t2⟩ := At.canon s.mem.length r2 r1 (by rw [hA.inv.len]; exact Nat.le_refl _)
            exact hK ρ3 a'' w'' t1 t2 r3
        rw [leaf_bind] at hl
        obtain ⟨s1, h1, h2⟩ := hl
        have hG : Goes Ω η B T' ρ a.defers s1 (fun a' w' => Held ρ0 K w1 w' ∧ wpAnyH P .any ops (NoPanic Q) (Held ρ0 K w1) n (listed.setIfInBounds j true) a' w') := by
          intro ρ' a' w' q1 q2 q3
          split at h2
          · rename_i hst
            have hH' := stillHeld_held hk (hp.trans q1) q2.inv hst
            exact ⟨hH', explore_sound hcl hcall hk hsel h2 (hp.trans q1) hH' q2 fun ρ'' a'' w'' r1 r2 r3 => hK ρ'' a'' w'' (q1.trans r1) r2 (r3.trans q3)⟩
          · simp [T.leaf] at h2
        have := step_sound hcall h1 hA (Q := NoPanic Q) hG
        unfold wpOp
        simp only [ho]
        split
        · rename_i hw; rw [if_pos hw] at this; exact .inl this
        · rename_i hw; rw [if_neg hw] at this; exact this

/-- A REGION THAT DRAWS ITS ORDER. -/
theorem evDraw_sound (hcall : CallSound P Ω η B T' call) (hm : P.follows .mixedOrders = true) {Q : Exit → Act → World → Prop} {s s2 : St} (h : (evDraw P call ops s).leaf η = some s2) {ρ : List Hd} {a : Act} {w : World}
    (hA : At Ω η B T' ρ s a.tmps.toList w) (hK : Goes Ω η B T' ρ a.defers s2 (Q .normal)) (id : Nat) : (Code.region id ops true).wp P Q a w := by
  have hI1 := hA.inv.drawn (w.drawn + 1)
  have tail : (if Region.noSelect ops then
      explore P call (heldCells s.mem (lookOps P ops ops.toList s ([], [])).1 (lookOps P ops ops.toList s ([], [])).2) ops (clean ops) ops.size (Array.replicate ops.size false) s
    else .fail "select" : T St).leaf η = some s2 → (Code.region id ops true).wp P Q a w := by
    intro h
    by_cases hsel : Region.noSelect ops = true
    · rw [if_pos hsel] at h
      refine wp_region_noPanic (wp_region_held (S := Held ρ (heldCells s.mem (lookOps P ops ops.toList s ([], [])).1 (lookOps P ops ops.toList s ([], [])).2) { w with drawn := w.drawn + 1 }) hm ?_)
      exact explore_sound (fun h => h) hcall (heldCells_ok hI1 _ _ (row_blk hI1)) hsel h (List.prefix_refl _) (fun k _ b _ => rfl) ⟨hI1, hA.fr⟩ hK
    · rw [if_neg hsel] at h; simp [T.leaf] at h
  unfold evDraw at h
  by_cases hlex : (ops.toList.all (fun o => mayQuiet o.op) && Region.lexB .any ops) = true
  · simp only [hlex, if_true] at h
    have hlex : Region.lexB .any ops = true := by rw [Bool.and_eq_true] at hlex; exact hlex.2
    split at h
    · refine wp_region_quiet (C := fun w' => Inv Ω η B T' ρ s.mem w') hm hlex hI1 ?_
      exact evQuiet_sound hcall hI1 rfl h hA.fr fun a' q1 q2 q3 w' hw' => hK ρ a' w' (List.prefix_refl _) ⟨by rw [q1]; exact hw', q2⟩ q3
    · exact tail h
  · simp only [hlex, if_false, T.sound, Bool.false_eq_true] at h
    exact tail h
end
end Go.Sy
