/-
  SeqBack: a place is found again from its number by whoever knows a place less than 2^31 away, and the order of places is that of their numbers.
  No conditions: every input that can be read.
-/
import Derived.Test.YtbbippgnmllcoaaSyP
import Derived.Test.YtbbippgnmllcoaaRows
set_option linter.unusedVariables false
set_option linter.unusedSimpArgs false
namespace Go.Proofs.Ytbbippgnmllcoaa.seqBack
open Go.Sy Go.ChangeShapes Go.WideShapes Go.ChangeAt Go.RowKit
/-- What 'adit/aditlaw17.SeqBack' comes to. -/
def val (v0 : Int) (v1 : Int) (v2 : Int) : Bool :=
  let x0 : Bool := decide ((v1 : Int) < 0)
  let x1 : Int := w64 (v1 + 1)
  let x2 : Int := w64 (0 - x1)
  let x3 : Int := if x0 then x2 else v1
  let x4 : Int := Int.tmod x3 1099511627776
  let x5 : Int := Int.tmod v2 2147483648
  let x6 : Int := w64 (x4 + x5)
  let x7 : Bool := decide ((x6 : Int) < 0)
  let x8 : Bool := decide ((x6 : Int) > 1099511627776)
  let x9 : Bool := if x7 then true else x8
  let x10 : Bool := decide ((x6 : Int) < (-1099511627776))
  let x11 : Bool := if x10 then true else x8
  let x12 : Int := wu32 x4
  let x13 : Int := wu32 (v0 + x12)
  let x14 : Int := wu32 x6
  let x15 : Int := wu32 (v0 + x14)
  let x16 : Int := wu32 (x13 - x15)
  let x17 : Bool := decide ((x16 : Int) ≤ 2147483648)
  let x18 : Int := w64 x16
  let x19 : Int := w64 (x6 + x18)
  let x20 : Int := wu32 (0 - x16)
  let x21 : Int := w64 x20
  let x22 : Int := w64 (x6 - x21)
  let x23 : Int := if x17 then x19 else x22
  let x24 : Int := if x11 then 0 else x23
  let x25 : Bool := (x24 : Int) == x4
  let x26 : Bool := decide ((x4 : Int) < (-1099511627776))
  let x27 : Bool := decide ((x4 : Int) > 1099511627776)
  let x28 : Bool := if x26 then true else x27
  let x29 : Int := wu32 (x15 - x13)
  let x30 : Bool := decide ((x29 : Int) ≤ 2147483648)
  let x31 : Int := w64 x29
  let x32 : Int := w64 (x4 + x31)
  let x33 : Int := wu32 (0 - x29)
  let x34 : Int := w64 x33
  let x35 : Int := w64 (x4 - x34)
  let x36 : Int := if x30 then x32 else x35
  let x37 : Int := if x28 then 0 else x36
  let x38 : Bool := (x37 : Int) == x6
  let x39 : Int := w32 x29
  let x40 : Bool := decide ((x39 : Int) > 0)
  let x41 : Bool := decide ((x5 : Int) > 0)
  let x42 : Bool := (x40 : Bool) == x41
  let x43 : Int := w32 x16
  let x44 : Bool := decide ((x43 : Int) > 0)
  let x45 : Bool := decide ((x5 : Int) < 0)
  let x46 : Bool := (x44 : Bool) == x45
  let x47 : Bool := if x42 then x46 else false
  let x48 : Bool := if x38 then x47 else false
  let x49 : Bool := if x25 then x48 else false
  let x50 : Bool := if x9 then true else x49
  x50
def symArgs : List SV := [.int .u32 (.var 0), .int .i64 (.var 1), .int .i64 (.var 2)]
set_option maxRecDepth 100000 in
theorem run (v0 : Int) (v1 : Int) (v2 : Int) : (evFun Try.prog Ext.none 1000 4 symArgs []).okB (env [.i v0, .i v1, .i v2]) = val v0 v1 v2 := by kernel_rfl

theorem pure (a0 a1 a2 : Int) (b0 : 0 ≤ a0 ∧ a0 ≤ 4294967295) (b1 : -9223372036854775808 ≤ a1 ∧ a1 ≤ 9223372036854775807) (b2 : -9223372036854775808 ≤ a2 ∧ a2 ≤ 9223372036854775807) : val a0 a1 a2 = true := by
  unfold val
  extract_lets x0 x1 x2 x3 x4 x5 x6 x7 x8 x9 x10 x11 x12 x13 x14 x15 x16 x17 x18 x19 x20 x21 x22 x23 x24 x25 x26 x27 x28 x29 x30 x31 x32 x33 x34 x35 x36 x37 x38 x39 x40 x41 x42 x43 x44 x45 x46 x47 x48 x49 x50
  have h3 : 0 ≤ x3 ∧ x3 ≤ 9223372036854775807 := by
    show 0 ≤ (if decide (a1 < 0) = true then w64 (0 - w64 (a1 + 1)) else a1) ∧ (if decide (a1 < 0) = true then w64 (0 - w64 (a1 + 1)) else a1) ≤ 9223372036854775807
    by_cases h : a1 < 0
    · rw [if_pos (by simpa using h), w64_in (n := a1 + 1) (by omega) (by omega), w64_in (by omega) (by omega)]; omega
    · rw [if_neg (by simpa using h)]; omega
  have h4 : 0 ≤ x4 ∧ x4 < 1099511627776 := by
    show 0 ≤ Int.tmod x3 1099511627776 ∧ Int.tmod x3 1099511627776 < 1099511627776
    rw [Int.tmod_eq_emod_of_nonneg h3.1]; omega
  have h5 : -2147483648 < x5 ∧ x5 < 2147483648 := by
    show -2147483648 < Int.tmod a2 2147483648 ∧ Int.tmod a2 2147483648 < 2147483648
    rcases Int.lt_or_le a2 0 with h | h
    · have e : Int.tmod a2 2147483648 = -(Int.tmod (-a2) 2147483648) := by rw [Int.neg_tmod]; omega
      rw [e, Int.tmod_eq_emod_of_nonneg (by omega)]; omega
    · rw [Int.tmod_eq_emod_of_nonneg h]; omega
  clear_value x4 x5
  have e6 : x6 = x4 + x5 := w64_in (by omega) (by omega)
  by_cases h9 : x9 = true
  · rw [show x50 = true from by show (if x9 then true else x49) = true; rw [h9]; rfl]
  have h6 : 0 ≤ x6 ∧ x6 ≤ 1099511627776 := by
    have : ¬ (if decide (x6 < 0) = true then true else decide (x6 > 1099511627776)) = true := h9
    by_cases q : x6 < 0
    · rw [if_pos (by simpa using q)] at this; exact absurd rfl this
    · rw [if_neg (by simpa using q)] at this; simp at this; omega
  have f24 : x24 = x4 := by
    have e16 : x16 = (x4 - x6) % 4294967296 := by
      show wu32 (wu32 (a0 + wu32 x4) - wu32 (a0 + wu32 x6)) = _
      simp only [wu32_eq]; omega
    have e11 : x11 = false := by
      show (if decide (x6 < -1099511627776) = true then true else decide (x6 > 1099511627776)) = false
      rw [if_neg (by simp; omega)]; simp; omega
    show (if x11 = true then 0 else if decide (x16 ≤ 2147483648) = true then w64 (x6 + w64 x16) else w64 (x6 - w64 (wu32 (0 - x16)))) = x4
    rw [e11, if_neg (by decide)]
    have h16 : 0 ≤ x16 ∧ x16 < 4294967296 := by rw [e16]; omega
    clear_value x16
    by_cases q : x16 ≤ 2147483648
    · rw [if_pos (by simpa using q), w64_in (n := x16) (by omega) (by omega), w64_in (by omega) (by omega)]; omega
    · rw [if_neg (by simpa using q), wu32_eq, w64_in (n := (0 - x16) % 4294967296) (by omega) (by omega), w64_in (by omega) (by omega)]; omega
  have f37 : x37 = x6 := by
    have e29 : x29 = (x6 - x4) % 4294967296 := by
      show wu32 (wu32 (a0 + wu32 x6) - wu32 (a0 + wu32 x4)) = _
      simp only [wu32_eq]; omega
    have e28 : x28 = false := by
      show (if decide (x4 < -1099511627776) = true then true else decide (x4 > 1099511627776)) = false
      rw [if_neg (by simp; omega)]; simp; omega
    show (if x28 = true then 0 else if decide (x29 ≤ 2147483648) = true then w64 (x4 + w64 x29) else w64 (x4 - w64 (wu32 (0 - x29)))) = x6
    rw [e28, if_neg (by decide)]
    have h29 : 0 ≤ x29 ∧ x29 < 4294967296 := by rw [e29]; omega
    clear_value x29
    by_cases q : x29 ≤ 2147483648
    · rw [if_pos (by simpa using q), w64_in (n := x29) (by omega) (by omega), w64_in (by omega) (by omega)]; omega
    · rw [if_neg (by simpa using q), wu32_eq, w64_in (n := (0 - x29) % 4294967296) (by omega) (by omega), w64_in (by omega) (by omega)]; omega
  have f42 : x42 = true := by
    show ((decide (w32 (wu32 (wu32 (a0 + wu32 x6) - wu32 (a0 + wu32 x4))) > 0) : Bool) == decide (x5 > 0)) = true
    have : (w32 (wu32 (wu32 (a0 + wu32 x6) - wu32 (a0 + wu32 x4))) > 0) ↔ x5 > 0 := by
      simp only [wu32_eq, w32_eq]; split <;> omega
    simp [this]
  have f46 : x46 = true := by
    show ((decide (w32 (wu32 (wu32 (a0 + wu32 x4) - wu32 (a0 + wu32 x6))) > 0) : Bool) == decide (x5 < 0)) = true
    have : (w32 (wu32 (wu32 (a0 + wu32 x4) - wu32 (a0 + wu32 x6))) > 0) ↔ x5 < 0 := by
      simp only [wu32_eq, w32_eq]; split <;> omega
    simp [this]
  have f25 : x25 = true := by show (x24 == x4) = true; rw [f24]; simp
  have f38 : x38 = true := by show (x37 == x6) = true; rw [f37]; simp
  show (if x9 then true else if x25 then (if x38 then (if x42 then x46 else false) else false) else false) = true
  rw [f25, f38, f42, f46]; simp

theorem own : ownKnob Try.prog.godebug = none := by kernel_rfl
set_option maxRecDepth 100000 in
theorem lifted (os : Os) (started : os.Started) (H : Type) (enc : TypeId × Value → H) :
    ReturnsInHanded {} Try.checked os 4 .any (Rows.seqBackSpec.pre6 enc Try.prog Try.f4 Rows.seqBackRow.domain false) (Rows.seqBackSpec.post enc Try.prog Try.f4 false true false false) := by
  refine returnsInHanded_of_change (C := Try.checked) own started (by kernel_rfl) Try.func4
    (ChangeSpec.witness6 (enc := enc) (C := Try.checked) false ⟨#[], #[.int .u32 0, .int .i64 0, .int .i64 0], []⟩ 8 (by kernel_rfl) (by kernel_rfl) (by kernel_rfl) (by kernel_rfl)) ?_
  intro W base args ds gs before hval0 hW hcnd _
  have hval : ∀ (j : Nat) t v, Try.f4.params[j]? = some t → args[j]? = some v → Value.okWide Try.prog W .any base t v := hval0
  have hW' := hW
  obtain ⟨p, q, hA0, hV, rfl, hfz, hnd⟩ := hW
  have hA : DataW.TrodAll enc Try.prog W 0 (fun _ => true) true Try.f4.params.toList args.toList ds p := hA0
  rw [Try.params4] at hA hval
  obtain ⟨v0, vs0, d0, ds0, p0, q0, hargs, rfl, rfl, h0, r0⟩ := trodAll_cons hA
  obtain ⟨v1, vs1, d1, ds1, p1, q1, rfl, rfl, rfl, h1, r1⟩ := trodAll_cons r0
  obtain ⟨v2, vs2, d2, ds2, p2, q2, rfl, rfl, rfl, h2, r2⟩ := trodAll_cons r1
  obtain ⟨rfl, rfl, rfl⟩ := trodAll_nil r2
  obtain rfl : args = #[v0, v1, v2] := by cases args; simp_all
  obtain ⟨rfl, rfl⟩ := trodVars_none hV
  obtain ⟨a0, rfl, c0⟩ := argWide_int Try.underlying22 (hval 0 22 v0 rfl rfl)
  have b0 := has_u32 c0
  obtain ⟨a1, rfl, c1⟩ := argWide_int Try.underlying3 (hval 1 3 v1 rfl rfl)
  have b1 := has_i64 c1
  obtain ⟨a2, rfl, c2⟩ := argWide_int Try.underlying3 (hval 2 3 v2 rfl rfl)
  have b2 := has_i64 c2
  refine (law_walk (P := Try.prog) Try.checked.mixed (n := 1000) (f := 4) (args := symArgs) (η := env [.i a0, .i a1, .i a2]) (Z := Ext.none) (Ω := Om.none) (w := W) ExtOK.none (by intro b cs h; simp [env] at h) (by rw [run]; exact pure a0 a1 a2 b0 b1 b2) (vs := [.int .u32 a0, .int .i64 a1, .int .i64 a2]) (Rels.cons (rel_int rfl) (Rels.cons (rel_int rfl) (Rels.cons (rel_int rfl) (Rels.nil))))).mono fun e W' ⟨he, hb⟩ => ?_
  subst he
  exact ⟨_, rfl, law_post (by kernel_rfl) (by rw [Try.params4]; intro t ht; simp at ht; rcases ht with rfl | rfl | rfl <;> exact ⟨by kernel_rfl, of_decide_eq_true (by kernel_rfl)⟩) (by kernel_rfl) Try.underlying4 rfl ⟨rfl, rfl, rfl⟩ hW' hb⟩

theorem over : Rows.seqBackRow.holds Try.pinned (OpenSpec.ofChange Rows.seqBackSpec) :=
  OpenClaim.holds_of_wide 4 Try.f4 rfl rfl rfl rfl rfl rfl rfl ⟨rfl, rfl, rfl, rfl, rfl⟩ rfl rfl rfl rfl rfl (by kernel_rfl) Try.func4 (by kernel_rfl)
    (of_decide_eq_true (by kernel_rfl)) (by unfold Func.isWrapper; first | (rw [if_pos (by decide +kernel)]; kernel_rfl) | (rw [if_neg (by decide +kernel)]; exact ⟨rfl, rfl⟩))
    (fun os started H enc _ => lifted os started H enc)
end Go.Proofs.Ytbbippgnmllcoaa.seqBack
namespace Go.Proofs.Ytbbippgnmllcoaa
/-- THE STATEMENT. -/
theorem seqBack_holds : Rows.SeqBackSaid := seqBack.over
#print axioms seqBack_holds
end Go.Proofs.Ytbbippgnmllcoaa
