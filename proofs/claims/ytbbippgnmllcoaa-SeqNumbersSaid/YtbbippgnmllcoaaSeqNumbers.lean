/-
  SeqNumbers: numbers that go round at 2^32 are held against one another, and turned into places of the stream and back, just as P17.1 says.
  No conditions: every input that can be read.
-/
import Derived.Test.YtbbippgnmllcoaaSyP
import Derived.Test.YtbbippgnmllcoaaRows
set_option linter.unusedVariables false
set_option linter.unusedSimpArgs false
namespace Go.Proofs.Ytbbippgnmllcoaa.seqNumbers
open Go.Sy Go.ChangeShapes Go.WideShapes Go.ChangeAt Go.RowKit
/-- What 'adit/aditlaw17.SeqNumbers' comes to. -/
def val (v0 : Int) (v1 : Int) (v2 : Int) : Bool :=
  let x0 : Int := wu32 (v1 - v0)
  let x1 : Int := w32 x0
  let x2 : Bool := decide ((x1 : Int) > 0)
  let x3 : Bool := decide ((x0 : Int) ≥ 1)
  let x4 : Bool := decide ((x0 : Int) < 2147483648)
  let x5 : Bool := if x3 then x4 else false
  let x6 : Bool := (x2 : Bool) == x5
  let x7 : Int := wu32 v2
  let x8 : Int := wu32 (v0 + x7)
  let x9 : Int := Int.tmod v2 4294967296
  let x10 : Bool := decide ((x9 : Int) < 0)
  let x11 : Int := w64 (x9 + 4294967296)
  let x12 : Int := if x10 then x11 else x9
  let x13 : Int := w64 v0
  let x14 : Int := w64 (x12 + x13)
  let x15 : Int := Int.tmod x14 4294967296
  let x16 : Bool := decide ((x15 : Int) < 0)
  let x17 : Int := w64 (x15 + 4294967296)
  let x18 : Int := if x16 then x17 else x15
  let x19 : Int := wu32 x18
  let x20 : Bool := (x8 : Int) == x19
  let x21 : Bool := decide ((v2 : Int) < (-1099511627776))
  let x22 : Bool := decide ((v2 : Int) > 1099511627776)
  let x23 : Bool := if x21 then true else x22
  let x24 : Int := wu32 (v1 - x8)
  let x25 : Bool := decide ((x24 : Int) ≤ 2147483648)
  let x26 : Int := w64 x24
  let x27 : Int := w64 (v2 + x26)
  let x28 : Int := wu32 (0 - x24)
  let x29 : Int := w64 x28
  let x30 : Int := w64 (v2 - x29)
  let x31 : Int := if x25 then x27 else x30
  let x32 : Int := if x23 then 0 else x31
  let x33 : Int := w64 v1
  let x34 : Int := w64 (x33 - x13)
  let x35 : Int := w64 (x34 - x12)
  let x36 : Int := Int.tmod x35 4294967296
  let x37 : Bool := decide ((x36 : Int) < 0)
  let x38 : Int := w64 (x36 + 4294967296)
  let x39 : Int := if x37 then x38 else x36
  let x40 : Bool := decide ((x39 : Int) > 2147483648)
  let x41 : Int := w64 (x39 - 4294967296)
  let x42 : Int := if x40 then x41 else x39
  let x43 : Int := w64 (v2 + x42)
  let x44 : Int := if x23 then 0 else x43
  let x45 : Bool := (x32 : Int) == x44
  let x46 : Bool := if x20 then x45 else false
  let x47 : Bool := if x6 then x46 else false
  x47
def symArgs : List SV := [.int .u32 (.var 0), .int .u32 (.var 1), .int .i64 (.var 2)]
set_option maxRecDepth 100000 in
theorem run (v0 : Int) (v1 : Int) (v2 : Int) : (evFun Try.prog Ext.none 1000 3 symArgs []).okB (env [.i v0, .i v1, .i v2]) = val v0 v1 v2 := by kernel_rfl

theorem pure (a0 a1 a2 : Int) (b0 : 0 ≤ a0 ∧ a0 ≤ 4294967295) (b1 : 0 ≤ a1 ∧ a1 ≤ 4294967295) (b2 : -9223372036854775808 ≤ a2 ∧ a2 ≤ 9223372036854775807) : val a0 a1 a2 = true := by
  unfold val
  extract_lets x0 x1 x2 x3 x4 x5 x6 x7 x8 x9 x10 x11 x12 x13 x14 x15 x16 x17 x18 x19 x20 x21 x22 x23 x24 x25 x26 x27 x28 x29 x30 x31 x32 x33 x34 x35 x36 x37 x38 x39 x40 x41 x42 x43 x44 x45 x46 x47
  have tm : ∀ n : Int, -4294967296 < Int.tmod n 4294967296 ∧ Int.tmod n 4294967296 < 4294967296 ∧ (Int.tmod n 4294967296 = n % 4294967296 ∨ Int.tmod n 4294967296 = n % 4294967296 - 4294967296) := by
    intro n
    rcases Int.lt_or_le n 0 with h | h
    · have e : Int.tmod n 4294967296 = -(Int.tmod (-n) 4294967296) := by rw [Int.neg_tmod]; omega
      rw [e, Int.tmod_eq_emod_of_nonneg (by omega)]; omega
    · rw [Int.tmod_eq_emod_of_nonneg h]; omega
  have rest : ∀ n : Int, (if decide (Int.tmod n 4294967296 < 0) = true then w64 (Int.tmod n 4294967296 + 4294967296) else Int.tmod n 4294967296) = n % 4294967296 := by
    intro n
    have := tm n
    by_cases h : Int.tmod n 4294967296 < 0
    · rw [if_pos (by simpa using h), w64_in (by omega) (by omega)]; omega
    · rw [if_neg (by simpa using h)]; omega
  have e6 : x6 = true := by
    show ((decide (w32 (wu32 (a1 - a0)) > 0) : Bool) == (if decide (wu32 (a1 - a0) ≥ 1) = true then decide (wu32 (a1 - a0) < 2147483648) else false)) = true
    have h : (w32 (wu32 (a1 - a0)) > 0) ↔ (wu32 (a1 - a0) ≥ 1 ∧ wu32 (a1 - a0) < 2147483648) := by
      simp only [wu32_eq, w32_eq]; split <;> omega
    by_cases q : wu32 (a1 - a0) ≥ 1
    · rw [if_pos (by simpa using q)]; simp [h, q]
    · rw [if_neg (by simpa using q)]; simp [h, q]
  have e12 : x12 = a2 % 4294967296 := rest a2
  have e13 : x13 = a0 := w64_in (by omega) (by omega)
  have e14 : x14 = a2 % 4294967296 + a0 := by show w64 (x12 + x13) = _; rw [e12, e13, w64_in (by omega) (by omega)]
  have e18 : x18 = (a2 % 4294967296 + a0) % 4294967296 := by rw [← e14]; exact rest x14
  have e8 : x8 = (a0 + a2) % 4294967296 := by show wu32 (a0 + wu32 a2) = _; simp only [wu32_eq]; omega
  have e20 : x20 = true := by
    show (x8 == wu32 x18) = true
    rw [e8, e18, wu32_eq]; simp; omega
  have e35 : x35 = a1 - a0 - a2 % 4294967296 := by
    show w64 (w64 (w64 a1 - x13) - x12) = _
    rw [e12, e13, w64_in (n := a1) (by omega) (by omega), w64_in (n := a1 - a0) (by omega) (by omega), w64_in (by omega) (by omega)]
  have e39 : x39 = (a1 - a0 - a2 % 4294967296) % 4294967296 := by rw [← e35]; exact rest x35
  have e24 : x24 = x39 := by
    rw [e39]; show wu32 (a1 - x8) = _
    rw [e8, wu32_eq]; omega
  have b39 : 0 ≤ x39 ∧ x39 < 4294967296 := by rw [e39]; omega
  have e45 : x45 = true := by
    show ((if x23 = true then 0 else if decide (x24 ≤ 2147483648) = true then w64 (a2 + w64 x24) else w64 (a2 - w64 (wu32 (0 - x24)))) == (if x23 = true then 0 else w64 (a2 + (if decide (x39 > 2147483648) = true then w64 (x39 - 4294967296) else x39)))) = true
    rw [e24]
    have hx23 : x23 = (if decide (a2 < -1099511627776) = true then true else decide (a2 > 1099511627776)) := rfl
    by_cases h : x23 = true
    · rw [if_pos h, if_pos h]; rfl
    · rw [if_neg h, if_neg h]
      have hb : -1099511627776 ≤ a2 ∧ a2 ≤ 1099511627776 := by
        rw [hx23] at h
        by_cases q : a2 < -1099511627776
        · rw [if_pos (by simpa using q)] at h; exact absurd rfl h
        · rw [if_neg (by simpa using q)] at h; simp at h; omega
      clear_value x39
      by_cases q : x39 ≤ 2147483648
      · rw [if_pos (by simpa using q), if_neg (by simp; omega), w64_in (n := x39) (by omega) (by omega)]; simp
      · rw [if_neg (by simpa using q), if_pos (by simp; omega), wu32_eq, w64_in (n := (0 - x39) % 4294967296) (by omega) (by omega), w64_in (n := x39 - 4294967296) (by omega) (by omega)]
        have : a2 - (0 - x39) % 4294967296 = a2 + (x39 - 4294967296) := by omega
        rw [this]; simp
  show (if x6 = true then (if x20 = true then x45 else false) else false) = true
  rw [e6, e20, e45]; rfl

theorem own : ownKnob Try.prog.godebug = none := by kernel_rfl
set_option maxRecDepth 100000 in
theorem lifted (os : Os) (started : os.Started) (H : Type) (enc : TypeId × Value → H) :
    ReturnsInHanded {} Try.checked os 3 .any (Rows.seqNumbersSpec.pre6 enc Try.prog Try.f3 Rows.seqNumbersRow.domain false) (Rows.seqNumbersSpec.post enc Try.prog Try.f3 false true false false) := by
  refine returnsInHanded_of_change (C := Try.checked) own started (by kernel_rfl) Try.func3
    (ChangeSpec.witness6 (enc := enc) (C := Try.checked) false ⟨#[], #[.int .u32 0, .int .u32 0, .int .i64 0], []⟩ 8 (by kernel_rfl) (by kernel_rfl) (by kernel_rfl) (by kernel_rfl)) ?_
  intro W base args ds gs before hval0 hW hcnd _
  have hval : ∀ (j : Nat) t v, Try.f3.params[j]? = some t → args[j]? = some v → Value.okWide Try.prog W .any base t v := hval0
  have hW' := hW
  obtain ⟨p, q, hA0, hV, rfl, hfz, hnd⟩ := hW
  have hA : DataW.TrodAll enc Try.prog W 0 (fun _ => true) true Try.f3.params.toList args.toList ds p := hA0
  rw [Try.params3] at hA hval
  obtain ⟨v0, vs0, d0, ds0, p0, q0, hargs, rfl, rfl, h0, r0⟩ := trodAll_cons hA
  obtain ⟨v1, vs1, d1, ds1, p1, q1, rfl, rfl, rfl, h1, r1⟩ := trodAll_cons r0
  obtain ⟨v2, vs2, d2, ds2, p2, q2, rfl, rfl, rfl, h2, r2⟩ := trodAll_cons r1
  obtain ⟨rfl, rfl, rfl⟩ := trodAll_nil r2
  obtain rfl : args = #[v0, v1, v2] := by cases args; simp_all
  obtain ⟨rfl, rfl⟩ := trodVars_none hV
  obtain ⟨a0, rfl, c0⟩ := argWide_int Try.underlying22 (hval 0 22 v0 rfl rfl)
  have b0 := has_u32 c0
  obtain ⟨a1, rfl, c1⟩ := argWide_int Try.underlying22 (hval 1 22 v1 rfl rfl)
  have b1 := has_u32 c1
  obtain ⟨a2, rfl, c2⟩ := argWide_int Try.underlying3 (hval 2 3 v2 rfl rfl)
  have b2 := has_i64 c2
  refine (law_walk (P := Try.prog) Try.checked.mixed (n := 1000) (f := 3) (args := symArgs) (η := env [.i a0, .i a1, .i a2]) (Z := Ext.none) (Ω := Om.none) (w := W) ExtOK.none (by intro b cs h; simp [env] at h) (by rw [run]; exact pure a0 a1 a2 b0 b1 b2) (vs := [.int .u32 a0, .int .u32 a1, .int .i64 a2]) (Rels.cons (rel_int rfl) (Rels.cons (rel_int rfl) (Rels.cons (rel_int rfl) (Rels.nil))))).mono fun e W' ⟨he, hb⟩ => ?_
  subst he
  exact ⟨_, rfl, law_post (by kernel_rfl) (by rw [Try.params3]; intro t ht; simp at ht; rcases ht with rfl | rfl | rfl <;> exact ⟨by kernel_rfl, of_decide_eq_true (by kernel_rfl)⟩) (by kernel_rfl) Try.underlying4 rfl ⟨rfl, rfl, rfl⟩ hW' hb⟩

theorem over : Rows.seqNumbersRow.holds Try.pinned (OpenSpec.ofChange Rows.seqNumbersSpec) :=
  OpenClaim.holds_of_wide 3 Try.f3 rfl rfl rfl rfl rfl rfl rfl ⟨rfl, rfl, rfl, rfl, rfl⟩ rfl rfl rfl rfl rfl (by kernel_rfl) Try.func3 (by kernel_rfl)
    (of_decide_eq_true (by kernel_rfl)) (by unfold Func.isWrapper; first | (rw [if_pos (by decide +kernel)]; kernel_rfl) | (rw [if_neg (by decide +kernel)]; exact ⟨rfl, rfl⟩))
    (fun os started H enc _ => lifted os started H enc)
end Go.Proofs.Ytbbippgnmllcoaa.seqNumbers
namespace Go.Proofs.Ytbbippgnmllcoaa
/-- THE STATEMENT. -/
theorem seqNumbers_holds : Rows.SeqNumbersSaid := seqNumbers.over
#print axioms seqNumbers_holds
end Go.Proofs.Ytbbippgnmllcoaa
