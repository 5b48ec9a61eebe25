/-
  Proved: aditlaw19.CtlHalves returns true and leaves its arguments as they read: behind a loss the threshold is half of what was under way, and at least two segments.
  No conditions: every input that can be read.
-/
import Derived.Test.YtgjdhokafmmhcaaSxM
import Derived.Test.YtgjdhokafmmhcaaRows
set_option linter.unusedVariables false
set_option linter.unusedSimpArgs false
namespace Go.Proofs.Ytgjdhokafmmhcaa.ctlHalves
open Go.Sx Go.ChangeShapes Go.WideShapes Go.ChangeAt Go.RowKit
/-- What 'adit/aditlaw19.CtlHalves' comes to. -/
def val (v0 : Int) (v1 : Int) : Bool :=
  let x0 : Int := Int.tmod v1 1000000000
  let x1 : Bool := decide ((x0 : Int) < 0)
  let x2 : Int := w64 (0 - x0)
  let x3 : Int := if x1 then x2 else x0
  let x4 : Int := zmax x3 0
  let x5 : Int := zmin x4 1073741823
  let x6 : Int := w64 (Int.tdiv x5 2)
  let x7 : Int := zmax v0 1
  let x8 : Int := zmin x7 65535
  let x9 : Int := zmax x8 1
  let x10 : Int := zmin x9 65535
  let x11 : Int := w64 (2 * x10)
  let x12 : Int := zmax x6 x11
  let x13 : Int := w64 (Int.tdiv x3 2)
  let x14 : Int := w64 (2 * x8)
  let x15 : Bool := decide ((x13 : Int) < x14)
  let x16 : Int := if x15 then x14 else x13
  let x17 : Bool := (x12 : Int) == x16
  let x18 : Bool := (x10 : Int) == x8
  let x19 : Int := zmax x10 1
  let x20 : Int := zmin x19 65535
  let x21 : Int := zmax x20 1
  let x22 : Int := zmin x21 65535
  let x23 : Int := w64 (2 * x22)
  let x24 : Int := zmax x6 x23
  let x25 : Bool := (x24 : Int) == x16
  let x26 : Int := w64 (3 * x22)
  let x27 : Int := w64 (x24 + x26)
  let x28 : Int := w64 (3 * x8)
  let x29 : Int := w64 (x16 + x28)
  let x30 : Bool := (x27 : Int) == x29
  let x31 : Int := w64 (4 * x8)
  let x32 : Int := zmax x14 4380
  let x33 : Int := zmin x31 x32
  let x34 : Int := zmax x33 x10
  let x35 : Int := zmin x34 1073741823
  let x36 : Bool := (x35 : Int) == x33
  let x37 : Int := zmin x10 99999
  let x38 : Int := zmax x10 x20
  let x39 : Int := zmin x38 1073741823
  let x40 : Int := zmin 65535 x39
  let x41 : Int := zmax x8 0
  let x42 : Int := zmin x41 1073741823
  let x43 : Int := w64 (x40 - x42)
  let x44 : Int := zmin x37 x43
  let x45 : Bool := decide ((x44 : Int) ≤ 0)
  let x46 : Bool := decide ((x44 : Int) < x10)
  let x47 : Bool := decide ((x42 : Int) > 0)
  let x48 : Bool := decide ((x44 : Int) < 99999)
  let x49 : Bool := if x47 then x48 else false
  let x50 : Bool := if x46 then x49 else false
  let x51 : Int := if x50 then 0 else x44
  let x52 : Int := if x45 then 0 else x51
  let x53 : Bool := (x52 : Int) == 0
  let x54 : Bool := if x36 then x53 else false
  let x55 : Bool := if x30 then x54 else false
  let x56 : Bool := if x25 then x55 else false
  let x57 : Bool := if x18 then x56 else false
  let x58 : Bool := if x17 then x57 else false
  x58
def symArgs : List SV := [.int .i64 (.var 0), .int .i64 (.var 1)]
set_option maxRecDepth 100000 in
theorem run (v0 : Int) (v1 : Int) : (evFun Try.prog 1000 4 symArgs []).okB (env [.i v0, .i v1]) = val v0 v1 := by kernel_rfl

theorem pure (v0 v1 : Int) (h0 : -9223372036854775808 ≤ v0 ∧ v0 ≤ 9223372036854775807) (h1 : -9223372036854775808 ≤ v1 ∧ v1 ≤ 9223372036854775807) : val v0 v1 = true := by
  unfold val
  extract_lets x0 x1 x2 x3 x4 x5 x6 x7 x8 x9 x10 x11 x12 x13 x14 x15 x16 x17 x18 x19 x20 x21 x22 x23 x24 x25 x26 x27 x28 x29 x30 x31 x32 x33 x34 x35 x36 x37 x38 x39 x40 x41 x42 x43 x44 x45 x46 x47 x48 x49 x50 x51 x52 x53 x54 x55 x56 x57 x58
  have b0 : -1000000000 < x0 ∧ x0 < 1000000000 := by
    have e : x0 = Int.tmod v1 1000000000 := rfl
    rw [e]
    rcases Int.le_total 0 v1 with h | h
    · rw [Int.tmod_eq_emod_of_nonneg h]; omega
    · have := Int.neg_tmod (-v1) 1000000000
      simp only [Int.neg_neg] at this
      rw [this, Int.tmod_eq_emod_of_nonneg (by omega)]; omega
  have e2 : x2 = -x0 := by show w64 (0 - x0) = _; rw [w64_in] <;> omega
  have b3 : 0 ≤ x3 ∧ x3 < 1000000000 := by grind
  have e5 : x5 = x3 := by grind [zmin, zmax]
  have e6 : x6 = x3 / 2 := by show w64 (Int.tdiv x5 2) = _; rw [e5, Int.tdiv_eq_ediv_of_nonneg b3.1, w64_in] <;> omega
  have e13 : x13 = x3 / 2 := by show w64 (Int.tdiv x3 2) = _; rw [Int.tdiv_eq_ediv_of_nonneg b3.1, w64_in] <;> omega
  have b8 : 1 ≤ x8 ∧ x8 ≤ 65535 := by grind [zmin, zmax]
  have e10 : x10 = x8 := by grind [zmin, zmax]
  have e20 : x20 = x8 := by grind [zmin, zmax]
  have e22 : x22 = x8 := by grind [zmin, zmax]
  have e11 : x11 = 2 * x8 := by show w64 (2 * x10) = _; rw [e10, w64_in] <;> omega
  have e14 : x14 = 2 * x8 := by show w64 (2 * x8) = _; rw [w64_in] <;> omega
  have e23 : x23 = 2 * x8 := by show w64 (2 * x22) = _; rw [e22, w64_in] <;> omega
  have e12 : x12 = x16 := by grind [zmin, zmax]
  have e24 : x24 = x16 := by grind [zmin, zmax]
  have e26 : x26 = x28 := by show w64 (3 * x22) = w64 (3 * x8); rw [e22]
  have e27 : x27 = x29 := by show w64 (x24 + x26) = w64 (x16 + x28); rw [e24, e26]
  have e31 : x31 = 4 * x8 := by show w64 (4 * x8) = _; rw [w64_in] <;> omega
  have e35 : x35 = x33 := by grind [zmin, zmax]
  have e39 : x39 = x8 := by grind [zmin, zmax]
  have e42 : x42 = x8 := by grind [zmin, zmax]
  have e43 : x43 = 0 := by show w64 (x40 - x42) = _; rw [w64_in] <;> grind [zmin, zmax]
  have e44 : x44 ≤ 0 := by grind [zmin, zmax]
  have e52 : x52 = 0 := by grind
  grind

theorem own : ownKnob Try.prog.godebug = none := by kernel_rfl
set_option maxRecDepth 100000 in
theorem lifted (os : Os) (started : os.Started) (H : Type) (enc : TypeId × Value → H) :
    ReturnsInHanded {} Try.checked os 4 .any (Rows.ctlHalvesSpec.pre6 enc Try.prog Try.f4 Rows.ctlHalvesRow.domain false) (Rows.ctlHalvesSpec.post enc Try.prog Try.f4 false true false false) := by
  refine returnsInHanded_of_change (C := Try.checked) own started (by kernel_rfl) Try.func4
    (ChangeSpec.witness6 (enc := enc) (C := Try.checked) false ⟨#[], #[.int .i64 0, .int .i64 0], []⟩ 8 (by kernel_rfl) (by kernel_rfl) (by kernel_rfl) (by kernel_rfl)) ?_
  intro W base args ds gs before hval0 hW hcnd _
  have hval : ∀ (j : Nat) t v, Try.f4.params[j]? = some t → args[j]? = some v → Value.okWide Try.prog W .any base t v := hval0
  have hW' := hW
  obtain ⟨p, q, hA0, hV, rfl, hfz, hnd⟩ := hW
  have hA : DataW.TrodAll enc Try.prog W 0 (fun _ => true) true Try.f4.params.toList args.toList ds p := hA0
  rw [Try.params4] at hA hval
  obtain ⟨v0, vs0, d0, ds0, p0, q0, hargs, rfl, rfl, h0, r0⟩ := trodAll_cons hA
  obtain ⟨v1, vs1, d1, ds1, p1, q1, rfl, rfl, rfl, h1, r1⟩ := trodAll_cons r0
  obtain ⟨rfl, rfl, rfl⟩ := trodAll_nil r1
  obtain rfl : args = #[v0, v1] := by cases args; simp_all
  obtain ⟨rfl, rfl⟩ := trodVars_none hV
  obtain ⟨a0, rfl, c0⟩ := argWide_int Try.underlying3 (hval 0 3 v0 rfl rfl)
  have b0 := has_i64 c0
  obtain ⟨a1, rfl, c1⟩ := argWide_int Try.underlying3 (hval 1 3 v1 rfl rfl)
  have b1 := has_i64 c1
  refine (law_walk (P := Try.prog) Try.checked.mixed (n := 1000) (f := 4) (args := symArgs) (η := env [.i a0, .i a1]) (by rw [run]; exact pure a0 a1 b0 b1) (vs := [.int .i64 a0, .int .i64 a1]) (Rels.cons (rel_int rfl) (Rels.cons (rel_int rfl) (Rels.nil))) W).mono fun e W' ⟨he, hb⟩ => ?_
  subst he
  exact ⟨_, rfl, law_post (by kernel_rfl) (by rw [Try.params4]; intro t ht; simp at ht; rcases ht with rfl | rfl <;> exact ⟨by kernel_rfl, of_decide_eq_true (by kernel_rfl)⟩) (by kernel_rfl) Try.underlying4 rfl ⟨rfl, rfl, rfl⟩ hW' hb⟩

theorem over : Rows.ctlHalvesRow.holds Try.pinned (OpenSpec.ofChange Rows.ctlHalvesSpec) :=
  OpenClaim.holds_of_wide 4 Try.f4 rfl rfl rfl rfl rfl rfl rfl ⟨rfl, rfl, rfl, rfl, rfl⟩ rfl rfl rfl rfl rfl (by kernel_rfl) Try.func4 (by kernel_rfl)
    (of_decide_eq_true (by kernel_rfl)) (by unfold Func.isWrapper; first | (rw [if_pos (by decide +kernel)]; kernel_rfl) | (rw [if_neg (by decide +kernel)]; exact ⟨rfl, rfl⟩))
    (fun os started H enc _ => lifted os started H enc)
end Go.Proofs.Ytgjdhokafmmhcaa.ctlHalves
namespace Go.Proofs.Ytgjdhokafmmhcaa
/-- THE STATEMENT. -/
theorem ctlHalves_holds : Rows.CtlHalvesSaid := ctlHalves.over
#print axioms ctlHalves_holds
end Go.Proofs.Ytgjdhokafmmhcaa
