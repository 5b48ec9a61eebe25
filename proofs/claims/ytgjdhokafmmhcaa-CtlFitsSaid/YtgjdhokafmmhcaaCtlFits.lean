/-
  Proved: aditlaw19.CtlFits returns true and leaves its arguments as they read: how much may be sent now is as P19.6 says, and never more than what waits and than the other end's window.
  No conditions: every input that can be read.
-/
import Derived.Test.YtgjdhokafmmhcaaSxM
import Derived.Test.YtgjdhokafmmhcaaRows
set_option linter.unusedVariables false
set_option linter.unusedSimpArgs false
namespace Go.Proofs.Ytgjdhokafmmhcaa.ctlFits
open Go.Sx Go.ChangeShapes Go.WideShapes Go.ChangeAt Go.RowKit
/-- What 'adit/aditlaw19.CtlFits' comes to. -/
def val (v0 : Int) (v1 : Int) (v2 : Int) (v3 : Int) (v4 : Bool) (v5 : Int) (v6 : Int) (v7 : Int) (v8 : Int) (v9 : Int) (v10 : Bool) : Bool :=
  let x0 : Int := zmax v6 1
  let x1 : Int := zmin x0 65535
  let x2 : Int := zmax v9 0
  let x3 : Int := zmin x2 1073741823
  let x4 : Int := zmin x1 x3
  let x5 : Int := zmax v7 0
  let x6 : Int := zmin x5 1073741823
  let x7 : Int := zmax v0 1
  let x8 : Int := zmin x7 65535
  let x9 : Int := zmax v1 x8
  let x10 : Int := zmin x9 1073741823
  let x11 : Int := zmin x6 x10
  let x12 : Int := zmax v8 0
  let x13 : Int := zmin x12 1073741823
  let x14 : Int := w64 (x11 - x13)
  let x15 : Int := zmin x4 x14
  let x16 : Bool := decide ((x15 : Int) ≤ 0)
  let x17 : Bool := decide ((x15 : Int) < x1)
  let x18 : Bool := decide ((x13 : Int) > 0)
  let x19 : Bool := decide ((x15 : Int) < x3)
  let x20 : Bool := !v10
  let x21 : Bool := if x19 then true else x20
  let x22 : Bool := if x18 then x21 else false
  let x23 : Bool := if x17 then x22 else false
  let x24 : Int := if x23 then 0 else x15
  let x25 : Int := if x16 then 0 else x24
  let x26 : Bool := decide ((v7 : Int) < 0)
  let x27 : Bool := decide ((v7 : Int) > 1073741823)
  let x28 : Int := if x27 then 1073741823 else v7
  let x29 : Int := if x26 then 0 else x28
  let x30 : Bool := decide ((v0 : Int) < 1)
  let x31 : Bool := decide ((v0 : Int) > 65535)
  let x32 : Int := if x31 then 65535 else v0
  let x33 : Int := if x30 then 1 else x32
  let x34 : Bool := decide ((v1 : Int) < x33)
  let x35 : Bool := decide ((v1 : Int) > 1073741823)
  let x36 : Int := if x35 then 1073741823 else v1
  let x37 : Int := if x34 then x33 else x36
  let x38 : Bool := decide ((x29 : Int) < x37)
  let x39 : Int := if x38 then x29 else x37
  let x40 : Bool := decide ((v8 : Int) < 0)
  let x41 : Bool := decide ((v8 : Int) > 1073741823)
  let x42 : Int := if x41 then 1073741823 else v8
  let x43 : Int := if x40 then 0 else x42
  let x44 : Int := w64 (x39 - x43)
  let x45 : Bool := decide ((v6 : Int) < 1)
  let x46 : Bool := decide ((v6 : Int) > 65535)
  let x47 : Int := if x46 then 65535 else v6
  let x48 : Int := if x45 then 1 else x47
  let x49 : Bool := decide ((v9 : Int) < 0)
  let x50 : Bool := decide ((v9 : Int) > 1073741823)
  let x51 : Int := if x50 then 1073741823 else v9
  let x52 : Int := if x49 then 0 else x51
  let x53 : Bool := decide ((x48 : Int) < x52)
  let x54 : Int := if x53 then x48 else x52
  let x55 : Bool := decide ((x44 : Int) < x54)
  let x56 : Int := if x55 then x44 else x54
  let x57 : Bool := decide ((x56 : Int) ≤ 0)
  let x58 : Bool := decide ((x56 : Int) < x48)
  let x59 : Bool := decide ((x43 : Int) > 0)
  let x60 : Bool := decide ((x56 : Int) < x52)
  let x61 : Bool := if x60 then true else x20
  let x62 : Bool := if x59 then x61 else false
  let x63 : Bool := if x58 then x62 else false
  let x64 : Int := if x63 then 0 else x56
  let x65 : Int := if x57 then 0 else x64
  let x66 : Bool := (x25 : Int) != x65
  let x67 : Bool := decide ((x25 : Int) ≥ 0)
  let x68 : Bool := (x25 : Int) == 0
  let x69 : Bool := decide ((v9 : Int) ≥ x25)
  let x70 : Bool := decide ((v7 : Int) ≥ x25)
  let x71 : Bool := if x69 then x70 else false
  let x72 : Bool := if x68 then true else x71
  let x73 : Bool := if x67 then x72 else false
  let x74 : Bool := if x66 then false else x73
  x74
def symArgs : List SV := [.agg [.int .i64 (.var 0), .int .i64 (.var 1), .int .i64 (.var 2), .int .i64 (.var 3), .bool (.var 4), .int .i64 (.var 5)], .agg [.int .i64 (.var 6), .int .i64 (.var 7), .int .i64 (.var 8), .int .i64 (.var 9), .bool (.var 10)]]
set_option maxRecDepth 100000 in
theorem run (v0 : Int) (v1 : Int) (v2 : Int) (v3 : Int) (v4 : Bool) (v5 : Int) (v6 : Int) (v7 : Int) (v8 : Int) (v9 : Int) (v10 : Bool) : (evFun Try.prog 1000 3 symArgs []).okB (env [.i v0, .i v1, .i v2, .i v3, .b v4, .i v5, .i v6, .i v7, .i v8, .i v9, .b v10]) = val v0 v1 v2 v3 v4 v5 v6 v7 v8 v9 v10 := by kernel_rfl

theorem pure (v0 v1 v2 v3 : Int) (v4 : Bool) (v5 v6 v7 v8 v9 : Int) (v10 : Bool) (b0 : -9223372036854775808 ≤ v0 ∧ v0 ≤ 9223372036854775807) (b1 : -9223372036854775808 ≤ v1 ∧ v1 ≤ 9223372036854775807)
    (b2 : -9223372036854775808 ≤ v2 ∧ v2 ≤ 9223372036854775807) (b3 : -9223372036854775808 ≤ v3 ∧ v3 ≤ 9223372036854775807) (b5 : -9223372036854775808 ≤ v5 ∧ v5 ≤ 9223372036854775807)
    (b6 : -9223372036854775808 ≤ v6 ∧ v6 ≤ 9223372036854775807) (b7 : -9223372036854775808 ≤ v7 ∧ v7 ≤ 9223372036854775807) (b8 : -9223372036854775808 ≤ v8 ∧ v8 ≤ 9223372036854775807)
    (b9 : -9223372036854775808 ≤ v9 ∧ v9 ≤ 9223372036854775807) : val v0 v1 v2 v3 v4 v5 v6 v7 v8 v9 v10 = true := by
  unfold val
  extract_lets x0 x1 x2 x3 x4 x5 x6 x7 x8 x9 x10 x11 x12 x13 x14 x15 x16 x17 x18 x19 x20 x21 x22 x23 x24 x25 x26 x27 x28 x29 x30 x31 x32 x33 x34 x35 x36 x37 x38 x39 x40 x41 x42 x43 x44 x45 x46 x47 x48 x49 x50 x51 x52 x53 x54 x55 x56 x57 x58 x59 x60 x61 x62 x63 x64 x65 x66 x67 x68 x69 x70 x71 x72 x73 x74
  have e1 : x1 = x48 := by grind [zmax, zmin]
  have e3 : x3 = x52 := by grind [zmax, zmin]
  have e6 : x6 = x29 := by grind [zmax, zmin]
  have e8 : x8 = x33 := by grind [zmax, zmin]
  have e10 : x10 = x37 := by grind [zmax, zmin]
  have e13 : x13 = x43 := by grind [zmax, zmin]
  have e11 : x11 = x39 := by grind [zmax, zmin]
  have b : 0 ≤ x11 ∧ x11 ≤ 1073741823 ∧ 0 ≤ x13 ∧ x13 ≤ 1073741823 := by grind [zmax, zmin]
  have e14 : x14 = x11 - x13 := w64_in (by omega) (by omega)
  have e44 : x44 = x11 - x13 := by rw [← e14]; show w64 (x39 - x43) = w64 (x11 - x13); rw [e11, e13]
  have b1 : 1 ≤ x1 ∧ x1 ≤ 65535 := by grind [zmax, zmin]
  have e15 : x15 = x56 := by
    clear_value x1 x3 x11 x13 x14 x44 x48 x52 x39 x43
    grind [zmax, zmin]
  have l9 : x15 ≤ x3 := by
    clear_value x1 x3 x14
    grind [zmax, zmin]
  have l3 : x15 > 0 → x15 ≤ v9 := by
    clear_value x15
    grind [zmax, zmin]
  have l6 : x15 ≤ x11 - x13 := by
    clear_value x11 x13 x14 x4
    grind [zmax, zmin]
  have l7 : x11 ≤ x6 := by
    clear_value x6 x10
    grind [zmax, zmin]
  have l8 : x6 > 0 → x6 ≤ v7 := by grind [zmax, zmin]
  have e25 : x25 = x65 := by
    clear_value x1 x3 x13 x43 x15 x56 x48 x52 x20
    grind
  have d25 : x25 = 0 ∨ (x25 = x15 ∧ x15 > 0) := by
    clear_value x23 x15
    grind
  clear_value x25 x65 x15 x11 x13 x6
  have e67 : x67 = true := by grind
  have e72 : x72 = true := by grind
  grind

theorem own : ownKnob Try.prog.godebug = none := by kernel_rfl
set_option maxRecDepth 100000 in
theorem lifted (os : Os) (started : os.Started) (H : Type) (enc : TypeId × Value → H) :
    ReturnsInHanded {} Try.checked os 3 .any (Rows.ctlFitsSpec.pre6 enc Try.prog Try.f3 Rows.ctlFitsRow.domain false) (Rows.ctlFitsSpec.post enc Try.prog Try.f3 false true false false) := by
  refine returnsInHanded_of_change (C := Try.checked) own started (by kernel_rfl) Try.func3
    (ChangeSpec.witness6 (enc := enc) (C := Try.checked) false ⟨#[], #[.agg #[.int .i64 0, .int .i64 0, .int .i64 0, .int .i64 0, .bool false, .int .i64 0], .agg #[.int .i64 0, .int .i64 0, .int .i64 0, .int .i64 0, .bool false]], []⟩ 8 (by kernel_rfl) (by kernel_rfl) (by kernel_rfl) (by kernel_rfl)) ?_
  intro W base args ds gs before hval0 hW hcnd _
  have hval : ∀ (j : Nat) t v, Try.f3.params[j]? = some t → args[j]? = some v → Value.okWide Try.prog W .any base t v := hval0
  have hW' := hW
  obtain ⟨p, q, hA0, hV, rfl, hfz, hnd⟩ := hW
  have hA : DataW.TrodAll enc Try.prog W 0 (fun _ => true) true Try.f3.params.toList args.toList ds p := hA0
  rw [Try.params3] at hA hval
  obtain ⟨v0, vs0, d0, ds0, p0, q0, hargs, rfl, rfl, h0, r0⟩ := trodAll_cons hA
  obtain ⟨v1, vs1, d1, ds1, p1, q1, rfl, rfl, rfl, h1, r1⟩ := trodAll_cons r0
  obtain ⟨rfl, rfl, rfl⟩ := trodAll_nil r1
  obtain rfl : args = #[v0, v1] := by cases args; simp_all
  obtain ⟨rfl, rfl⟩ := trodVars_none hV
  obtain ⟨cs0, rfl, hl0, hc0⟩ := okWide_cells (ts := [3, 3, 3, 3, 4, 3]) Try.underlying23 (by kernel_rfl) (by kernel_rfl) (hval 0 23 v0 rfl rfl)
  obtain ⟨e0, g0, m0⟩ := hc0 0 3 rfl
  obtain ⟨a0, rfl, c0⟩ := cellWide_int Try.underlying3 m0
  have b0 := has_i64 c0
  obtain ⟨e1, g1, m1⟩ := hc0 1 3 rfl
  obtain ⟨a1, rfl, c1⟩ := cellWide_int Try.underlying3 m1
  have b1 := has_i64 c1
  obtain ⟨e2, g2, m2⟩ := hc0 2 3 rfl
  obtain ⟨a2, rfl, c2⟩ := cellWide_int Try.underlying3 m2
  have b2 := has_i64 c2
  obtain ⟨e3, g3, m3⟩ := hc0 3 3 rfl
  obtain ⟨a3, rfl, c3⟩ := cellWide_int Try.underlying3 m3
  have b3 := has_i64 c3
  obtain ⟨e4, g4, m4⟩ := hc0 4 4 rfl
  obtain ⟨a4, rfl⟩ := cellWide_bool Try.underlying4 m4
  obtain ⟨e5, g5, m5⟩ := hc0 5 3 rfl
  obtain ⟨a5, rfl, c5⟩ := cellWide_int Try.underlying3 m5
  have b5 := has_i64 c5
  obtain rfl : cs0 = [.int .i64 a0, .int .i64 a1, .int .i64 a2, .int .i64 a3, .bool a4, .int .i64 a5] := by
    apply List.ext_getElem?
    intro i
    match i with
    | 0 => exact g0
    | 1 => exact g1
    | 2 => exact g2
    | 3 => exact g3
    | 4 => exact g4
    | 5 => exact g5
    | i + 6 => rw [List.getElem?_eq_none (by rw [hl0]; simp), List.getElem?_eq_none (by simp)]
  obtain ⟨cs1, rfl, hl1, hc1⟩ := okWide_cells (ts := [3, 3, 3, 3, 4]) Try.underlying25 (by kernel_rfl) (by kernel_rfl) (hval 1 25 v1 rfl rfl)
  obtain ⟨e6, g6, m6⟩ := hc1 0 3 rfl
  obtain ⟨a6, rfl, c6⟩ := cellWide_int Try.underlying3 m6
  have b6 := has_i64 c6
  obtain ⟨e7, g7, m7⟩ := hc1 1 3 rfl
  obtain ⟨a7, rfl, c7⟩ := cellWide_int Try.underlying3 m7
  have b7 := has_i64 c7
  obtain ⟨e8, g8, m8⟩ := hc1 2 3 rfl
  obtain ⟨a8, rfl, c8⟩ := cellWide_int Try.underlying3 m8
  have b8 := has_i64 c8
  obtain ⟨e9, g9, m9⟩ := hc1 3 3 rfl
  obtain ⟨a9, rfl, c9⟩ := cellWide_int Try.underlying3 m9
  have b9 := has_i64 c9
  obtain ⟨e10, g10, m10⟩ := hc1 4 4 rfl
  obtain ⟨a10, rfl⟩ := cellWide_bool Try.underlying4 m10
  obtain rfl : cs1 = [.int .i64 a6, .int .i64 a7, .int .i64 a8, .int .i64 a9, .bool a10] := by
    apply List.ext_getElem?
    intro i
    match i with
    | 0 => exact g6
    | 1 => exact g7
    | 2 => exact g8
    | 3 => exact g9
    | 4 => exact g10
    | i + 5 => rw [List.getElem?_eq_none (by rw [hl1]; simp), List.getElem?_eq_none (by simp)]
  refine (law_walk (P := Try.prog) Try.checked.mixed (n := 1000) (f := 3) (args := symArgs) (η := env [.i a0, .i a1, .i a2, .i a3, .b a4, .i a5, .i a6, .i a7, .i a8, .i a9, .b a10]) (by rw [run]; exact pure a0 a1 a2 a3 a4 a5 a6 a7 a8 a9 a10 b0 b1 b2 b3 b5 b6 b7 b8 b9) (vs := [.agg ⟨[.int .i64 a0, .int .i64 a1, .int .i64 a2, .int .i64 a3, .bool a4, .int .i64 a5]⟩, .agg ⟨[.int .i64 a6, .int .i64 a7, .int .i64 a8, .int .i64 a9, .bool a10]⟩]) (Rels.cons (rel_agg (Rels.cons (rel_int rfl) (Rels.cons (rel_int rfl) (Rels.cons (rel_int rfl) (Rels.cons (rel_int rfl) (Rels.cons (rel_bool rfl) (Rels.cons (rel_int rfl) (Rels.nil)))))))) (Rels.cons (rel_agg (Rels.cons (rel_int rfl) (Rels.cons (rel_int rfl) (Rels.cons (rel_int rfl) (Rels.cons (rel_int rfl) (Rels.cons (rel_bool rfl) (Rels.nil))))))) (Rels.nil))) W).mono fun e W' ⟨he, hb⟩ => ?_
  subst he
  exact ⟨_, rfl, law_post (by kernel_rfl) (by rw [Try.params3]; intro t ht; simp at ht; rcases ht with rfl | rfl <;> exact ⟨by kernel_rfl, of_decide_eq_true (by kernel_rfl)⟩) (by kernel_rfl) Try.underlying4 rfl ⟨rfl, rfl, rfl⟩ hW' hb⟩

theorem over : Rows.ctlFitsRow.holds Try.pinned (OpenSpec.ofChange Rows.ctlFitsSpec) :=
  OpenClaim.holds_of_wide 3 Try.f3 rfl rfl rfl rfl rfl rfl rfl ⟨rfl, rfl, rfl, rfl, rfl⟩ rfl rfl rfl rfl rfl (by kernel_rfl) Try.func3 (by kernel_rfl)
    (of_decide_eq_true (by kernel_rfl)) (by unfold Func.isWrapper; first | (rw [if_pos (by decide +kernel)]; kernel_rfl) | (rw [if_neg (by decide +kernel)]; exact ⟨rfl, rfl⟩))
    (fun os started H enc _ => lifted os started H enc)
end Go.Proofs.Ytgjdhokafmmhcaa.ctlFits
namespace Go.Proofs.Ytgjdhokafmmhcaa
/-- THE STATEMENT. -/
theorem ctlFits_holds : Rows.CtlFitsSaid := ctlFits.over
#print axioms ctlFits_holds
end Go.Proofs.Ytgjdhokafmmhcaa
