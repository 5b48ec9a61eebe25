/-
  Proved: aditlaw19.CtlTimers returns true and leaves its arguments as they read: the retransmission timer is estimated, backed off and made fresh as P19.1 says.
  No conditions: every input that can be read.
-/
import Derived.Test.YtgjdhokafmmhcaaSxM
import Derived.Test.YtgjdhokafmmhcaaRows
set_option linter.unusedVariables false
set_option linter.unusedSimpArgs false
namespace Go.Proofs.Ytgjdhokafmmhcaa.ctlTimers
open Go.Sx Go.ChangeShapes Go.WideShapes Go.ChangeAt Go.RowKit
/-- What 'adit/aditlaw19.CtlTimers' comes to. -/
def val (v0 : Bool) (v1 : Int) (v2 : Int) (v3 : Int) (v4 : Int) (v5 : Int) : Bool :=
  let x0 : Bool := if v0 then v0 else true
  let x1 : Bool := (x0 : Bool) == x0
  let x2 : Int := zmax v1 0
  let x3 : Int := zmin x2 4800000
  let x4 : Int := zmax v5 0
  let x5 : Int := zmin x4 600000
  let x6 : Int := w64 (Int.tdiv x3 8)
  let x7 : Int := w64 (x5 - x6)
  let x8 : Int := w64 (x3 + x7)
  let x9 : Int := w64 (8 * x5)
  let x10 : Int := if v0 then x8 else x9
  let x11 : Bool := decide ((v1 : Int) < 0)
  let x12 : Bool := decide ((v1 : Int) > 4800000)
  let x13 : Int := if x12 then 4800000 else v1
  let x14 : Int := if x11 then 0 else x13
  let x15 : Bool := decide ((v5 : Int) < 0)
  let x16 : Bool := decide ((v5 : Int) > 600000)
  let x17 : Int := if x16 then 600000 else v5
  let x18 : Int := if x15 then 0 else x17
  let x19 : Int := w64 (Int.tdiv x14 8)
  let x20 : Int := w64 (x18 - x19)
  let x21 : Int := w64 (x14 + x20)
  let x22 : Int := w64 (8 * x18)
  let x23 : Int := if v0 then x21 else x22
  let x24 : Bool := (x10 : Int) == x23
  let x25 : Int := zmax v2 0
  let x26 : Int := zmin x25 4800000
  let x27 : Int := w64 (0 - x7)
  let x28 : Int := zmax x7 x27
  let x29 : Int := w64 (Int.tdiv x26 4)
  let x30 : Int := w64 (x28 - x29)
  let x31 : Int := w64 (x26 + x30)
  let x32 : Int := w64 (2 * x5)
  let x33 : Int := if v0 then x31 else x32
  let x34 : Bool := decide ((v2 : Int) < 0)
  let x35 : Bool := decide ((v2 : Int) > 4800000)
  let x36 : Int := if x35 then 4800000 else v2
  let x37 : Int := if x34 then 0 else x36
  let x38 : Bool := decide ((x20 : Int) < 0)
  let x39 : Int := w64 (0 - x20)
  let x40 : Int := if x38 then x39 else x20
  let x41 : Int := w64 (x37 + x40)
  let x42 : Int := w64 (Int.tdiv x37 4)
  let x43 : Int := w64 (x41 - x42)
  let x44 : Int := w64 (2 * x18)
  let x45 : Int := if v0 then x43 else x44
  let x46 : Bool := (x33 : Int) == x45
  let x47 : Int := w64 (Int.tdiv x10 8)
  let x48 : Int := w64 (x47 + x33)
  let x49 : Int := zmax x48 1000
  let x50 : Int := zmin x49 60000
  let x51 : Int := w64 (Int.tdiv x23 8)
  let x52 : Int := w64 (x51 + x45)
  let x53 : Bool := decide ((x52 : Int) < 1000)
  let x54 : Bool := decide ((x52 : Int) > 60000)
  let x55 : Int := if x54 then 60000 else x52
  let x56 : Int := if x53 then 1000 else x55
  let x57 : Bool := (x50 : Int) == x56
  let x58 : Bool := if x46 then x57 else false
  let x59 : Bool := if x24 then x58 else false
  let x60 : Bool := if x1 then x59 else false
  let x61 : Bool := (v0 : Bool) == v0
  let x62 : Bool := (x3 : Int) == x14
  let x63 : Bool := (x26 : Int) == x37
  let x64 : Int := zmax v3 1000
  let x65 : Int := zmin x64 60000
  let x66 : Int := w64 (2 * x65)
  let x67 : Int := zmin x66 60000
  let x68 : Bool := decide ((v3 : Int) < 1000)
  let x69 : Bool := decide ((v3 : Int) > 60000)
  let x70 : Int := if x69 then 60000 else v3
  let x71 : Int := if x68 then 1000 else x70
  let x72 : Int := w64 (2 * x71)
  let x73 : Bool := decide ((x72 : Int) < 1000)
  let x74 : Bool := decide ((x72 : Int) > 60000)
  let x75 : Int := if x74 then 60000 else x72
  let x76 : Int := if x73 then 1000 else x75
  let x77 : Bool := (x67 : Int) == x76
  let x78 : Int := zmax v4 0
  let x79 : Int := zmin x78 1000
  let x80 : Int := w64 (x79 + 1)
  let x81 : Bool := decide ((v4 : Int) < 0)
  let x82 : Bool := decide ((v4 : Int) > 1000)
  let x83 : Int := if x82 then 1000 else v4
  let x84 : Int := if x81 then 0 else x83
  let x85 : Int := w64 (x84 + 1)
  let x86 : Bool := (x80 : Int) == x85
  let x87 : Bool := if x77 then x86 else false
  let x88 : Bool := if x63 then x87 else false
  let x89 : Bool := if x62 then x88 else false
  let x90 : Bool := if x61 then x89 else false
  let x91 : Int := w64 (x6 + x26)
  let x92 : Int := zmax x91 1000
  let x93 : Int := zmin x92 60000
  let x94 : Int := if v0 then x93 else 1000
  let x95 : Int := w64 (x19 + x37)
  let x96 : Bool := decide ((x95 : Int) < 1000)
  let x97 : Bool := decide ((x95 : Int) > 60000)
  let x98 : Int := if x97 then 60000 else x95
  let x99 : Int := if x96 then 1000 else x98
  let x100 : Int := if v0 then x99 else 1000
  let x101 : Bool := (x94 : Int) == x100
  let x102 : Bool := if x63 then x101 else false
  let x103 : Bool := if x62 then x102 else false
  let x104 : Bool := if x61 then x103 else false
  let x105 : Bool := if x90 then x104 else false
  let x106 : Bool := if x60 then x105 else false
  x106
def symArgs : List SV := [.agg [.bool (.var 0), .int .i64 (.var 1), .int .i64 (.var 2), .int .i64 (.var 3), .int .i64 (.var 4)], .int .i64 (.var 5)]
set_option maxRecDepth 100000 in
theorem run (v0 : Bool) (v1 : Int) (v2 : Int) (v3 : Int) (v4 : Int) (v5 : Int) : (evFun Try.prog 1000 5 symArgs []).okB (env [.b v0, .i v1, .i v2, .i v3, .i v4, .i v5]) = val v0 v1 v2 v3 v4 v5 := by kernel_rfl

theorem pure (v0 : Bool) (v1 v2 v3 v4 v5 : Int) (b1 : -9223372036854775808 ≤ v1 ∧ v1 ≤ 9223372036854775807) (b2 : -9223372036854775808 ≤ v2 ∧ v2 ≤ 9223372036854775807) (b3 : -9223372036854775808 ≤ v3 ∧ v3 ≤ 9223372036854775807) (b4 : -9223372036854775808 ≤ v4 ∧ v4 ≤ 9223372036854775807) (b5 : -9223372036854775808 ≤ v5 ∧ v5 ≤ 9223372036854775807) : val v0 v1 v2 v3 v4 v5 = true := by
  unfold val
  extract_lets x0 x1 x2 x3 x4 x5 x6 x7 x8 x9 x10 x11 x12 x13 x14 x15 x16 x17 x18 x19 x20 x21 x22 x23 x24 x25 x26 x27 x28 x29 x30 x31 x32 x33 x34 x35 x36 x37 x38 x39 x40 x41 x42 x43 x44 x45 x46 x47 x48 x49 x50 x51 x52 x53 x54 x55 x56 x57 x58 x59 x60 x61 x62 x63 x64 x65 x66 x67 x68 x69 x70 x71 x72 x73 x74 x75 x76 x77 x78 x79 x80 x81 x82 x83 x84 x85 x86 x87 x88 x89 x90 x91 x92 x93 x94 x95 x96 x97 x98 x99 x100 x101 x102 x103 x104 x105 x106
  have e14 : x14 = x3 := by grind [zmax, zmin]
  have e18 : x18 = x5 := by grind [zmax, zmin]
  have e37 : x37 = x26 := by grind [zmax, zmin]
  have e71 : x71 = x65 := by grind [zmax, zmin]
  have e84 : x84 = x79 := by grind [zmax, zmin]
  have c3 : 0 ≤ x3 ∧ x3 ≤ 4800000 := by grind [zmax, zmin]
  have c5 : 0 ≤ x5 ∧ x5 ≤ 600000 := by grind [zmax, zmin]
  have c26 : 0 ≤ x26 ∧ x26 ≤ 4800000 := by grind [zmax, zmin]
  have c65 : 1000 ≤ x65 ∧ x65 ≤ 60000 := by grind [zmax, zmin]
  have c79 : 0 ≤ x79 ∧ x79 ≤ 1000 := by grind [zmax, zmin]
  have e6 : x6 = x3 / 8 := by show w64 (Int.tdiv x3 8) = _; rw [Int.tdiv_eq_ediv_of_nonneg c3.1, w64_in] <;> omega
  have e29 : x29 = x26 / 4 := by show w64 (Int.tdiv x26 4) = _; rw [Int.tdiv_eq_ediv_of_nonneg c26.1, w64_in] <;> omega
  have e19 : x19 = x6 := by show w64 (Int.tdiv x14 8) = w64 (Int.tdiv x3 8); rw [e14]
  have e42 : x42 = x29 := by show w64 (Int.tdiv x37 4) = w64 (Int.tdiv x26 4); rw [e37]
  have e20 : x20 = x7 := by show w64 (x18 - x19) = w64 (x5 - x6); rw [e18, e19]
  have e21 : x21 = x8 := by show w64 (x14 + x20) = w64 (x3 + x7); rw [e14, e20]
  have e22 : x22 = x9 := by show w64 (8 * x18) = w64 (8 * x5); rw [e18]
  have e23 : x23 = x10 := by show (if v0 = true then x21 else x22) = (if v0 = true then x8 else x9); rw [e21, e22]
  have e7 : x7 = x5 - x6 := by show w64 (x5 - x6) = _; rw [w64_in] <;> omega
  have e27 : x27 = -x7 := by show w64 (0 - x7) = _; rw [w64_in] <;> omega
  have e39 : x39 = x27 := by show w64 (0 - x20) = w64 (0 - x7); rw [e20]
  have e40 : x40 = x28 := by
    clear_value x7 x20 x27 x39
    grind [zmax, zmin]
  have c28 : 0 ≤ x28 ∧ x28 ≤ 1200000 := by
    clear_value x7 x27 x5 x6 x3
    grind [zmax, zmin]
  have e41 : x41 = x26 + x28 := by show w64 (x37 + x40) = _; rw [e37, e40, w64_in] <;> omega
  have e43 : x43 = x26 + x28 - x29 := by show w64 (x41 - x42) = _; rw [e41, e42, w64_in] <;> omega
  have e30 : x30 = x28 - x29 := by show w64 (x28 - x29) = _; rw [w64_in] <;> omega
  have e31 : x31 = x26 + x28 - x29 := by show w64 (x26 + x30) = _; rw [e30, w64_in] <;> omega
  have e44 : x44 = x32 := by show w64 (2 * x18) = w64 (2 * x5); rw [e18]
  have e45 : x45 = x33 := by show (if v0 = true then x43 else x44) = (if v0 = true then x31 else x32); rw [e43, e31, e44]
  have e51 : x51 = x47 := by show w64 (Int.tdiv x23 8) = w64 (Int.tdiv x10 8); rw [e23]
  have e52 : x52 = x48 := by show w64 (x51 + x45) = w64 (x47 + x33); rw [e51, e45]
  have e56 : x56 = x50 := by
    clear_value x48 x52
    grind [zmax, zmin]
  have e66 : x66 = 2 * x65 := by show w64 (2 * x65) = _; rw [w64_in] <;> omega
  have e72 : x72 = x66 := by show w64 (2 * x71) = w64 (2 * x65); rw [e71]
  have e76 : x76 = x67 := by
    clear_value x72 x66 x65
    grind [zmax, zmin]
  have e85 : x85 = x80 := by show w64 (x84 + 1) = w64 (x79 + 1); rw [e84]
  have e95 : x95 = x91 := by show w64 (x19 + x37) = w64 (x6 + x26); rw [e19, e37]
  have e99 : x99 = x93 := by
    clear_value x95 x91
    grind [zmax, zmin]
  have e100 : x100 = x94 := by show (if v0 = true then x99 else 1000) = (if v0 = true then x93 else 1000); rw [e99]
  clear_value x3 x5 x14 x18 x26 x37 x10 x23 x33 x45 x50 x56 x65 x71 x67 x76 x79 x84 x80 x85 x94 x100 x0
  grind

theorem own : ownKnob Try.prog.godebug = none := by kernel_rfl
set_option maxRecDepth 100000 in
theorem lifted (os : Os) (started : os.Started) (H : Type) (enc : TypeId × Value → H) :
    ReturnsInHanded {} Try.checked os 5 .any (Rows.ctlTimersSpec.pre6 enc Try.prog Try.f5 Rows.ctlTimersRow.domain false) (Rows.ctlTimersSpec.post enc Try.prog Try.f5 false true false false) := by
  refine returnsInHanded_of_change (C := Try.checked) own started (by kernel_rfl) Try.func5
    (ChangeSpec.witness6 (enc := enc) (C := Try.checked) false ⟨#[], #[.agg #[.bool false, .int .i64 0, .int .i64 0, .int .i64 0, .int .i64 0], .int .i64 0], []⟩ 8 (by kernel_rfl) (by kernel_rfl) (by kernel_rfl) (by kernel_rfl)) ?_
  intro W base args ds gs before hval0 hW hcnd _
  have hval : ∀ (j : Nat) t v, Try.f5.params[j]? = some t → args[j]? = some v → Value.okWide Try.prog W .any base t v := hval0
  have hW' := hW
  obtain ⟨p, q, hA0, hV, rfl, hfz, hnd⟩ := hW
  have hA : DataW.TrodAll enc Try.prog W 0 (fun _ => true) true Try.f5.params.toList args.toList ds p := hA0
  rw [Try.params5] at hA hval
  obtain ⟨v0, vs0, d0, ds0, p0, q0, hargs, rfl, rfl, h0, r0⟩ := trodAll_cons hA
  obtain ⟨v1, vs1, d1, ds1, p1, q1, rfl, rfl, rfl, h1, r1⟩ := trodAll_cons r0
  obtain ⟨rfl, rfl, rfl⟩ := trodAll_nil r1
  obtain rfl : args = #[v0, v1] := by cases args; simp_all
  obtain ⟨rfl, rfl⟩ := trodVars_none hV
  obtain ⟨cs0, rfl, hl0, hc0⟩ := okWide_cells (ts := [4, 3, 3, 3, 3]) Try.underlying36 (by kernel_rfl) (by kernel_rfl) (hval 0 36 v0 rfl rfl)
  obtain ⟨e0, g0, m0⟩ := hc0 0 4 rfl
  obtain ⟨a0, rfl⟩ := cellWide_bool Try.underlying4 m0
  obtain ⟨e1, g1, m1⟩ := hc0 1 3 rfl
  obtain ⟨a1, rfl, c1⟩ := cellWide_int Try.underlying3 m1
  have b1 := has_i64 c1
  obtain ⟨e2, g2, m2⟩ := hc0 2 3 rfl
  obtain ⟨a2, rfl, c2⟩ := cellWide_int Try.underlying3 m2
  have b2 := has_i64 c2
  obtain ⟨e3, g3, m3⟩ := hc0 3 3 rfl
  obtain ⟨a3, rfl, c3⟩ := cellWide_int Try.underlying3 m3
  have b3 := has_i64 c3
  obtain ⟨e4, g4, m4⟩ := hc0 4 3 rfl
  obtain ⟨a4, rfl, c4⟩ := cellWide_int Try.underlying3 m4
  have b4 := has_i64 c4
  obtain rfl : cs0 = [.bool a0, .int .i64 a1, .int .i64 a2, .int .i64 a3, .int .i64 a4] := by
    apply List.ext_getElem?
    intro i
    match i with
    | 0 => exact g0
    | 1 => exact g1
    | 2 => exact g2
    | 3 => exact g3
    | 4 => exact g4
    | i + 5 => rw [List.getElem?_eq_none (by rw [hl0]; simp), List.getElem?_eq_none (by simp)]
  obtain ⟨a5, rfl, c5⟩ := argWide_int Try.underlying3 (hval 1 3 v1 rfl rfl)
  have b5 := has_i64 c5
  refine (law_walk (P := Try.prog) Try.checked.mixed (n := 1000) (f := 5) (args := symArgs) (η := env [.b a0, .i a1, .i a2, .i a3, .i a4, .i a5]) (by rw [run]; exact pure a0 a1 a2 a3 a4 a5 b1 b2 b3 b4 b5) (vs := [.agg ⟨[.bool a0, .int .i64 a1, .int .i64 a2, .int .i64 a3, .int .i64 a4]⟩, .int .i64 a5]) (Rels.cons (rel_agg (Rels.cons (rel_bool rfl) (Rels.cons (rel_int rfl) (Rels.cons (rel_int rfl) (Rels.cons (rel_int rfl) (Rels.cons (rel_int rfl) (Rels.nil))))))) (Rels.cons (rel_int rfl) (Rels.nil))) W).mono fun e W' ⟨he, hb⟩ => ?_
  subst he
  exact ⟨_, rfl, law_post (by kernel_rfl) (by rw [Try.params5]; intro t ht; simp at ht; rcases ht with rfl | rfl <;> exact ⟨by kernel_rfl, of_decide_eq_true (by kernel_rfl)⟩) (by kernel_rfl) Try.underlying4 rfl ⟨rfl, rfl, rfl⟩ hW' hb⟩

theorem over : Rows.ctlTimersRow.holds Try.pinned (OpenSpec.ofChange Rows.ctlTimersSpec) :=
  OpenClaim.holds_of_wide 5 Try.f5 rfl rfl rfl rfl rfl rfl rfl ⟨rfl, rfl, rfl, rfl, rfl⟩ rfl rfl rfl rfl rfl (by kernel_rfl) Try.func5 (by kernel_rfl)
    (of_decide_eq_true (by kernel_rfl)) (by unfold Func.isWrapper; first | (rw [if_pos (by decide +kernel)]; kernel_rfl) | (rw [if_neg (by decide +kernel)]; exact ⟨rfl, rfl⟩))
    (fun os started H enc _ => lifted os started H enc)
end Go.Proofs.Ytgjdhokafmmhcaa.ctlTimers
namespace Go.Proofs.Ytgjdhokafmmhcaa
/-- THE STATEMENT. -/
theorem ctlTimers_holds : Rows.CtlTimersSaid := ctlTimers.over
#print axioms ctlTimers_holds
end Go.Proofs.Ytgjdhokafmmhcaa
