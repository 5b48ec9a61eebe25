/-
  ConnAnswers: a SYN alone is answered, and nothing else: whatever segment, link and time, the program's answer and the document's stand alike.
  No conditions: every input that can be read.
-/
import Derived.Test.YtdjcdcijhhjpiaaGreatConsConnAnswers
import Derived.Test.YtdjcdcijhhjpiaaGreatRows
set_option linter.unusedVariables false
set_option linter.unusedSimpArgs false
namespace Go.Proofs.YtdjcdcijhhjpiaaGreat.connAnswers
open Go.Sy Go.ChangeShapes Go.WideShapes Go.ChangeAt Go.RowKit
/-- What 'adit/aditlaw20.ConnAnswers' comes to. -/
def val (F : Nat → D → D) (v0 : Int) (v1 : Int) (v2 : Int) (v3 : Int) (v4 : Int) (v5 : Int) (v6 : Int) (v7 : Int) (v8 : Int) (v9 : Int) (v10 : Int) (v11 : Int) (v12 : Int) (v13 : Int) (v14 : List UInt8) : Bool :=
  let x0 : D := F 9 (D.ls ([] : List D))
  let x1 : Bool := (D.toB x0)
  let x2 : Bool := decide ((v0 : Int) > 4611686018427387904)
  let x3 : Int := if x2 then 4611686018427387904 else v0
  let x4 : List D := (D.s v14) :: ([] : List D)
  let x5 : List D := (D.i v13) :: x4
  let x6 : List D := (D.i v12) :: x5
  let x7 : List D := (D.i v11) :: x6
  let x8 : List D := (D.i v10) :: x7
  let x9 : List D := (D.i v9) :: x8
  let x10 : List D := (D.i v8) :: x9
  let x11 : List D := (D.i v7) :: x10
  let x12 : List D := (D.i v6) :: x11
  let x13 : List D := (D.i v5) :: x12
  let x14 : List D := (D.i v4) :: x13
  let x15 : List D := (D.i v3) :: x14
  let x16 : List D := (D.i v2) :: x15
  let x17 : List D := (D.i v1) :: x16
  let x18 : List D := (D.i x3) :: x17
  let x19 : D := F 12 (D.ls x18)
  let x20 : Bool := (D.toB x19)
  let x21 : D := F 13 (D.ls x18)
  let x22 : Int := (D.toI x21)
  let x23 : Bool := (x22 : Int) == 0
  let x24 : D := F 15 (D.ls x18)
  let x25 : Bool := (D.toB x24)
  let x26 : Bool := if x23 then x25 else true
  let x27 : Bool := if x23 then true else x25
  let x28 : D := F 16 (D.ls x18)
  let x29 : Int := (D.toI x28)
  let x30 : Bool := (x29 : Int) == 0
  let x31 : D := F 14 (D.ls x18)
  let x32 : List D := (D.toL x31)
  let x33 : D := (x32).getD 1 (D.i 0)
  let x34 : Int := (D.toI x33)
  let x35 : D := (x32).getD 3 (D.i 0)
  let x36 : Int := (D.toI x35)
  let x37 : D := (x32).getD 4 (D.i 0)
  let x38 : Int := (D.toI x37)
  let x39 : D := (x32).getD 5 (D.i 0)
  let x40 : Int := (D.toI x39)
  let x41 : D := (x32).getD 6 (D.i 0)
  let x42 : Int := (D.toI x41)
  let x43 : D := (x32).getD 7 (D.i 0)
  let x44 : Int := (D.toI x43)
  let x45 : D := (x32).getD 9 (D.i 0)
  let x46 : Int := (D.toI x45)
  let x47 : D := (x32).getD 12 (D.i 0)
  let x48 : Int := (D.toI x47)
  let x49 : D := F 17 (D.ls x18)
  let x50 : List D := (D.toL x49)
  let x51 : D := (x50).getD 0 (D.i 0)
  let x52 : Int := (D.toI x51)
  let x53 : D := (x50).getD 3 (D.i 0)
  let x54 : Int := (D.toI x53)
  let x55 : D := (x50).getD 4 (D.i 0)
  let x56 : Int := (D.toI x55)
  let x57 : D := (x50).getD 7 (D.i 0)
  let x58 : Int := (D.toI x57)
  let x59 : D := (x50).getD 8 (D.i 0)
  let x60 : Int := (D.toI x59)
  let x61 : D := (x50).getD 9 (D.i 0)
  let x62 : Int := (D.toI x61)
  let x63 : D := (x50).getD 11 (D.i 0)
  let x64 : Int := (D.toI x63)
  let x65 : D := (x50).getD 12 (D.i 0)
  let x66 : Int := (D.toI x65)
  let x67 : D := (x32).getD 13 (D.i 0)
  let x68 : Int := (D.toI x67)
  let x69 : D := (x32).getD 14 (D.i 0)
  let x70 : List D := (D.toL x69)
  let x71 : D := (x50).getD 13 (D.i 0)
  let x72 : Int := (D.toI x71)
  let x73 : D := (x50).getD 14 (D.i 0)
  let x74 : List D := (D.toL x73)
  let x75 : D := (x50).getD 15 (D.i 0)
  let x76 : List D := (D.toL x75)
  let x77 : D := (x50).getD 16 (D.i 0)
  let x78 : List D := (D.toL x77)
  let x79 : List D := (D.ls x78) :: ([] : List D)
  let x80 : List D := (D.ls x76) :: x79
  let x81 : List D := (D.ls x74) :: x80
  let x82 : List D := (D.i x72) :: x81
  let x83 : List D := (D.ls x70) :: x82
  let x84 : List D := (D.i x68) :: x83
  let x85 : List D := (D.i x66) :: x84
  let x86 : List D := (D.i x64) :: x85
  let x87 : List D := (D.i x62) :: x86
  let x88 : List D := (D.i x60) :: x87
  let x89 : List D := (D.i x58) :: x88
  let x90 : List D := (D.i x56) :: x89
  let x91 : List D := (D.i x54) :: x90
  let x92 : List D := (D.i x52) :: x91
  let x93 : List D := (D.i x48) :: x92
  let x94 : List D := (D.i v2) :: x93
  let x95 : List D := (D.i v1) :: x94
  let x96 : List D := (D.i x46) :: x95
  let x97 : List D := (D.i v8) :: x96
  let x98 : List D := (D.i x44) :: x97
  let x99 : List D := (D.i x42) :: x98
  let x100 : List D := (D.i x40) :: x99
  let x101 : List D := (D.i x38) :: x100
  let x102 : List D := (D.i x36) :: x101
  let x103 : List D := (D.i v11) :: x102
  let x104 : List D := (D.i x34) :: x103
  let x105 : List D := (D.i v5) :: x104
  let x106 : D := F 18 (D.ls x105)
  let x107 : Bool := (D.toB x106)
  let x108 : Bool := if x30 then true else x107
  let x109 : Bool := if x23 then true else x108
  let x110 : D := F 20 (D.ls x105)
  let x111 : List D := (D.toL x110)
  let x112 : D := (x111).getD 0 (D.i 0)
  let x113 : Bool := if x30 then false else (D.toB x112)
  let x114 : Bool := if x23 then x30 else x113
  (x1 && (x20 && (x26 && (x27 && (x109 && x114)))))
def symArgs : List SV := [.int .i64 (.var 0), .agg [.int .i64 (.var 1), .int .i64 (.var 2), .int .i64 (.var 3), .int .i64 (.var 4), .int .u32 (.var 5)], .agg [.int .i64 (.var 6), .int .i64 (.var 7), .int .u32 (.var 8), .int .u32 (.var 9), .int .i64 (.var 10), .int .i64 (.var 11), .int .i64 (.var 12), .int .i64 (.var 13), .str (.var 14)]]
set_option maxRecDepth 100000 in
theorem run (F : Nat → D → D) (R : Nat → Option (List Value)) (v0 : Int) (v1 : Int) (v2 : Int) (v3 : Int) (v4 : Int) (v5 : Int) (v6 : Int) (v7 : Int) (v8 : Int) (v9 : Int) (v10 : Int) (v11 : Int) (v12 : Int) (v13 : Int) (v14 : List UInt8) : (evFun Tryz.prog z7 1000 3 symArgs []).okB (envL F R [.i v0, .i v1, .i v2, .i v3, .i v4, .i v5, .i v6, .i v7, .i v8, .i v9, .i v10, .i v11, .i v12, .i v13, .s v14]) = val F v0 v1 v2 v3 v4 v5 v6 v7 v8 v9 v10 v11 v12 v13 v14 := by kernel_rfl

theorem nat_and2 (x : Nat) : x &&& 2 = 0 ∨ x &&& 2 = 2 := by
  have h1 : x &&& 2 ≤ 2 := Nat.and_le_right
  have h2 : (x &&& 2) % 2 = 0 := by
    have h : (x &&& 2).testBit 0 = false := by rw [Nat.testBit_and]; simp
    rw [Nat.testBit_zero] at h
    have := of_decide_eq_false h
    omega
  omega
theorem bits_and2 (v : Int) : Go.Sy.bits IntKind.i64 (fun a b => a &&& b) v 2 = 0 ∨ Go.Sy.bits IntKind.i64 (fun a b => a &&& b) v 2 = 2 := by
  have e : (BitVec.ofInt IntKind.i64.bits v &&& BitVec.ofInt IntKind.i64.bits 2).toNat = (BitVec.ofInt 64 v).toNat &&& 2 := by
    rw [BitVec.toNat_and]; rfl
  unfold Go.Sy.bits
  simp only [e]
  rcases nat_and2 (BitVec.ofInt 64 v).toNat with h | h <;> rw [h]
  · left; rfl
  · right; rfl
theorem keepEq (a lo hi : Int) (h : lo ≤ hi) : (if decide (a < lo) = true then lo else if decide (a > hi) = true then hi else a) = zmin (zmax a lo) hi ∧ lo ≤ zmin (zmax a lo) hi ∧ zmin (zmax a lo) hi ≤ hi := by
  simp only [decide_eq_true_eq]
  unfold zmin zmax
  by_cases h1 : a < lo
  · rw [if_pos h1, if_pos h1]
    split <;> omega
  · rw [if_neg h1, if_neg h1]
    by_cases h2 : a > hi
    · rw [if_pos h2]; omega
    · rw [if_neg h2]; omega
theorem rest (n : Int) (h1 : 0 ≤ n) : (if decide (Int.tmod n 4294967296 < 0) = true then w64 (Int.tmod n 4294967296 + 4294967296) else Int.tmod n 4294967296) = n % 4294967296 := by
  rw [Int.tmod_eq_emod_of_nonneg h1, if_neg (by simp; omega)]
/-- What decides. -/
def cS (v : Int) : Bool := if (!(if (Go.Sy.bits IntKind.i64 (fun a b => a &&& b) v 2 != 2 : Bool) then false else true)) then true else (Go.Sy.bits IntKind.i64 (fun a b => a &&& b) v 20 != 0)
theorem cR_eq (v : Int) : (if (Go.Sy.bits IntKind.i64 (fun a b => a &&& b) v 2 == 0) = true then true else (Go.Sy.bits IntKind.i64 (fun a b => a &&& b) v 20 != 0)) = cS v := by
  unfold cS
  rcases bits_and2 v with h | h <;> rw [h] <;> rfl
theorem awakeT : spAwake [] = some (1, []) := rfl
section
variable (t a1 a2 a3 a4 a5 a6 a7 a8 a9 a10 a11 a12 a13 : Int) (a14 : List UInt8)
theorem sA0 (h : cS a10 = true) : spSAnswer [.i t, .i a1, .i a2, .i a3, .i a4, .i a5, .i a6, .i a7, .i a8, .i a9, .i a10, .i a11, .i a12, .i a13, .s a14] = some (1, []) := by
  unfold spSAnswer; unfold stepSAnswer
  exact (if_pos h : (if cS a10 = true then some (1, []) else _) = some (1, []))
theorem sA1 (h : cS a10 = false) : ∃ LS, spSAnswer [.i t, .i a1, .i a2, .i a3, .i a4, .i a5, .i a6, .i a7, .i a8, .i a9, .i a10, .i a11, .i a12, .i a13, .s a14] = some (2, LS) ∧ LS.getD 7 (.i 0) = .i (w64 (zmax t 0 + 1000)) ∧
    LS.getD 13 (.i 0) = .i (zmin (zmax (zmin (zmax a4 1) 65535) 0) 65535) ∧
    LS.getD 14 (.i 0) = .ls [.ls [.i a1, .i a2, .i (wu32 (a5 + 0)), .i (wu32 (a8 + 1)), .i 18, .i (zmin (zmax a4 1) 65535), .i (zmin (zmax a3 1) 65495), .i (-1), .s []]] := by
  have h' : ¬ cS a10 = true := by rw [h]; decide
  unfold spSAnswer; unfold stepSAnswer
  exact ⟨_, (if_neg h' : (if cS a10 = true then some (1, []) else some (2, _)) = some (2, _)), rfl, rfl, rfl⟩
/-- A buffer's size, as the document has it. -/
def rB : Int := (if decide (a4 < 1) = true then 1 else if decide (a4 > 65535) = true then 65535 else a4)
theorem rN : (if decide (rB a4 < 0) = true then 0 else if decide (rB a4 > 65535) = true then 65535 else rB a4) = zmin (zmax a4 1) 65535 := by
  obtain ⟨h1, h2, h3⟩ := keepEq a4 1 65535 (by omega)
  have e : rB a4 = zmin (zmax a4 1) 65535 := h1
  rw [e, if_neg (by simp; omega), if_neg (by simp; omega)]
theorem rOk : (if (if (if (Go.Sy.bits IntKind.i64 (fun a b => a &&& b) a10 2 == 0) = true then true else (Go.Sy.bits IntKind.i64 (fun a b => a &&& b) a10 20 != 0)) = true then true else
    (if decide ((if decide (rB a4 < 0) = true then 0 else if decide (rB a4 > 65535) = true then 65535 else rB a4) ≥ 0) = true then decide ((if decide (rB a4 < 0) = true then 0 else if decide (rB a4 > 65535) = true then 65535 else rB a4) ≤ 1099511627776) else false)) = true then true else false) = true := by
  obtain ⟨h1, h2, h3⟩ := keepEq a4 1 65535 (by omega)
  rw [rN, if_pos (show decide (zmin (zmax a4 1) 65535 ≥ 0) = true by simp; omega)]
  rw [show decide (zmin (zmax a4 1) 65535 ≤ 1099511627776) = true by simp; omega]
  simp
theorem rA0 (h : cS a10 = true) : spRAnswer [.i t, .i a1, .i a2, .i a3, .i a4, .i a5, .i a6, .i a7, .i a8, .i a9, .i a10, .i a11, .i a12, .i a13, .s a14] = some (1, []) := by
  show stepRAnswer t a1 a2 a3 a4 a5 a6 a7 a8 a9 a10 a11 a12 a13 a14 = some (1, [])
  unfold stepRAnswer
  extract_lets x0 x1 x2 x3 x4 x5 x6 x7 x8 x9 x10 x11 x12 x13 x14 x15 x16
  have e4 : x4 = true := (cR_eq a10).trans h
  have e16 : x16 = true := by show (if x4 = true then true else x15) = true; rw [e4]; rfl
  rw [if_pos e16, if_pos e16, if_pos e4]
theorem rA1 (b5 : 0 ≤ a5 ∧ a5 ≤ 4294967295) (b8 : 0 ≤ a8 ∧ a8 ≤ 4294967295) (h : cS a10 = false) : ∃ LR, spRAnswer [.i t, .i a1, .i a2, .i a3, .i a4, .i a5, .i a6, .i a7, .i a8, .i a9, .i a10, .i a11, .i a12, .i a13, .s a14] = some (2, LR) ∧ LR.getD 12 (.i 0) = .i (w64 (zmax t 0 + 1000)) ∧
    LR.getD 4 (.i 0) = .i (zmin (zmax a4 1) 65535) ∧
    LR.getD 14 (.i 0) = .ls [.ls [.i a1, .i a2, .i (wu32 (a5 + 0)), .i (wu32 (a8 + 1)), .i 18, .i (zmin (zmax a4 1) 65535), .i (zmin (zmax a3 1) 65495), .i (-1), .s []]] := by
  show ∃ LR, stepRAnswer t a1 a2 a3 a4 a5 a6 a7 a8 a9 a10 a11 a12 a13 a14 = some (2, LR) ∧ _
  unfold stepRAnswer
  extract_lets x0 x1 x2 x3 x4 x5 x6 x7 x8 x9 x10 x11 x12 x13 x14 x15 x16 x17 x18 x19 x20 x21 x22 x23 x24 x25 x26 x27 x28 x29 x30 x31 x32 x33 x34 x35 x36 x37 x38 x39 x40 x41 x42 x43 x44 x45 x46 x47 x48 x49 x50 x51 x52 x53 x54 x55 x56 x57 x58 x59 x60 x61 x62 x63 x64 x65 x66 x67 x68
  obtain ⟨k1, k2, k3⟩ := keepEq a4 1 65535 (by omega)
  have e8 : x8 = zmin (zmax a4 1) 65535 := k1
  have e22 : x22 = zmin (zmax a3 1) 65495 := (keepEq a3 1 65495 (by omega)).1
  have e4 : ¬ x4 = true := by
    have : x4 = cS a10 := cR_eq a10
    rw [this, h]; decide
  have e12 : x12 = zmin (zmax a4 1) 65535 := by
    show (if decide (x8 < 0) = true then 0 else if decide (x8 > 65535) = true then 65535 else x8) = _
    rw [e8, if_neg (by simp; omega), if_neg (by simp; omega)]
  have e15 : x15 = true := by
    show (if decide (x12 ≥ 0) = true then decide (x12 ≤ 1099511627776) else false) = true
    rw [e12, if_pos (by simp; omega)]; simp; omega
  have e16 : x16 = true := by show (if x4 = true then true else x15) = true; rw [e15]; simp
  have e18 : x18 = zmax t 0 := by
    show (if decide (0 > t) = true then 0 else t) = zmax t 0
    unfold zmax
    by_cases q : 0 > t
    · rw [if_pos q, if_pos (by simpa using q)]
    · rw [if_neg q, if_neg (by simpa using q)]
  have e51 : x50 = wu32 (a5 + 0) := by
    have h29 : x45 = a5 := by
      show w64 (0 + w64 a5) = a5
      rw [w64_in (n := a5) (by omega) (by omega), w64_in (by omega) (by omega)]; omega
    have h33 : x49 = a5 % 4294967296 := by rw [← h29]; exact rest x45 (by omega)
    show wu32 x49 = _
    rw [h33, wu32_eq, wu32_eq]; simp
  have e57 : x57 = wu32 (a8 + 1) := by
    have h38 : x52 = 1 + a8 := by
      show w64 (1 + w64 a8) = 1 + a8
      rw [w64_in (n := a8) (by omega) (by omega), w64_in (by omega) (by omega)]
    have h42 : x56 = (1 + a8) % 4294967296 := by rw [← h38]; exact rest x52 (by omega)
    show wu32 x56 = _
    rw [h42, wu32_eq, wu32_eq]; omega
  rw [if_pos e16, if_pos e16, if_neg e4]
  refine ⟨_, rfl, ?_, ?_, ?_⟩
  · show D.i (w64 (x18 + 1000)) = _; rw [e18]
  · show D.i x8 = _; rw [e8]
  · show D.ls ([] ++ [D.ls [.i a1, .i a2, .i x50, .i x57, .i 18, .i x8, .i x22, .i (-1), .s []]]) = _
    rw [e51, e57, e8, e22]; rfl
end
theorem isT (v0 v1 v2 v3 v4 v5 v6 v7 v8 v9 v10 v11 v12 v13 v14 v15 v16 v17 v18 v19 v20 v21 : Int) (v22 : List D) (v23 : Int) (v24 v25 v26 : List D) (b0 b1 b2 b3 b4 b5 b6 b7 : Int) (b8 : List UInt8)
    (h22 : v22 = [.ls [.i b0, .i b1, .i b2, .i b3, .i b4, .i b5, .i b6, .i b7, .s b8]]) (h24 : v24 = [.ls [.i b0, .i b1, .i b2, .i b3, .i b4, .i b5, .i b6, .i b7, .s b8]]) (h7 : v7 = v20) (h21 : v21 = v15) :
    ∃ ys, stepIs v0 v1 v2 v3 v4 v5 v6 v7 v8 v9 v10 v11 v12 v13 v14 v15 v16 v17 v18 v19 v20 v21 v22 v23 v24 v25 v26 = some (1, .b true :: ys) := by
  subst h22 h24 h7 h21
  unfold stepIs
  simp [D.toI, D.toL, D.toS]
theorem pure (a0 a1 a2 a3 a4 a5 a6 a7 a8 a9 a10 a11 a12 a13 : Int) (a14 : List UInt8) (b0 : -9223372036854775808 ≤ a0 ∧ a0 ≤ 9223372036854775807) (b1 : -9223372036854775808 ≤ a1 ∧ a1 ≤ 9223372036854775807) (b2 : -9223372036854775808 ≤ a2 ∧ a2 ≤ 9223372036854775807)
    (b3 : -9223372036854775808 ≤ a3 ∧ a3 ≤ 9223372036854775807) (b4 : -9223372036854775808 ≤ a4 ∧ a4 ≤ 9223372036854775807) (b5 : 0 ≤ a5 ∧ a5 ≤ 4294967295) (b6 : -9223372036854775808 ≤ a6 ∧ a6 ≤ 9223372036854775807)
    (b7 : -9223372036854775808 ≤ a7 ∧ a7 ≤ 9223372036854775807) (b8 : 0 ≤ a8 ∧ a8 ≤ 4294967295) (b9 : 0 ≤ a9 ∧ a9 ≤ 4294967295) (b10 : -9223372036854775808 ≤ a10 ∧ a10 ≤ 9223372036854775807)
    (b11 : -9223372036854775808 ≤ a11 ∧ a11 ≤ 9223372036854775807) (b12 : -9223372036854775808 ≤ a12 ∧ a12 ≤ 9223372036854775807) (b13 : -9223372036854775808 ≤ a13 ∧ a13 ≤ 9223372036854775807) (b14 : (a14.length : Int) ≤ 9223372036854775807) :
    val F7 a0 a1 a2 a3 a4 a5 a6 a7 a8 a9 a10 a11 a12 a13 a14 = true := by
  unfold val
  extract_lets x0 x1 x2 x3 x4 x5 x6 x7 x8 x9 x10 x11 x12 x13 x14 x15 x16 x17 x18 x19 x20 x21 x22 x23 x24 x25 x26 x27 x28 x29 x30 x31 x32 x33 x34 x35 x36 x37 x38 x39 x40 x41 x42 x43 x44 x45 x46 x47 x48 x49 x50 x51 x52 x53 x54 x55 x56 x57 x58 x59 x60 x61 x62 x63 x64 x65 x66 x67 x68 x69 x70 x71 x72 x73 x74 x75 x76 x77 x78 x79 x80 x81 x82 x83 x84 x85 x86 x87 x88 x89 x90 x91 x92 x93 x94 x95 x96 x97 x98 x99 x100 x101 x102 x103 x104 x105 x106 x107 x108 x109 x110 x111 x112 x113 x114
  have e1 : x1 = true := by show D.toB (F7 9 (D.ls [])) = true; rw [F_9]; rfl
  have goal : ∀ (q20 q23 q25 q30 q107 q112 : Bool), x20 = q20 → x23 = q23 → x25 = q25 → x30 = q30 → x107 = q107 → D.toB x112 = q112 →
      (q20 && ((if q23 then q25 else true) && ((if q23 then true else q25) && ((if q23 then true else if q30 then true else q107) && (if q23 then q30 else if q30 then false else q112))))) = true →
      (x1 && (x20 && (x26 && (x27 && (x109 && x114))))) = true := by
    intro q20 q23 q25 q30 q107 q112 h1 h2 h3 h4 h5 h6 h
    show (x1 && (x20 && ((if x23 = true then x25 else true) && ((if x23 = true then true else x25) && ((if x23 = true then true else if x30 = true then true else x107) && (if x23 = true then x30 else if x30 = true then false else D.toB x112)))))) = true
    rw [e1, h1, h2, h3, h4, h5, h6]; exact h
  cases hc : cS a10 with
  | true =>
    have s1 : spSAnswer x18 = some (1, []) := sA0 x3 a1 a2 a3 a4 a5 a6 a7 a8 a9 a10 a11 a12 a13 a14 hc
    have r1 : spRAnswer x18 = some (1, []) := rA0 x3 a1 a2 a3 a4 a5 a6 a7 a8 a9 a10 a11 a12 a13 a14 hc
    refine goal true true true true _ _ ?_ ?_ ?_ ?_ rfl rfl rfl
    · show D.toB (F7 12 (D.ls x18)) = true
      rw [F_12, toL_ls, s1]; rfl
    · show (D.toI (F7 13 (D.ls x18)) == 0) = true
      rw [F_13, toL_ls, s1]; rfl
    · show D.toB (F7 15 (D.ls x18)) = true
      rw [F_15, toL_ls, r1]; rfl
    · show (D.toI (F7 16 (D.ls x18)) == 0) = true
      rw [F_16, toL_ls, r1]; rfl
  | false =>
    obtain ⟨LS, s1, s2, s3, s4⟩ := sA1 x3 a1 a2 a3 a4 a5 a6 a7 a8 a9 a10 a11 a12 a13 a14 hc
    obtain ⟨LR, r1, r2, r3, r4⟩ := rA1 x3 a1 a2 a3 a4 a5 a6 a7 a8 a9 a10 a11 a12 a13 a14 b5 b8 hc
    have s1 : spSAnswer x18 = some (2, LS) := s1
    have r1 : spRAnswer x18 = some (2, LR) := r1
    have e32 : x32 = LS := by show D.toL (F7 14 (D.ls x18)) = LS; rw [F_14, show (D.ls x18).toL = x18 from rfl, s1]; rfl
    have e50 : x50 = LR := by show D.toL (F7 17 (D.ls x18)) = LR; rw [F_17, show (D.ls x18).toL = x18 from rfl, r1]; rfl
    obtain ⟨k1, k2, k3⟩ := keepEq a4 1 65535 (by omega)
    obtain ⟨ys, hI⟩ := isT a5 x34 a11 x36 x38 x40 x42 x44 a8 x46 a1 a2 x48 x52 x54 x56 x58 x60 x62 x64 x66 x68 x70 x72 x74 x76 x78 a1 a2 (wu32 (a5 + 0)) (wu32 (a8 + 1)) 18 (zmin (zmax a4 1) 65535) (zmin (zmax a3 1) 65495) (-1) []
      (by show D.toL (x32.getD 14 (.i 0)) = _; rw [e32, s4]; rfl) (by show D.toL (x50.getD 14 (.i 0)) = _; rw [e50, r4]; rfl)
      (by show D.toI (x32.getD 7 (.i 0)) = D.toI (x50.getD 12 (.i 0)); rw [e32, s2, e50, r2])
      (by
        show D.toI (x32.getD 13 (.i 0)) = D.toI (x50.getD 4 (.i 0)); rw [e32, s3, e50, r3]
        show zmin (zmax (zmin (zmax a4 1) 65535) 0) 65535 = zmin (zmax a4 1) 65535
        generalize zmin (zmax a4 1) 65535 = z at *
        unfold zmin zmax
        split <;> split <;> omega)
    have hI : spIs x105 = some (1, .b true :: ys) := hI
    refine goal true false true false true true ?_ ?_ ?_ ?_ ?_ ?_ rfl
    · show D.toB (F7 12 (D.ls x18)) = true
      rw [F_12, toL_ls, s1]; rfl
    · show (D.toI (F7 13 (D.ls x18)) == 0) = false
      rw [F_13, toL_ls, s1]; rfl
    · show D.toB (F7 15 (D.ls x18)) = true
      rw [F_15, toL_ls, r1]; rfl
    · show (D.toI (F7 16 (D.ls x18)) == 0) = false
      rw [F_16, toL_ls, r1]; rfl
    · show D.toB (F7 18 (D.ls x105)) = true
      rw [F_18, toL_ls, hI]; rfl
    · show D.toB ((D.toL (F7 20 (D.ls x105))).getD 0 (.i 0)) = true
      rw [F_20, show (D.ls x105).toL = x105 from rfl, hI]; rfl

theorem own : ownKnob Tryz.prog.godebug = none := by kernel_rfl
set_option maxRecDepth 100000 in
theorem lifted (os : Os) (started : os.Started) (H : Type) (enc : TypeId × Value → H) :
    ReturnsInHanded {} Tryz.checked os 3 .any (Rows.connAnswersSpec.pre6 enc Tryz.prog Tryz.f3 Rows.connAnswersRow.domain false) (Rows.connAnswersSpec.post enc Tryz.prog Tryz.f3 false true false false) := by
  refine returnsInHanded_of_change (C := Tryz.checked) own started (by kernel_rfl) Tryz.func3
    (ChangeSpec.witness6 (enc := enc) (C := Tryz.checked) false ⟨#[], #[.int .i64 0, .agg #[.int .i64 0, .int .i64 0, .int .i64 0, .int .i64 0, .int .u32 0], .agg #[.int .i64 0, .int .i64 0, .int .u32 0, .int .u32 0, .int .i64 0, .int .i64 0, .int .i64 0, .int .i64 0, .string .empty]], []⟩ 8 (by kernel_rfl) (by kernel_rfl) (by kernel_rfl) (by kernel_rfl)) ?_
  intro W base args ds gs before hval0 hW hcnd _
  have hval : ∀ (j : Nat) t v, Tryz.f3.params[j]? = some t → args[j]? = some v → Value.okWide Tryz.prog W .any base t v := hval0
  have hW' := hW
  obtain ⟨p, q, hA0, hV, rfl, hfz, hnd⟩ := hW
  have hA : DataW.TrodAll enc Tryz.prog W 0 (fun _ => true) true Tryz.f3.params.toList args.toList ds p := hA0
  rw [Tryz.params3] at hA hval
  obtain ⟨v0, vs0, d0, ds0, p0, q0, hargs, rfl, rfl, h0, r0⟩ := trodAll_cons hA
  obtain ⟨v1, vs1, d1, ds1, p1, q1, rfl, rfl, rfl, h1, r1⟩ := trodAll_cons r0
  obtain ⟨v2, vs2, d2, ds2, p2, q2, rfl, rfl, rfl, h2, r2⟩ := trodAll_cons r1
  obtain ⟨rfl, rfl, rfl⟩ := trodAll_nil r2
  obtain rfl : args = #[v0, v1, v2] := by cases args; simp_all
  obtain ⟨rfl, rfl⟩ := trodVars_none hV
  obtain ⟨a0, rfl, c0⟩ := argWide_int Tryz.underlying3 (hval 0 3 v0 rfl rfl)
  have b0 := has_i64 c0
  obtain ⟨cs1, rfl, hl1, hc1⟩ := okWide_cells (ts := [3, 3, 3, 3, 22]) Tryz.underlying24 (by kernel_rfl) (by kernel_rfl) (hval 1 24 v1 rfl rfl)
  obtain ⟨e1, g1, m1⟩ := hc1 0 3 rfl
  obtain ⟨a1, rfl, c1⟩ := cellWide_int Tryz.underlying3 m1
  have b1 := has_i64 c1
  obtain ⟨e2, g2, m2⟩ := hc1 1 3 rfl
  obtain ⟨a2, rfl, c2⟩ := cellWide_int Tryz.underlying3 m2
  have b2 := has_i64 c2
  obtain ⟨e3, g3, m3⟩ := hc1 2 3 rfl
  obtain ⟨a3, rfl, c3⟩ := cellWide_int Tryz.underlying3 m3
  have b3 := has_i64 c3
  obtain ⟨e4, g4, m4⟩ := hc1 3 3 rfl
  obtain ⟨a4, rfl, c4⟩ := cellWide_int Tryz.underlying3 m4
  have b4 := has_i64 c4
  obtain ⟨e5, g5, m5⟩ := hc1 4 22 rfl
  obtain ⟨a5, rfl, c5⟩ := cellWide_int Tryz.underlying22 m5
  have b5 := has_u32 c5
  obtain rfl : cs1 = [.int .i64 a1, .int .i64 a2, .int .i64 a3, .int .i64 a4, .int .u32 a5] := by
    apply List.ext_getElem?
    intro i
    match i with
    | 0 => exact g1
    | 1 => exact g2
    | 2 => exact g3
    | 3 => exact g4
    | 4 => exact g5
    | i + 5 => rw [List.getElem?_eq_none (by rw [hl1]; simp), List.getElem?_eq_none (by simp)]
  obtain ⟨cs2, rfl, hl2, hc2⟩ := okWide_cells (ts := [3, 3, 22, 22, 3, 3, 3, 3, 9]) Tryz.underlying26 (by kernel_rfl) (by kernel_rfl) (hval 2 26 v2 rfl rfl)
  obtain ⟨e6, g6, m6⟩ := hc2 0 3 rfl
  obtain ⟨a6, rfl, c6⟩ := cellWide_int Tryz.underlying3 m6
  have b6 := has_i64 c6
  obtain ⟨e7, g7, m7⟩ := hc2 1 3 rfl
  obtain ⟨a7, rfl, c7⟩ := cellWide_int Tryz.underlying3 m7
  have b7 := has_i64 c7
  obtain ⟨e8, g8, m8⟩ := hc2 2 22 rfl
  obtain ⟨a8, rfl, c8⟩ := cellWide_int Tryz.underlying22 m8
  have b8 := has_u32 c8
  obtain ⟨e9, g9, m9⟩ := hc2 3 22 rfl
  obtain ⟨a9, rfl, c9⟩ := cellWide_int Tryz.underlying22 m9
  have b9 := has_u32 c9
  obtain ⟨e10, g10, m10⟩ := hc2 4 3 rfl
  obtain ⟨a10, rfl, c10⟩ := cellWide_int Tryz.underlying3 m10
  have b10 := has_i64 c10
  obtain ⟨e11, g11, m11⟩ := hc2 5 3 rfl
  obtain ⟨a11, rfl, c11⟩ := cellWide_int Tryz.underlying3 m11
  have b11 := has_i64 c11
  obtain ⟨e12, g12, m12⟩ := hc2 6 3 rfl
  obtain ⟨a12, rfl, c12⟩ := cellWide_int Tryz.underlying3 m12
  have b12 := has_i64 c12
  obtain ⟨e13, g13, m13⟩ := hc2 7 3 rfl
  obtain ⟨a13, rfl, c13⟩ := cellWide_int Tryz.underlying3 m13
  have b13 := has_i64 c13
  obtain ⟨e14, g14, m14⟩ := hc2 8 9 rfl
  obtain ⟨a14, rfl, b14⟩ := cellWide_str Tryz.underlying9 m14
  obtain rfl : cs2 = [.int .i64 a6, .int .i64 a7, .int .u32 a8, .int .u32 a9, .int .i64 a10, .int .i64 a11, .int .i64 a12, .int .i64 a13, .string ⟨⟨a14⟩⟩] := by
    apply List.ext_getElem?
    intro i
    match i with
    | 0 => exact g6
    | 1 => exact g7
    | 2 => exact g8
    | 3 => exact g9
    | 4 => exact g10
    | 5 => exact g11
    | 6 => exact g12
    | 7 => exact g13
    | 8 => exact g14
    | i + 9 => rw [List.getElem?_eq_none (by rw [hl2]; simp), List.getElem?_eq_none (by simp)]
  refine (law_walkF (P := Tryz.prog) Tryz.checked.mixed (n := 1000) (f := 3) (args := symArgs) (F := F7) (R := fun _ => Option.none) (l := [.i a0, .i a1, .i a2, .i a3, .i a4, .i a5, .i a6, .i a7, .i a8, .i a9, .i a10, .i a11, .i a12, .i a13, .s a14]) (Z := z7) (Ω := Om.none) (w := W) good7 (by intro b cs h; cases h) (by rw [run]; exact pure a0 a1 a2 a3 a4 a5 a6 a7 a8 a9 a10 a11 a12 a13 a14 b0 b1 b2 b3 b4 b5 b6 b7 b8 b9 b10 b11 b12 b13 b14) (vs := [.int .i64 a0, .agg ⟨[.int .i64 a1, .int .i64 a2, .int .i64 a3, .int .i64 a4, .int .u32 a5]⟩, .agg ⟨[.int .i64 a6, .int .i64 a7, .int .u32 a8, .int .u32 a9, .int .i64 a10, .int .i64 a11, .int .i64 a12, .int .i64 a13, .string ⟨⟨a14⟩⟩]⟩]) (Rels.cons (rel_int rfl) (Rels.cons (rel_agg (Rels.cons (rel_int rfl) (Rels.cons (rel_int rfl) (Rels.cons (rel_int rfl) (Rels.cons (rel_int rfl) (Rels.cons (rel_int rfl) (Rels.nil))))))) (Rels.cons (rel_agg (Rels.cons (rel_int rfl) (Rels.cons (rel_int rfl) (Rels.cons (rel_int rfl) (Rels.cons (rel_int rfl) (Rels.cons (rel_int rfl) (Rels.cons (rel_int rfl) (Rels.cons (rel_int rfl) (Rels.cons (rel_int rfl) (Rels.cons (rel_str rfl) (Rels.nil))))))))))) (Rels.nil))))).mono fun e W' ⟨he, hb⟩ => ?_
  subst he
  exact ⟨_, rfl, law_post (by kernel_rfl) (by rw [Tryz.params3]; intro t ht; simp at ht; rcases ht with rfl | rfl | rfl <;> exact ⟨by kernel_rfl, of_decide_eq_true (by kernel_rfl)⟩) (by kernel_rfl) Tryz.underlying4 rfl ⟨rfl, rfl, rfl⟩ hW' hb⟩

theorem over : Rows.connAnswersRow.holds Tryz.pinned (OpenSpec.ofChange Rows.connAnswersSpec) :=
  OpenClaim.holds_of_wide 3 Tryz.f3 rfl rfl rfl rfl rfl rfl rfl ⟨rfl, rfl, rfl, rfl, rfl⟩ rfl rfl rfl rfl rfl (by kernel_rfl) Tryz.func3 (by kernel_rfl)
    (of_decide_eq_true (by kernel_rfl)) (by unfold Func.isWrapper; first | (rw [if_pos (by decide +kernel)]; kernel_rfl) | (rw [if_neg (by decide +kernel)]; exact ⟨rfl, rfl⟩))
    (fun os started H enc _ => lifted os started H enc)
end Go.Proofs.YtdjcdcijhhjpiaaGreat.connAnswers
namespace Go.Proofs.YtdjcdcijhhjpiaaGreat
/-- THE STATEMENT. -/
theorem connAnswers_holds : Rows.ConnAnswersSaid := connAnswers.over
#print axioms connAnswers_holds
end Go.Proofs.YtdjcdcijhhjpiaaGreat
