/-
  Proved: aditlaw19.CtlWindows returns true and leaves its arguments as they read: the congestion window goes on as P19.2 to P19.5 say, at its beginning, behind what was acknowledged, told twice, lost.
  No conditions: every input that can be read.
-/
import Derived.Test.YtgjdhokafmmhcaaSxM
import Derived.Test.YtgjdhokafmmhcaaRows
set_option linter.unusedVariables false
set_option linter.unusedSimpArgs false
namespace Go.Proofs.Ytgjdhokafmmhcaa.ctlWindows
open Go.Sx Go.ChangeShapes Go.WideShapes Go.ChangeAt Go.RowKit
/-- What 'adit/aditlaw19.CtlWindows' comes to. -/
def val (v0 : Int) (v1 : Int) (v2 : Int) (v3 : Int) (v4 : Bool) (v5 : Int) (v6 : Int) (v7 : Int) (v8 : Int) (v9 : Int) : Bool :=
  let x0 : Int := zmax v0 1
  let x1 : Int := zmin x0 65535
  let x2 : Bool := decide ((v0 : Int) < 1)
  let x3 : Bool := decide ((v0 : Int) > 65535)
  let x4 : Int := if x3 then 65535 else v0
  let x5 : Int := if x2 then 1 else x4
  let x6 : Bool := (x1 : Int) == x5
  let x7 : Int := zmax v1 x1
  let x8 : Int := zmin x7 1073741823
  let x9 : Int := w64 (x8 + x1)
  let x10 : Int := zmin x9 1073741823
  let x11 : Int := zmax v3 0
  let x12 : Int := zmin x11 1000
  let x13 : Int := w64 (x12 + 1)
  let x14 : Bool := (x13 : Int) != 3
  let x15 : Int := zmax v8 0
  let x16 : Int := zmin x15 1073741823
  let x17 : Int := w64 (Int.tdiv x16 2)
  let x18 : Int := w64 (2 * x1)
  let x19 : Int := zmax x17 x18
  let x20 : Int := w64 (3 * x1)
  let x21 : Int := w64 (x19 + x20)
  let x22 : Int := if x14 then x8 else x21
  let x23 : Int := if v4 then x10 else x22
  let x24 : Bool := decide ((v1 : Int) < x5)
  let x25 : Bool := decide ((v1 : Int) > 1073741823)
  let x26 : Int := if x25 then 1073741823 else v1
  let x27 : Int := if x24 then x5 else x26
  let x28 : Int := w64 (x27 + x5)
  let x29 : Bool := decide ((x28 : Int) < x5)
  let x30 : Bool := decide ((x28 : Int) > 1073741823)
  let x31 : Int := if x30 then 1073741823 else x28
  let x32 : Int := if x29 then x5 else x31
  let x33 : Bool := decide ((v3 : Int) < 0)
  let x34 : Bool := decide ((v3 : Int) > 1000)
  let x35 : Int := if x34 then 1000 else v3
  let x36 : Int := if x33 then 0 else x35
  let x37 : Int := w64 (x36 + 1)
  let x38 : Bool := (x37 : Int) != 3
  let x39 : Bool := decide ((v8 : Int) < 0)
  let x40 : Bool := decide ((v8 : Int) > 1073741823)
  let x41 : Int := if x40 then 1073741823 else v8
  let x42 : Int := if x39 then 0 else x41
  let x43 : Int := w64 (Int.tdiv x42 2)
  let x44 : Int := w64 (2 * x5)
  let x45 : Bool := decide ((x43 : Int) < x44)
  let x46 : Bool := decide ((x43 : Int) > 1073741823)
  let x47 : Int := if x46 then 1073741823 else x43
  let x48 : Int := if x45 then x44 else x47
  let x49 : Int := w64 (3 * x5)
  let x50 : Int := w64 (x48 + x49)
  let x51 : Bool := decide ((x50 : Int) < x5)
  let x52 : Bool := decide ((x50 : Int) > 1073741823)
  let x53 : Int := if x52 then 1073741823 else x50
  let x54 : Int := if x51 then x5 else x53
  let x55 : Int := if x38 then x27 else x54
  let x56 : Int := if v4 then x32 else x55
  let x57 : Bool := (x23 : Int) == x56
  let x58 : Int := zmax v2 x18
  let x59 : Int := zmin x58 1073741823
  let x60 : Int := if x14 then x59 else x19
  let x61 : Int := if v4 then x59 else x60
  let x62 : Bool := decide ((v2 : Int) < x44)
  let x63 : Bool := decide ((v2 : Int) > 1073741823)
  let x64 : Int := if x63 then 1073741823 else v2
  let x65 : Int := if x62 then x44 else x64
  let x66 : Int := if x38 then x65 else x48
  let x67 : Int := if v4 then x65 else x66
  let x68 : Bool := (x61 : Int) == x67
  let x69 : Bool := (x13 : Int) == x37
  let x70 : Bool := if x14 then v4 else true
  let x71 : Bool := if v4 then v4 else x70
  let x72 : Bool := if x38 then v4 else true
  let x73 : Bool := if v4 then v4 else x72
  let x74 : Bool := (x71 : Bool) == x73
  let x75 : Int := if x14 then v5 else v9
  let x76 : Int := if v4 then v5 else x75
  let x77 : Int := if x38 then v5 else v9
  let x78 : Int := if v4 then v5 else x77
  let x79 : Bool := (x76 : Int) == x78
  let x80 : Bool := if x74 then x79 else false
  let x81 : Bool := if x69 then x80 else false
  let x82 : Bool := if x68 then x81 else false
  let x83 : Bool := if x57 then x82 else false
  let x84 : Bool := if x6 then x83 else false
  let x85 : Bool := if x14 then false else true
  let x86 : Bool := if v4 then false else x85
  let x87 : Bool := if x38 then false else true
  let x88 : Bool := if v4 then false else x87
  let x89 : Bool := (x86 : Bool) == x88
  let x90 : Int := zmax v6 1
  let x91 : Int := zmin x90 65535
  let x92 : Bool := decide ((v6 : Int) < 1)
  let x93 : Bool := decide ((v6 : Int) > 65535)
  let x94 : Int := if x93 then 65535 else v6
  let x95 : Int := if x92 then 1 else x94
  let x96 : Bool := (x91 : Int) == x95
  let x97 : Int := w64 (4 * x91)
  let x98 : Int := w64 (2 * x91)
  let x99 : Int := zmax x98 4380
  let x100 : Int := zmin x97 x99
  let x101 : Int := w64 (4 * x95)
  let x102 : Bool := decide ((x101 : Int) < x95)
  let x103 : Int := w64 (2 * x95)
  let x104 : Bool := decide ((x103 : Int) < 4380)
  let x105 : Int := if x104 then 4380 else x103
  let x106 : Bool := decide ((x101 : Int) > x105)
  let x107 : Int := if x106 then x105 else x101
  let x108 : Int := if x102 then x95 else x107
  let x109 : Bool := (x100 : Int) == x108
  let x110 : Bool := if x96 then x109 else false
  let x111 : Bool := decide ((x8 : Int) < x59)
  let x112 : Bool := (x8 : Int) != 0
  let x113 : Bool := if x111 then true else x112
  let x114 : Bool := if v4 then true else x113
  let x115 : Bool := if x110 then x114 else true
  let x116 : Bool := if x89 then x115 else true
  let x117 : Bool := if x84 then x116 else true
  let x118 : Bool := decide ((v7 : Int) ≥ v5)
  let x119 : Bool := if v4 then x118 else false
  let x120 : Bool := decide ((x27 : Int) < x65)
  let x121 : Bool := (x27 : Int) != 0
  let x122 : Bool := if x120 then true else x121
  let x123 : Bool := if v4 then true else x122
  let x124 : Bool := if x119 then true else x123
  let x125 : Bool := if x110 then x124 else true
  let x126 : Bool := if x89 then x125 else true
  let x127 : Bool := if x84 then x126 else true
  let x128 : Int := w64 (x16 + x1)
  let x129 : Int := zmin x59 x128
  let x130 : Int := zmax v6 0
  let x131 : Int := zmin x130 1073741823
  let x132 : Bool := decide ((x131 : Int) ≥ x1)
  let x133 : Int := w64 (x8 - x131)
  let x134 : Int := zmax x133 x1
  let x135 : Int := w64 (x134 + x1)
  let x136 : Int := if x132 then x135 else x134
  let x137 : Int := zmin x136 1073741823
  let x138 : Int := if x118 then x129 else x137
  let x139 : Int := zmin x131 x1
  let x140 : Int := w64 (x8 + x139)
  let x141 : Int := w64 (x1 * x1)
  let x142 : Int := w64 (Int.tdiv x141 x8)
  let x143 : Int := zmax x142 1
  let x144 : Int := w64 (x8 + x143)
  let x145 : Int := if x111 then x140 else x144
  let x146 : Int := zmin x145 1073741823
  let x147 : Int := if v4 then x138 else x146
  let x148 : Int := w64 (x42 + x5)
  let x149 : Bool := decide ((x65 : Int) < x148)
  let x150 : Int := if x149 then x65 else x148
  let x151 : Bool := decide ((v6 : Int) < 0)
  let x152 : Bool := decide ((v6 : Int) > 1073741823)
  let x153 : Int := if x152 then 1073741823 else v6
  let x154 : Int := if x151 then 0 else x153
  let x155 : Bool := decide ((x154 : Int) ≥ x5)
  let x156 : Int := w64 (x27 - x154)
  let x157 : Bool := decide ((x156 : Int) < x5)
  let x158 : Bool := decide ((x156 : Int) > 1073741823)
  let x159 : Int := if x158 then 1073741823 else x156
  let x160 : Int := if x157 then x5 else x159
  let x161 : Int := w64 (x160 + x5)
  let x162 : Int := if x155 then x161 else x160
  let x163 : Bool := decide ((x154 : Int) < x5)
  let x164 : Int := if x163 then x154 else x5
  let x165 : Int := w64 (x27 + x164)
  let x166 : Int := w64 (x5 * x5)
  let x167 : Int := w64 (Int.tdiv x166 x27)
  let x168 : Bool := decide ((x167 : Int) < 1)
  let x169 : Bool := decide ((x167 : Int) > 1073741823)
  let x170 : Int := if x169 then 1073741823 else x167
  let x171 : Int := if x168 then 1 else x170
  let x172 : Int := w64 (x27 + x171)
  let x173 : Int := if x120 then x165 else x172
  let x174 : Int := if v4 then x162 else x173
  let x175 : Int := if x119 then x150 else x174
  let x176 : Bool := decide ((x175 : Int) < x5)
  let x177 : Bool := decide ((x175 : Int) > 1073741823)
  let x178 : Int := if x177 then 1073741823 else x175
  let x179 : Int := if x176 then x5 else x178
  let x180 : Bool := (x147 : Int) == x179
  let x181 : Bool := (x59 : Int) == x65
  let x182 : Bool := if x118 then false else v4
  let x183 : Bool := if v4 then x182 else v4
  let x184 : Bool := if x119 then false else v4
  let x185 : Bool := (x183 : Bool) == x184
  let x186 : Bool := (v5 : Int) == v5
  let x187 : Bool := if x185 then x186 else false
  let x188 : Bool := if x181 then x187 else false
  let x189 : Bool := if x180 then x188 else false
  let x190 : Bool := if x6 then x189 else false
  let x191 : Bool := (x19 : Int) == x48
  let x192 : Bool := if x191 then x186 else false
  let x193 : Bool := if x6 then x192 else false
  let x194 : Bool := if x6 then x193 else false
  let x195 : Bool := if x190 then x194 else false
  let x196 : Bool := if x110 then x195 else false
  let x197 : Bool := if x89 then x196 else false
  let x198 : Bool := if x84 then x197 else false
  (x117 && (x127 && x198))
def symArgs : List SV := [.agg [.int .i64 (.var 0), .int .i64 (.var 1), .int .i64 (.var 2), .int .i64 (.var 3), .bool (.var 4), .int .i64 (.var 5)], .agg [.int .i64 (.var 6), .int .i64 (.var 7), .int .i64 (.var 8), .int .i64 (.var 9)]]
set_option maxRecDepth 100000 in
theorem run (v0 : Int) (v1 : Int) (v2 : Int) (v3 : Int) (v4 : Bool) (v5 : Int) (v6 : Int) (v7 : Int) (v8 : Int) (v9 : Int) : (evFun Try.prog 1000 6 symArgs []).okB (env [.i v0, .i v1, .i v2, .i v3, .b v4, .i v5, .i v6, .i v7, .i v8, .i v9]) = val v0 v1 v2 v3 v4 v5 v6 v7 v8 v9 := by kernel_rfl

theorem L1 (v lo hi : Int) (h : lo ≤ hi) : (if decide (v < lo) = true then lo else if decide (v > hi) = true then hi else v) = zmin (zmax v lo) hi := by
  simp only [decide_eq_true_eq, zmin, zmax]; split <;> split <;> (try split) <;> omega
theorem L1b (v lo hi : Int) (h : lo ≤ hi) : lo ≤ zmin (zmax v lo) hi ∧ zmin (zmax v lo) hi ≤ hi := by
  simp only [zmin, zmax]; split <;> (try split) <;> omega
theorem L2 (v lo hi : Int) (h : v ≤ hi) (h' : lo ≤ hi) : (if decide (v < lo) = true then lo else if decide (v > hi) = true then hi else v) = zmax v lo := by
  simp only [decide_eq_true_eq, zmax]; split <;> (try split) <;> omega
theorem L3 (v lo hi : Int) (h : v ≤ hi) (h' : lo ≤ hi) : lo ≤ zmax v lo ∧ zmax v lo ≤ hi := by
  simp only [zmax]; split <;> omega
theorem L4 (a b : Int) : (if decide (a < b) = true then a else b) = zmin a b := by
  simp only [decide_eq_true_eq, zmin]; split <;> (try split) <;> omega
theorem L5 (v lo hi : Int) (h : lo ≤ v) : (if decide (v < lo) = true then lo else if decide (v > hi) = true then hi else v) = zmin v hi := by
  simp only [decide_eq_true_eq, zmin]; split <;> (try split) <;> omega
theorem L6 (v lo hi : Int) (h : lo ≤ v) (h' : v ≤ hi) : (if decide (v < lo) = true then lo else if decide (v > hi) = true then hi else v) = v := by
  simp only [decide_eq_true_eq]; split <;> (try split) <;> omega
theorem L7 (a b : Int) : zmin a b ≤ a ∧ zmin a b ≤ b ∧ (zmin a b = a ∨ zmin a b = b) := by
  simp only [zmin]; split <;> omega
theorem quo_le (m c : Int) (h1 : 1 ≤ m) (h2 : m ≤ c) : 0 ≤ m * m / c ∧ m * m / c ≤ m := by
  constructor
  · exact Int.ediv_nonneg (Int.mul_nonneg (by omega) (by omega)) (by omega)
  · have h3 : m * m ≤ m * c := Int.mul_le_mul_of_nonneg_left h2 (by omega)
    have h4 : m * m / c ≤ m * c / c := Int.ediv_le_ediv (by omega) h3
    rwa [Int.mul_ediv_cancel _ (by omega)] at h4
theorem sq_le (m : Int) (h1 : 1 ≤ m) (h2 : m ≤ 65535) : 0 ≤ m * m ∧ m * m ≤ 4294836225 := by
  constructor
  · exact Int.mul_nonneg (by omega) (by omega)
  · have := Int.mul_le_mul h2 h2 (by omega) (by omega)
    omega
theorem pure (v0 v1 v2 v3 : Int) (v4 : Bool) (v5 v6 v7 v8 v9 : Int) (b0 : -9223372036854775808 ≤ v0 ∧ v0 ≤ 9223372036854775807) (b1 : -9223372036854775808 ≤ v1 ∧ v1 ≤ 9223372036854775807) (b2 : -9223372036854775808 ≤ v2 ∧ v2 ≤ 9223372036854775807) (b3 : -9223372036854775808 ≤ v3 ∧ v3 ≤ 9223372036854775807) (b5 : -9223372036854775808 ≤ v5 ∧ v5 ≤ 9223372036854775807) (b6 : -9223372036854775808 ≤ v6 ∧ v6 ≤ 9223372036854775807) (b7 : -9223372036854775808 ≤ v7 ∧ v7 ≤ 9223372036854775807) (b8 : -9223372036854775808 ≤ v8 ∧ v8 ≤ 9223372036854775807) (b9 : -9223372036854775808 ≤ v9 ∧ v9 ≤ 9223372036854775807) : val v0 v1 v2 v3 v4 v5 v6 v7 v8 v9 = true := by
  unfold val
  extract_lets x0 x1 x2 x3 x4 x5 x6 x7 x8 x9 x10 x11 x12 x13 x14 x15 x16 x17 x18 x19 x20 x21 x22 x23 x24 x25 x26 x27 x28 x29 x30 x31 x32 x33 x34 x35 x36 x37 x38 x39 x40 x41 x42 x43 x44 x45 x46 x47 x48 x49 x50 x51 x52 x53 x54 x55 x56 x57 x58 x59 x60 x61 x62 x63 x64 x65 x66 x67 x68 x69 x70 x71 x72 x73 x74 x75 x76 x77 x78 x79 x80 x81 x82 x83 x84 x85 x86 x87 x88 x89 x90 x91 x92 x93 x94 x95 x96 x97 x98 x99 x100 x101 x102 x103 x104 x105 x106 x107 x108 x109 x110 x111 x112 x113 x114 x115 x116 x117 x118 x119 x120 x121 x122 x123 x124 x125 x126 x127 x128 x129 x130 x131 x132 x133 x134 x135 x136 x137 x138 x139 x140 x141 x142 x143 x144 x145 x146 x147 x148 x149 x150 x151 x152 x153 x154 x155 x156 x157 x158 x159 x160 x161 x162 x163 x164 x165 x166 x167 x168 x169 x170 x171 x172 x173 x174 x175 x176 x177 x178 x179 x180 x181 x182 x183 x184 x185 x186 x187 x188 x189 x190 x191 x192 x193 x194 x195 x196 x197 x198
  have e5 : x5 = x1 := by grind [zmax, zmin]
  have c1 : 1 ≤ x1 ∧ x1 ≤ 65535 := by grind [zmax, zmin]
  have c8 : x1 ≤ x8 ∧ x8 ≤ 1073741823 := by
    clear_value x1
    grind [zmax, zmin]
  have e27 : x27 = x8 := by
    clear_value x1 x5
    grind [zmax, zmin]
  have e9 : x9 = x8 + x1 := by show w64 (x8 + x1) = _; rw [w64_in] <;> omega
  have e28 : x28 = x9 := by show w64 (x27 + x5) = w64 (x8 + x1); rw [e27, e5]
  have e32 : x32 = x10 := by
    clear_value x28 x9 x1 x5 x8
    grind [zmax, zmin]
  have e36 : x36 = x12 := by grind [zmax, zmin]
  have e37 : x37 = x13 := by show w64 (x36 + 1) = w64 (x12 + 1); rw [e36]
  have e38 : x38 = x14 := by show (x37 != 3) = (x13 != 3); rw [e37]
  have c16 : 0 ≤ x16 ∧ x16 ≤ 1073741823 := by grind [zmax, zmin]
  have e42 : x42 = x16 := by grind [zmax, zmin]
  have e17 : x17 = x16 / 2 := by show w64 (Int.tdiv x16 2) = _; rw [Int.tdiv_eq_ediv_of_nonneg c16.1, w64_in] <;> omega
  have e43 : x43 = x17 := by show w64 (Int.tdiv x42 2) = w64 (Int.tdiv x16 2); rw [e42]
  have e18 : x18 = 2 * x1 := by show w64 (2 * x1) = _; rw [w64_in] <;> omega
  have e44 : x44 = x18 := by show w64 (2 * x5) = w64 (2 * x1); rw [e5]
  have e48 : x48 = x19 := by
    clear_value x43 x17 x44 x18 x16 x1
    grind [zmax, zmin]
  have c19 : 2 * x1 ≤ x19 ∧ x19 ≤ 536870911 := by
    clear_value x17 x18 x16 x1
    grind [zmax, zmin]
  have e20 : x20 = 3 * x1 := by show w64 (3 * x1) = _; rw [w64_in] <;> omega
  have e49 : x49 = x20 := by show w64 (3 * x5) = w64 (3 * x1); rw [e5]
  have e21 : x21 = x19 + 3 * x1 := by show w64 (x19 + x20) = _; rw [e20, w64_in] <;> omega
  have e50 : x50 = x21 := by show w64 (x48 + x49) = w64 (x19 + x20); rw [e48, e49]
  have e54 : x54 = x21 := by
    clear_value x50 x21 x5 x1 x19
    grind
  have e55 : x55 = x22 := by show (if x38 = true then x27 else x54) = (if x14 = true then x8 else x21); rw [e38, e27, e54]
  have e56 : x56 = x23 := by show (if v4 = true then x32 else x55) = (if v4 = true then x10 else x22); rw [e32, e55]
  have c59 : x18 ≤ x59 ∧ x59 ≤ 1073741823 := by
    clear_value x18 x1
    grind [zmax, zmin]
  have e65 : x65 = x59 := by
    clear_value x44 x18 x1
    grind [zmax, zmin]
  have e66 : x66 = x60 := by show (if x38 = true then x65 else x48) = (if x14 = true then x59 else x19); rw [e38, e65, e48]
  have e67 : x67 = x61 := by show (if v4 = true then x65 else x66) = (if v4 = true then x59 else x60); rw [e65, e66]
  have e72 : x72 = x70 := by show (if x38 = true then v4 else true) = (if x14 = true then v4 else true); rw [e38]
  have e73 : x73 = x71 := by show (if v4 = true then v4 else x72) = (if v4 = true then v4 else x70); rw [e72]
  have e77 : x77 = x75 := by show (if x38 = true then v5 else v9) = (if x14 = true then v5 else v9); rw [e38]
  have e78 : x78 = x76 := by show (if v4 = true then v5 else x77) = (if v4 = true then v5 else x75); rw [e77]
  have e87 : x87 = x85 := by show (if x38 = true then false else true) = (if x14 = true then false else true); rw [e38]
  have e88 : x88 = x86 := by show (if v4 = true then false else x87) = (if v4 = true then false else x85); rw [e87]
  have c91 : 1 ≤ x91 ∧ x91 ≤ 65535 := by grind [zmax, zmin]
  have e95 : x95 = x91 := by grind [zmax, zmin]
  have e97 : x97 = 4 * x91 := by show w64 (4 * x91) = _; rw [w64_in] <;> omega
  have e98 : x98 = 2 * x91 := by show w64 (2 * x91) = _; rw [w64_in] <;> omega
  have e101 : x101 = x97 := by show w64 (4 * x95) = w64 (4 * x91); rw [e95]
  have e103 : x103 = x98 := by show w64 (2 * x95) = w64 (2 * x91); rw [e95]
  have e108 : x108 = x100 := by
    clear_value x101 x97 x103 x98 x95 x91
    grind [zmax, zmin]
  have e120 : x120 = x111 := by show decide (x27 < x65) = decide (x8 < x59); rw [e27, e65]
  have e121 : x121 = x112 := by show (x27 != 0) = (x8 != 0); rw [e27]
  have e112 : x112 = true := by
    have : x8 ≠ 0 := by omega
    show (x8 != 0) = true
    simpa using this
  have e128 : x128 = x16 + x1 := by show w64 (x16 + x1) = _; rw [w64_in] <;> omega
  have e148 : x148 = x128 := by show w64 (x42 + x5) = w64 (x16 + x1); rw [e42, e5]
  have e150 : x150 = x129 := by
    show (if decide (x65 < x148) = true then x65 else x148) = zmin x59 x128
    rw [e65, e148, L4]
  have c129 : x1 ≤ x129 ∧ x129 ≤ 1073741823 := by
    have : x129 = zmin x59 x128 := rfl
    have := L7 x59 x128
    omega
  have c131 : 0 ≤ x131 ∧ x131 ≤ 1073741823 := L1b v6 0 1073741823 (by decide)
  have e154 : x154 = x131 := L1 v6 0 1073741823 (by decide)
  have e155 : x155 = x132 := by show decide (x154 ≥ x5) = decide (x131 ≥ x1); rw [e154, e5]
  have e133 : x133 = x8 - x131 := by show w64 (x8 - x131) = _; rw [w64_in] <;> omega
  have e156 : x156 = x133 := by show w64 (x27 - x154) = w64 (x8 - x131); rw [e27, e154]
  have e160 : x160 = x134 := by
    show (if decide (x156 < x5) = true then x5 else if decide (x156 > 1073741823) = true then 1073741823 else x156) = zmax x133 x1
    rw [e156, e5]
    exact L2 _ _ _ (by omega) (by omega)
  have c134 : x1 ≤ x134 ∧ x134 ≤ 1073741823 := L3 x133 x1 1073741823 (by omega) (by omega)
  have e135 : x135 = x134 + x1 := by show w64 (x134 + x1) = _; rw [w64_in] <;> omega
  have e161 : x161 = x135 := by show w64 (x160 + x5) = w64 (x134 + x1); rw [e160, e5]
  have e162 : x162 = x136 := by show (if x155 = true then x161 else x160) = (if x132 = true then x135 else x134); rw [e155, e161, e160]
  have c136 : x1 ≤ x136 := by
    show x1 ≤ (if x132 = true then x135 else x134)
    split <;> omega
  have c139 : 0 ≤ x139 ∧ x139 ≤ x1 := by
    have : x139 = zmin x131 x1 := rfl
    have := L7 x131 x1
    omega
  have e164 : x164 = x139 := by
    show (if decide (x154 < x5) = true then x154 else x5) = zmin x131 x1
    rw [e154, e5, L4]
  have e140 : x140 = x8 + x139 := by show w64 (x8 + x139) = _; rw [w64_in] <;> omega
  have e165 : x165 = x140 := by show w64 (x27 + x164) = w64 (x8 + x139); rw [e27, e164]
  have q1 := sq_le x1 c1.1 c1.2
  have e141 : x141 = x1 * x1 := by show w64 (x1 * x1) = _; rw [w64_in] <;> omega
  have q2 := quo_le x1 x8 c1.1 c8.1
  have e142 : x142 = x1 * x1 / x8 := by show w64 (Int.tdiv x141 x8) = _; rw [e141, Int.tdiv_eq_ediv_of_nonneg q1.1, w64_in] <;> omega
  have c142 : 0 ≤ x142 ∧ x142 ≤ x1 := by rw [e142]; exact q2
  have e166 : x166 = x141 := by show w64 (x5 * x5) = w64 (x1 * x1); rw [e5]
  have e167 : x167 = x142 := by show w64 (Int.tdiv x166 x27) = w64 (Int.tdiv x141 x8); rw [e166, e27]
  have c143 : 1 ≤ x143 ∧ x143 ≤ 65535 := L3 x142 1 65535 (by omega) (by decide)
  have e171 : x171 = x143 := by
    show (if decide (x167 < 1) = true then 1 else if decide (x167 > 1073741823) = true then 1073741823 else x167) = zmax x142 1
    rw [e167]
    exact L2 _ _ _ (by omega) (by decide)
  have e144 : x144 = x8 + x143 := by show w64 (x8 + x143) = _; rw [w64_in] <;> omega
  have e172 : x172 = x144 := by show w64 (x27 + x171) = w64 (x8 + x143); rw [e27, e171]
  have e173 : x173 = x145 := by show (if x120 = true then x165 else x172) = (if x111 = true then x140 else x144); rw [e120, e165, e172]
  have c145 : x1 ≤ x145 := by
    show x1 ≤ (if x111 = true then x140 else x144)
    split <;> omega
  have e174 : x174 = (if v4 = true then x136 else x145) := by show (if v4 = true then x162 else x173) = _; rw [e162, e173]
  have e179 : x179 = x147 := by
    show (if decide (x175 < x5) = true then x5 else if decide (x175 > 1073741823) = true then 1073741823 else x175) = (if v4 = true then (if x118 = true then x129 else zmin x136 1073741823) else zmin x145 1073741823)
    have e175 : x175 = (if (if v4 = true then x118 else false) = true then x129 else if v4 = true then x136 else x145) := by
      show (if (if v4 = true then x118 else false) = true then x150 else x174) = _
      rw [e150, e174]
    rw [e175, e5]
    cases v4 with
    | false => simp only [Bool.false_eq_true, if_false]; exact L5 _ _ _ c145
    | true =>
      simp only [if_true]
      cases h118 : x118 with
      | false => simp only [Bool.false_eq_true, if_false]; exact L5 _ _ _ c136
      | true => simp only [if_true]; exact L6 _ _ _ c129.1 c129.2
  have e182 : x183 = x184 := by
    show (if v4 = true then (if x118 = true then false else v4) else v4) = (if (if v4 = true then x118 else false) = true then false else v4)
    cases v4 <;> simp
  have f6 : x6 = true := by show (x1 == x5) = true; rw [e5]; simp
  have f57 : x57 = true := by show (x23 == x56) = true; rw [e56]; simp
  have f68 : x68 = true := by show (x61 == x67) = true; rw [e67]; simp
  have f69 : x69 = true := by show (x13 == x37) = true; rw [e37]; simp
  have f74 : x74 = true := by show (x71 == x73) = true; rw [e73]; simp
  have f79 : x79 = true := by show (x76 == x78) = true; rw [e78]; simp
  have f89 : x89 = true := by show (x86 == x88) = true; rw [e88]; simp
  have f96 : x96 = true := by show (x91 == x95) = true; rw [e95]; simp
  have f109 : x109 = true := by show (x100 == x108) = true; rw [e108]; simp
  have f180 : x180 = true := by show (x147 == x179) = true; rw [e179]; simp
  have f181 : x181 = true := by show (x59 == x65) = true; rw [e65]; simp
  have f185 : x185 = true := by show (x183 == x184) = true; rw [e182]; simp
  have f186 : x186 = true := by show (v5 == v5) = true; simp
  have f191 : x191 = true := by show (x19 == x48) = true; rw [e48]; simp
  have f83 : x83 = true := by show (if x57 = true then (if x68 = true then (if x69 = true then (if x74 = true then x79 else false) else false) else false) else false) = true; rw [f57, f68, f69, f74, f79]; rfl
  have f84 : x84 = true := by show (if x6 = true then x83 else false) = true; rw [f6, f83]; rfl
  have f110 : x110 = true := by show (if x96 = true then x109 else false) = true; rw [f96, f109]; rfl
  have f113 : x113 = true := by show (if x111 = true then true else x112) = true; rw [e112]; simp
  have f114 : x114 = true := by show (if v4 = true then true else x113) = true; rw [f113]; simp
  have f117 : x117 = true := by show (if x84 = true then (if x89 = true then (if x110 = true then x114 else true) else true) else true) = true; rw [f114]; simp
  have f122 : x122 = true := by show (if x120 = true then true else x121) = true; rw [e121, e112]; simp
  have f124 : x124 = true := by show (if x119 = true then true else (if v4 = true then true else x122)) = true; rw [f122]; simp
  have f127 : x127 = true := by show (if x84 = true then (if x89 = true then (if x110 = true then x124 else true) else true) else true) = true; rw [f124]; simp
  have f190 : x190 = true := by show (if x6 = true then (if x180 = true then (if x181 = true then (if x185 = true then x186 else false) else false) else false) else false) = true; rw [f6, f180, f181, f185, f186]; rfl
  have f194 : x194 = true := by show (if x6 = true then (if x6 = true then (if x191 = true then x186 else false) else false) else false) = true; rw [f6, f191, f186]; rfl
  have f198 : x198 = true := by show (if x84 = true then (if x89 = true then (if x110 = true then (if x190 = true then x194 else false) else false) else false) else false) = true; rw [f84, f89, f110, f190, f194]; rfl
  show (x117 && (x127 && x198)) = true
  rw [f117, f127, f198]; rfl

theorem own : ownKnob Try.prog.godebug = none := by kernel_rfl
set_option maxRecDepth 100000 in
theorem lifted (os : Os) (started : os.Started) (H : Type) (enc : TypeId × Value → H) :
    ReturnsInHanded {} Try.checked os 6 .any (Rows.ctlWindowsSpec.pre6 enc Try.prog Try.f6 Rows.ctlWindowsRow.domain false) (Rows.ctlWindowsSpec.post enc Try.prog Try.f6 false true false false) := by
  refine returnsInHanded_of_change (C := Try.checked) own started (by kernel_rfl) Try.func6
    (ChangeSpec.witness6 (enc := enc) (C := Try.checked) false ⟨#[], #[.agg #[.int .i64 0, .int .i64 0, .int .i64 0, .int .i64 0, .bool false, .int .i64 0], .agg #[.int .i64 0, .int .i64 0, .int .i64 0, .int .i64 0]], []⟩ 8 (by kernel_rfl) (by kernel_rfl) (by kernel_rfl) (by kernel_rfl)) ?_
  intro W base args ds gs before hval0 hW hcnd _
  have hval : ∀ (j : Nat) t v, Try.f6.params[j]? = some t → args[j]? = some v → Value.okWide Try.prog W .any base t v := hval0
  have hW' := hW
  obtain ⟨p, q, hA0, hV, rfl, hfz, hnd⟩ := hW
  have hA : DataW.TrodAll enc Try.prog W 0 (fun _ => true) true Try.f6.params.toList args.toList ds p := hA0
  rw [Try.params6] at hA hval
  obtain ⟨v0, vs0, d0, ds0, p0, q0, hargs, rfl, rfl, h0, r0⟩ := trodAll_cons hA
  obtain ⟨v1, vs1, d1, ds1, p1, q1, rfl, rfl, rfl, h1, r1⟩ := trodAll_cons r0
  obtain ⟨rfl, rfl, rfl⟩ := trodAll_nil r1
  obtain rfl : args = #[v0, v1] := by cases args; simp_all
  obtain ⟨rfl, rfl⟩ := trodVars_none hV
  obtain ⟨cs0, rfl, hl0, hc0⟩ := okWide_cells (ts := [3, 3, 3, 3, 4, 3]) Try.underlying23 (by kernel_rfl) (by kernel_rfl) (hval 0 23 v0 rfl rfl)
  obtain ⟨e0, g0, m0⟩ := hc0 0 3 rfl
  obtain ⟨a0, rfl, c0⟩ := cellWide_int Try.underlying3 m0
  have b0 := has_i64 c0
  obtain ⟨e1, g1, m1⟩ := hc0 1 3 rfl
  obtain ⟨a1, rfl, c1⟩ := cellWide_int Try.underlying3 m1
  have b1 := has_i64 c1
  obtain ⟨e2, g2, m2⟩ := hc0 2 3 rfl
  obtain ⟨a2, rfl, c2⟩ := cellWide_int Try.underlying3 m2
  have b2 := has_i64 c2
  obtain ⟨e3, g3, m3⟩ := hc0 3 3 rfl
  obtain ⟨a3, rfl, c3⟩ := cellWide_int Try.underlying3 m3
  have b3 := has_i64 c3
  obtain ⟨e4, g4, m4⟩ := hc0 4 4 rfl
  obtain ⟨a4, rfl⟩ := cellWide_bool Try.underlying4 m4
  obtain ⟨e5, g5, m5⟩ := hc0 5 3 rfl
  obtain ⟨a5, rfl, c5⟩ := cellWide_int Try.underlying3 m5
  have b5 := has_i64 c5
  obtain rfl : cs0 = [.int .i64 a0, .int .i64 a1, .int .i64 a2, .int .i64 a3, .bool a4, .int .i64 a5] := by
    apply List.ext_getElem?
    intro i
    match i with
    | 0 => exact g0
    | 1 => exact g1
    | 2 => exact g2
    | 3 => exact g3
    | 4 => exact g4
    | 5 => exact g5
    | i + 6 => rw [List.getElem?_eq_none (by rw [hl0]; simp), List.getElem?_eq_none (by simp)]
  obtain ⟨cs1, rfl, hl1, hc1⟩ := okWide_cells (ts := [3, 3, 3, 3]) Try.underlying42 (by kernel_rfl) (by kernel_rfl) (hval 1 42 v1 rfl rfl)
  obtain ⟨e6, g6, m6⟩ := hc1 0 3 rfl
  obtain ⟨a6, rfl, c6⟩ := cellWide_int Try.underlying3 m6
  have b6 := has_i64 c6
  obtain ⟨e7, g7, m7⟩ := hc1 1 3 rfl
  obtain ⟨a7, rfl, c7⟩ := cellWide_int Try.underlying3 m7
  have b7 := has_i64 c7
  obtain ⟨e8, g8, m8⟩ := hc1 2 3 rfl
  obtain ⟨a8, rfl, c8⟩ := cellWide_int Try.underlying3 m8
  have b8 := has_i64 c8
  obtain ⟨e9, g9, m9⟩ := hc1 3 3 rfl
  obtain ⟨a9, rfl, c9⟩ := cellWide_int Try.underlying3 m9
  have b9 := has_i64 c9
  obtain rfl : cs1 = [.int .i64 a6, .int .i64 a7, .int .i64 a8, .int .i64 a9] := by
    apply List.ext_getElem?
    intro i
    match i with
    | 0 => exact g6
    | 1 => exact g7
    | 2 => exact g8
    | 3 => exact g9
    | i + 4 => rw [List.getElem?_eq_none (by rw [hl1]; simp), List.getElem?_eq_none (by simp)]
  refine (law_walk (P := Try.prog) Try.checked.mixed (n := 1000) (f := 6) (args := symArgs) (η := env [.i a0, .i a1, .i a2, .i a3, .b a4, .i a5, .i a6, .i a7, .i a8, .i a9]) (by rw [run]; exact pure a0 a1 a2 a3 a4 a5 a6 a7 a8 a9 b0 b1 b2 b3 b5 b6 b7 b8 b9) (vs := [.agg ⟨[.int .i64 a0, .int .i64 a1, .int .i64 a2, .int .i64 a3, .bool a4, .int .i64 a5]⟩, .agg ⟨[.int .i64 a6, .int .i64 a7, .int .i64 a8, .int .i64 a9]⟩]) (Rels.cons (rel_agg (Rels.cons (rel_int rfl) (Rels.cons (rel_int rfl) (Rels.cons (rel_int rfl) (Rels.cons (rel_int rfl) (Rels.cons (rel_bool rfl) (Rels.cons (rel_int rfl) (Rels.nil)))))))) (Rels.cons (rel_agg (Rels.cons (rel_int rfl) (Rels.cons (rel_int rfl) (Rels.cons (rel_int rfl) (Rels.cons (rel_int rfl) (Rels.nil)))))) (Rels.nil))) W).mono fun e W' ⟨he, hb⟩ => ?_
  subst he
  exact ⟨_, rfl, law_post (by kernel_rfl) (by rw [Try.params6]; intro t ht; simp at ht; rcases ht with rfl | rfl <;> exact ⟨by kernel_rfl, of_decide_eq_true (by kernel_rfl)⟩) (by kernel_rfl) Try.underlying4 rfl ⟨rfl, rfl, rfl⟩ hW' hb⟩

theorem over : Rows.ctlWindowsRow.holds Try.pinned (OpenSpec.ofChange Rows.ctlWindowsSpec) :=
  OpenClaim.holds_of_wide 6 Try.f6 rfl rfl rfl rfl rfl rfl rfl ⟨rfl, rfl, rfl, rfl, rfl⟩ rfl rfl rfl rfl rfl (by kernel_rfl) Try.func6 (by kernel_rfl)
    (of_decide_eq_true (by kernel_rfl)) (by unfold Func.isWrapper; first | (rw [if_pos (by decide +kernel)]; kernel_rfl) | (rw [if_neg (by decide +kernel)]; exact ⟨rfl, rfl⟩))
    (fun os started H enc _ => lifted os started H enc)
end Go.Proofs.Ytgjdhokafmmhcaa.ctlWindows
namespace Go.Proofs.Ytgjdhokafmmhcaa
/-- THE STATEMENT. -/
theorem ctlWindows_holds : Rows.CtlWindowsSaid := ctlWindows.over
#print axioms ctlWindows_holds
end Go.Proofs.Ytgjdhokafmmhcaa
