/- Contracts of functions that CtlBounds reaches: templates, their steps, and that they are so. Written by a program of this work. -/
import Derived.Test.YtgjdhokafmmhcaaSyU
import Derived.Test.YtgjdhokafmmhcaaChecked
set_option linter.unusedVariables false
set_option linter.unusedSimpArgs false
namespace Go.Proofs.Ytgjdhokafmmhcaa.ctlBounds
open Go.Sy
def z0 : Ext := Ext.none
def F0 : Nat → D → D := fun _ d => d
def conAwake : Con := ⟨0, ⟨⟨[],
    []⟩,
    [], [], []⟩,
  [],
  [(.ret, ⟨⟨[.bool (.lit (.b true))],
    []⟩,
    [], [], []⟩)]⟩
/-- One round of Awake. -/
def stepAwake  : Option (Nat × List D) :=
  (some (1, []))
set_option maxRecDepth 100000 in
theorem stepAwake_eq (F : Nat → D → D)  : stepV F (stepC Try.prog z0 8 1000 conAwake) [] = stepAwake  := by kernel_rfl
def spAwake : List D → Option (Nat × List D)
  | [] => stepAwake 
  | _ => none
def F1 : Nat → D → D := updF F0 0 fun d => spAwake d.toL
theorem wfAwake : conAwake.wf = true := by kernel_rfl
def z1 : Ext := z0.addCall 8 conAwake
def conL1018 : Con := ⟨3, ⟨⟨[.top, .rsl (.row [(.int .i64), (.int .i64), (.int .i64), (.int .i64)]) (.var 0), .top, .top, .top, .bool (.lit (.b true)), .ptr 0 0, .ptr 1 0, .int .i64 (.var 1), .int .i64 (.var 2), .top, .top, .top, .top, .top, .top, .top, .top, .top, .top, .top, .top, .top, .top, .top, .top, .top, .top, .top, .top, .top, .top, .top, .top, .top, .top, .top, .top, .top, .top, .top, .top, .top, .top, .top, .top, .top, .top, .top, .top, .top, .top, .top, .top, .top, .top, .top, .top, .top, .top, .top, .top, .top, .top, .top, .top, .top, .top, .top, .top, .top, .top, .top, .top, .top, .top, .top, .top, .top, .top, .top, .top, .top, .top, .top, .top, .top, .top, .top, .top, .top, .top, .top, .top, .top, .top, .top, .top, .top, .top, .top, .top, .top, .top, .top, .top, .top, .top, .top, .top, .top, .top, .top, .top, .top, .top, .top, .top, .top, .top, .top, .top, .top, .top, .top, .top, .top, .top, .top, .top, .top, .top, .top, .top],
    [.row [.int .i64 (.var 3), .int .i64 (.var 4), .int .i64 (.var 5), .int .i64 (.var 6), .bool (.var 7), .int .i64 (.var 8)] 23, .row [.bool (.var 9), .int .i64 (.var 10), .int .i64 (.var 11), .int .i64 (.var 12), .int .i64 (.var 13)] 36]⟩,
    [.fixed, .fixed], [.l, .i, .i, .i, .i, .i, .i, .b, .i, .b, .i, .i, .i, .i], []⟩,
  [0, 1],
  [(.ret, ⟨⟨[.top, .top, .top, .top, .bool (.lit (.b false)), .top, .top, .top, .top, .top, .top, .top, .top, .top, .top, .top, .top, .top, .top, .top, .top, .top, .top, .top, .top, .top, .top, .top, .top, .top, .top, .top, .top, .top, .top, .top, .top, .top, .top, .top, .top, .top, .top, .top, .top, .top, .top, .top, .top, .top, .top, .top, .top, .top, .top, .top, .top, .top, .top, .top, .top, .top, .top, .top, .top, .top, .top, .top, .top, .top, .top, .top, .top, .top, .top, .top, .top, .top, .top, .top, .top, .top, .top, .top, .top, .top, .top, .top, .top, .top, .top, .top, .top, .top, .top, .top, .top, .top, .top, .top, .top, .top, .top, .top, .top, .top, .top, .top, .top, .top, .top, .top, .top, .top, .top, .top, .top, .top, .top, .top, .top, .top, .top, .top, .top, .top, .top, .top, .top, .top, .top, .top, .top, .top],
    [.row [.int .i64 (.var 0), .int .i64 (.var 1), .int .i64 (.var 2), .int .i64 (.var 3), .bool (.var 4), .int .i64 (.var 5)] 23, .row [.bool (.var 6), .int .i64 (.var 7), .int .i64 (.var 8), .int .i64 (.var 9), .int .i64 (.var 10)] 36]⟩,
    [.fixed, .fixed], [.i, .i, .i, .i, .b, .i, .b, .i, .i, .i, .i], [none, none, none, none, none, none, none, none, none, none, none]⟩),
  (.exit 0, ⟨⟨[.top, .top, .top, .top, .top, .bool (.lit (.b true)), .top, .top, .top, .top, .top, .top, .top, .top, .top, .top, .top, .top, .top, .top, .top, .top, .top, .top, .top, .top, .top, .top, .top, .top, .top, .top, .top, .top, .top, .top, .top, .top, .top, .top, .top, .top, .top, .top, .top, .top, .top, .top, .top, .top, .top, .top, .top, .top, .top, .top, .top, .top, .top, .top, .top, .top, .top, .top, .top, .top, .top, .top, .top, .top, .top, .top, .top, .top, .top, .top, .top, .top, .top, .top, .top, .top, .top, .top, .top, .top, .top, .top, .top, .top, .top, .top, .top, .top, .top, .top, .top, .top, .top, .top, .top, .top, .top, .top, .top, .top, .top, .top, .top, .top, .top, .top, .top, .top, .top, .top, .top, .top, .top, .top, .top, .top, .top, .top, .top, .top, .top, .top, .top, .top, .top, .top, .top, .top],
    [.row [.int .i64 (.var 0), .int .i64 (.var 1), .int .i64 (.var 2), .int .i64 (.var 3), .bool (.var 4), .int .i64 (.var 5)] 23, .row [.bool (.var 6), .int .i64 (.var 7), .int .i64 (.var 8), .int .i64 (.var 9), .int .i64 (.var 10)] 36]⟩,
    [.fixed, .fixed], [.i, .i, .i, .i, .b, .i, .b, .i, .i, .i, .i], [none, none, none, none, none, none, none, none, none, none, none]⟩)]⟩
/-- One round of L1018. -/
def stepL1018 (v0 : List D) (v1 : Int) (v2 : Int) (v3 : Int) (v4 : Int) (v5 : Int) (v6 : Int) (v7 : Bool) (v8 : Int) (v9 : Bool) (v10 : Int) (v11 : Int) (v12 : Int) (v13 : Int) : Option (Nat × List D) :=
  let x0 : Int := ((v0).length : Int)
  let x1 : Bool := decide ((v2 : Int) < x0)
  let x2 : Bool := decide ((v2 : Int) ≥ 0)
  let x3 : Bool := if x2 then x1 else false
  let x4 : D := (v0).getD (Int.toNat v2) (D.i 0)
  let x5 : D := ((D.toL x4)).getD 1 (D.i 0)
  let x6 : Int := (D.toI x5)
  let x7 : Int := Int.tmod x6 4
  let x8 : Bool := (x7 : Int) == 0
  let x9 : Int := zmax v3 1
  let x10 : Int := zmin x9 65535
  let x11 : Int := zmax v4 x10
  let x12 : Int := zmin x11 1073741823
  let x13 : Int := w64 (2 * x10)
  let x14 : Int := zmax v5 x13
  let x15 : Int := zmin x14 1073741823
  let x16 : Bool := decide ((x12 : Int) < x15)
  let x17 : Bool := (x12 : Int) != 0
  let x18 : Bool := if x16 then true else x17
  let x19 : Bool := if v7 then true else x18
  let x20 : Bool := if x8 then x19 else true
  let x21 : Bool := (x10 : Int) != v1
  let x22 : Bool := decide ((x6 : Int) ≥ v8)
  let x23 : D := ((D.toL x4)).getD 2 (D.i 0)
  let x24 : Int := (D.toI x23)
  let x25 : Int := zmax x24 0
  let x26 : Int := zmin x25 1073741823
  let x27 : Int := w64 (x26 + x10)
  let x28 : Int := zmin x15 x27
  let x29 : D := ((D.toL x4)).getD 0 (D.i 0)
  let x30 : Int := (D.toI x29)
  let x31 : Int := zmax x30 0
  let x32 : Int := zmin x31 1073741823
  let x33 : Bool := decide ((x32 : Int) ≥ x10)
  let x34 : Int := w64 (x12 - x32)
  let x35 : Int := zmax x34 x10
  let x36 : Int := w64 (x35 + x10)
  let x37 : Int := if x33 then x36 else x35
  let x38 : Int := zmin x37 1073741823
  let x39 : Int := if x22 then x28 else x38
  let x40 : Int := zmin x32 x10
  let x41 : Int := w64 (x12 + x40)
  let x42 : Int := w64 (x10 * x10)
  let x43 : Int := w64 (Int.tdiv x42 x12)
  let x44 : Int := zmax x43 1
  let x45 : Int := w64 (x12 + x44)
  let x46 : Int := if x16 then x41 else x45
  let x47 : Int := zmin x46 1073741823
  let x48 : Int := if v7 then x39 else x47
  let x49 : Bool := decide ((x48 : Int) < v1)
  let x50 : Bool := decide ((x48 : Int) > 1073741823)
  let x51 : Int := zmax v10 0
  let x52 : Int := zmin x51 4800000
  let x53 : Int := zmin x31 600000
  let x54 : Int := w64 (Int.tdiv x52 8)
  let x55 : Int := w64 (x53 - x54)
  let x56 : Int := w64 (x52 + x55)
  let x57 : Int := w64 (8 * x53)
  let x58 : Int := if v9 then x56 else x57
  let x59 : Int := w64 (Int.tdiv x58 8)
  let x60 : Int := zmax v11 0
  let x61 : Int := zmin x60 4800000
  let x62 : Int := w64 (0 - x55)
  let x63 : Int := zmax x55 x62
  let x64 : Int := w64 (Int.tdiv x61 4)
  let x65 : Int := w64 (x63 - x64)
  let x66 : Int := w64 (x61 + x65)
  let x67 : Int := w64 (2 * x53)
  let x68 : Int := if v9 then x66 else x67
  let x69 : Int := w64 (x59 + x68)
  let x70 : Int := zmax x69 1000
  let x71 : Int := zmin x70 60000
  let x72 : Bool := decide ((x71 : Int) < 1000)
  let x73 : Bool := decide ((x71 : Int) > 60000)
  let x74 : Bool := if x72 then true else x73
  let x75 : Bool := if x50 then true else x74
  let x76 : Bool := if x49 then true else x75
  let x77 : Bool := if x21 then true else x76
  let x78 : Bool := if x22 then false else v7
  let x79 : Bool := if v7 then x78 else v7
  let x80 : Bool := if v9 then v9 else true
  let x81 : Int := w64 (v2 + 1)
  let x82 : Bool := (x7 : Int) == 1
  let x83 : Bool := (x7 : Int) == (-1)
  let x84 : Bool := if x82 then x82 else x83
  let x85 : Int := zmax v6 0
  let x86 : Int := zmin x85 1000
  let x87 : Int := w64 (x86 + 1)
  let x88 : Bool := (x87 : Int) != 3
  let x89 : Bool := if x88 then false else true
  let x90 : Bool := if v7 then false else x89
  let x91 : Bool := if x90 then x88 else false
  let x92 : Int := w64 (x12 + x10)
  let x93 : Int := zmin x92 1073741823
  let x94 : Int := w64 (Int.tdiv x26 2)
  let x95 : Int := zmax x94 x13
  let x96 : Int := w64 (3 * x10)
  let x97 : Int := w64 (x95 + x96)
  let x98 : Int := if x88 then x12 else x97
  let x99 : Int := if v7 then x93 else x98
  let x100 : Int := if x88 then x15 else x95
  let x101 : Int := if v7 then x15 else x100
  let x102 : Bool := if x88 then v7 else true
  let x103 : Bool := if v7 then v7 else x102
  let x104 : D := ((D.toL x4)).getD 3 (D.i 0)
  let x105 : Int := (D.toI x104)
  let x106 : Int := if x88 then v8 else x105
  let x107 : Int := if v7 then v8 else x106
  let x108 : Bool := decide ((x99 : Int) < v1)
  let x109 : Bool := decide ((x99 : Int) > 1073741823)
  let x110 : Bool := decide ((v12 : Int) < 1000)
  let x111 : Bool := decide ((v12 : Int) > 60000)
  let x112 : Bool := if x110 then true else x111
  let x113 : Bool := if x109 then true else x112
  let x114 : Bool := if x108 then true else x113
  let x115 : Bool := if x21 then true else x114
  let x116 : Bool := (x7 : Int) == 2
  let x117 : Bool := (x7 : Int) == (-2)
  let x118 : Bool := if x116 then x116 else x117
  let x119 : Int := zmax v12 1000
  let x120 : Int := zmin x119 60000
  let x121 : Int := w64 (2 * x120)
  let x122 : Int := zmin x121 60000
  let x123 : Bool := decide ((x122 : Int) < v12)
  let x124 : Int := zmax v13 0
  let x125 : Int := zmin x124 1000
  let x126 : Int := w64 (x125 + 1)
  let x127 : Bool := decide ((x126 : Int) ≤ v13)
  let x128 : Bool := decide ((v13 : Int) < 1000)
  let x129 : Bool := if x127 then x128 else false
  let x130 : Bool := if x123 then true else x129
  let x131 : Bool := if x21 then true else x130
  let x132 : Bool := decide ((x10 : Int) < v1)
  let x133 : Bool := decide ((x10 : Int) > 1073741823)
  let x134 : Bool := decide ((x122 : Int) < 1000)
  let x135 : Bool := decide ((x122 : Int) > 60000)
  let x136 : Bool := if x134 then true else x135
  let x137 : Bool := if x133 then true else x136
  let x138 : Bool := if x132 then true else x137
  let x139 : Bool := if x21 then true else x138
  let x140 : Bool := (v3 : Int) != v1
  let x141 : Bool := decide ((v4 : Int) < v1)
  let x142 : Bool := decide ((v4 : Int) > 1073741823)
  let x143 : Int := w64 (x54 + x61)
  let x144 : Int := zmax x143 1000
  let x145 : Int := zmin x144 60000
  let x146 : Int := if v9 then x145 else 1000
  let x147 : Bool := decide ((x146 : Int) < 1000)
  let x148 : Bool := decide ((x146 : Int) > 60000)
  let x149 : Bool := if x147 then true else x148
  let x150 : Bool := if x142 then true else x149
  let x151 : Bool := if x141 then true else x150
  let x152 : Bool := if x140 then true else x151
  (if x1 then (if x3 then (if x20 then (if x8 then (if x77 then (some (1, [.i x10, .i x48, .i x15, .i 0, .b x79, .i v8, .b x80, .i x58, .i x68, .i x71, .i 0])) else (some (0, [.ls v0, .i v1, .i x81, .i x10, .i x48, .i x15, .i 0, .b x79, .i v8, .b x80, .i x58, .i x68, .i x71, .i 0]))) else (if x84 then (if x91 then (some (1, [.i x10, .i x99, .i x101, .i x87, .b x103, .i x107, .b v9, .i v10, .i v11, .i v12, .i v13])) else (if x115 then (some (1, [.i x10, .i x99, .i x101, .i x87, .b x103, .i x107, .b v9, .i v10, .i v11, .i v12, .i v13])) else (some (0, [.ls v0, .i v1, .i x81, .i x10, .i x99, .i x101, .i x87, .b x103, .i x107, .b v9, .i v10, .i v11, .i v12, .i v13])))) else (if x118 then (if x131 then (some (1, [.i x10, .i x10, .i x95, .i 0, .b false, .i v8, .b v9, .i v10, .i v11, .i v12, .i v13])) else (if x139 then (some (1, [.i x10, .i x10, .i x95, .i 0, .b false, .i v8, .b v9, .i x52, .i x61, .i x122, .i x126])) else (some (0, [.ls v0, .i v1, .i x81, .i x10, .i x10, .i x95, .i 0, .b false, .i v8, .b v9, .i x52, .i x61, .i x122, .i x126])))) else (if x152 then (some (1, [.i v3, .i v4, .i v5, .i v6, .b v7, .i v8, .b v9, .i x52, .i x61, .i x146, .i 0])) else (some (0, [.ls v0, .i v1, .i x81, .i v3, .i v4, .i v5, .i v6, .b v7, .i v8, .b v9, .i x52, .i x61, .i x146, .i 0])))))) else none) else none) else (some (2, [.i v3, .i v4, .i v5, .i v6, .b v7, .i v8, .b v9, .i v10, .i v11, .i v12, .i v13])))
set_option maxRecDepth 100000 in
theorem stepL1018_eq (F : Nat → D → D) (v0 : List D) (v1 : Int) (v2 : Int) (v3 : Int) (v4 : Int) (v5 : Int) (v6 : Int) (v7 : Bool) (v8 : Int) (v9 : Bool) (v10 : Int) (v11 : Int) (v12 : Int) (v13 : Int) : stepV F (stepL Try.prog z1 7 1000 1018 (loopAt Try.prog 7 1018) conL1018) [.ls v0, .i v1, .i v2, .i v3, .i v4, .i v5, .i v6, .b v7, .i v8, .b v9, .i v10, .i v11, .i v12, .i v13] = stepL1018 v0 v1 v2 v3 v4 v5 v6 v7 v8 v9 v10 v11 v12 v13 := by kernel_rfl
def spL1018 : List D → Option (Nat × List D)
  | [.ls v0, .i v1, .i v2, .i v3, .i v4, .i v5, .i v6, .b v7, .i v8, .b v9, .i v10, .i v11, .i v12, .i v13] => stepL1018 v0 v1 v2 v3 v4 v5 v6 v7 v8 v9 v10 v11 v12 v13
  | _ => none
noncomputable def F2 : Nat → D → D := updF F1 3 fun d => loopV spL1018 d.toL
theorem wfL1018 : conL1018.wf = true := by kernel_rfl
theorem loL1018 : loopOk Try.prog 7 1018 = true := by kernel_rfl
def z2 : Ext := z1.addLoop 7 1018 conL1018
theorem good0 : Go.Sy.Good Try.prog Om.none F2 z0 := Good.none
theorem hsAwake : ∀ l r, spAwake l = some r → stepV F2 (stepC Try.prog z0 8 1000 conAwake) l = some r := by
  intro l r h
  unfold spAwake at h
  split at h
  · rw [stepAwake_eq]; exact h
  · cases h
theorem good1 : Go.Sy.Good Try.prog Om.none F2 z1 :=
  Good.call (n := 1000) Try.checked.mixed good0 wfAwake (specC_of (sp := spAwake) (by kernel_rfl) (by kernel_rfl) (by kernel_rfl) hsAwake)
theorem hsL1018 : ∀ l r, spL1018 l = some r → stepV F2 (stepL Try.prog z1 7 1000 1018 (loopAt Try.prog 7 1018) conL1018) l = some r := by
  intro l r h
  unfold spL1018 at h
  split at h
  · rw [stepL1018_eq]; exact h
  · cases h
theorem good2 : Go.Sy.Good Try.prog Om.none F2 z2 :=
  Good.loop (n := 1000) Try.checked.mixed good1 loL1018 wfL1018 (specL_of (sp := spL1018) (by kernel_rfl) (by kernel_rfl) (by kernel_rfl) hsL1018)
theorem F_0 (d : D) : F2 0 d = .b (spAwake d.toL).isSome := by kernel_rfl
theorem F_1 (d : D) : F2 1 d = .i (match spAwake d.toL with | some (j, _) => (j : Int) - 1 | none => 0) := by kernel_rfl
theorem F_2 (d : D) : F2 2 d = .ls (match spAwake d.toL with | some (_, ys) => ys | none => []) := by kernel_rfl
theorem F_3 (d : D) : F2 3 d = .b (loopV spL1018 d.toL).isSome := by kernel_rfl
theorem F_4 (d : D) : F2 4 d = .i (match loopV spL1018 d.toL with | some (j, _) => (j : Int) - 1 | none => 0) := by kernel_rfl
theorem F_5 (d : D) : F2 5 d = .ls (match loopV spL1018 d.toL with | some (_, ys) => ys | none => []) := by kernel_rfl
end Go.Proofs.Ytgjdhokafmmhcaa.ctlBounds
