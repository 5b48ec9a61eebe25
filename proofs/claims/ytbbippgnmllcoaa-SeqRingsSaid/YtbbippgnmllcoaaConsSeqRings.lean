/- Contracts of functions that SeqRings reaches: templates, their steps, and that they are so. Written by a program of this work. -/
import Derived.Test.YtbbippgnmllcoaaSyU
import Derived.Test.YtbbippgnmllcoaaChecked
set_option linter.unusedVariables false
set_option linter.unusedSimpArgs false
namespace Go.Proofs.Ytbbippgnmllcoaa.seqRings
open Go.Sy
def z0 : Ext := Ext.none
def F0 : Nat → D → D := fun _ d => d
def conAwake : Con := ⟨0, ⟨⟨[],
    []⟩,
    [], [], []⟩,
  [],
  [(.ret, ⟨⟨[.bool (.lit (.b true))],
    []⟩,
    [], [], []⟩)]⟩
/-- One round of Awake. -/
def stepAwake  : Option (Nat × List D) :=
  (some (1, []))
set_option maxRecDepth 100000 in
theorem stepAwake_eq (F : Nat → D → D)  : stepV F (stepC Try.prog z0 10 1000 conAwake) [] = stepAwake  := by kernel_rfl
def spAwake : List D → Option (Nat × List D)
  | [] => stepAwake 
  | _ => none
def F1 : Nat → D → D := updF F0 0 fun d => spAwake d.toL
theorem wfAwake : conAwake.wf = true := by kernel_rfl
def z1 : Ext := z0.addCall 10 conAwake
def conPush : Con := ⟨3, ⟨⟨[.ptr 0 0, .top, .top, .top, .top, .int .i64 (.var 0), .top, .top, .top, .top, .top, .top, .top, .top, .top, .top, .top, .top, .top, .top, .top, .top, .top, .top, .top, .top, .top, .top, .top, .top, .rsl (.one (.int .i64)) (.var 1), .int .i64 (.var 2), .int .i64 (.var 3), .top, .top, .top, .top, .top, .top, .top, .top, .top, .top, .top, .top, .top, .top, .top, .top, .top, .top, .top, .top, .top, .top, .top, .top, .top, .top, .top, .top, .top, .top, .top, .top, .top, .top, .top, .top],
    [.row [.int .i64 (.var 4), .int .i64 (.var 5), .int .i64 (.var 6), .asl (.var 7) 1 1 (.var 8) (.var 9)] 64, .arr (.one (.int .i64)) (.var 10)]⟩,
    [.fixed, .fixed], [.i, .l, .i, .i, .i, .i, .i, .b, .i, .i, .l], []⟩,
  [0, 1, 2, 4, 5, 6, 7, 8, 9],
  [(.exit 0, ⟨⟨[.ptr 0 0, .top, .top, .top, .top, .int .i64 (.var 0), .top, .top, .top, .top, .top, .top, .top, .top, .top, .top, .top, .top, .top, .top, .top, .top, .top, .top, .top, .top, .top, .top, .top, .top, .top, .top, .top, .top, .top, .top, .top, .top, .top, .top, .top, .top, .top, .top, .top, .top, .top, .top, .top, .top, .top, .top, .top, .top, .top, .top, .top, .top, .top, .top, .top, .top, .top, .top, .top, .top, .top, .top, .top],
    [.row [.int .i64 (.var 1), .int .i64 (.var 2), .int .i64 (.var 3), .asl (.var 4) 1 1 (.var 5) (.var 6)] 64, .arr (.one (.int .i64)) (.var 7)]⟩,
    [.fixed, .fixed], [.i, .i, .i, .i, .b, .i, .i, .l], [some 0, some 4, some 5, some 6, some 7, some 8, some 9, none]⟩)]⟩
/-- One round of Push. -/
def stepPush (v0 : Int) (v1 : List D) (v2 : Int) (v3 : Int) (v4 : Int) (v5 : Int) (v6 : Int) (v7 : Bool) (v8 : Int) (v9 : Int) (v10 : List D) : Option (Nat × List D) :=
  let x0 : Bool := decide ((v3 : Int) < v2)
  let x1 : Bool := decide ((v3 : Int) ≥ 0)
  let x2 : Int := ((v1).length : Int)
  let x3 : Bool := decide ((v3 : Int) < x2)
  let x4 : Bool := if x1 then x3 else false
  let x5 : Bool := (v4 : Int) != 0
  let x6 : Int := w64 (v5 + v6)
  let x7 : Int := w64 (x6 + v3)
  let x8 : Int := Int.tmod x7 v4
  let x9 : Bool := decide ((x8 : Int) ≥ 0)
  let x10 : Bool := decide ((x8 : Int) < v9)
  let x11 : Bool := if x9 then x10 else false
  let x12 : Int := (v8 : Int) + x8
  let x13 : Int := ((v10).length : Int)
  let x14 : Bool := decide ((x12 : Int) < x13)
  let x15 : Int := w64 (v3 + 1)
  let x16 : D := (v1).getD (Int.toNat v3) (D.i 0)
  let x17 : Int := (D.toI x16)
  let x18 : List D := (v10).set (Int.toNat x12) (D.i x17)
  (if x0 then (if x4 then (if x5 then (if x11 then (if x14 then (some (0, [.i v0, .ls v1, .i v2, .i x15, .i v4, .i v5, .i v6, .b v7, .i v8, .i v9, .ls x18])) else none) else none) else none) else none) else (some (1, [.i v0, .i v4, .i v5, .i v6, .b v7, .i v8, .i v9, .ls v10])))
set_option maxRecDepth 100000 in
theorem stepPush_eq (F : Nat → D → D) (v0 : Int) (v1 : List D) (v2 : Int) (v3 : Int) (v4 : Int) (v5 : Int) (v6 : Int) (v7 : Bool) (v8 : Int) (v9 : Int) (v10 : List D) : stepV F (stepL Try.prog z1 19 1000 250 (loopAt Try.prog 19 250) conPush) [.i v0, .ls v1, .i v2, .i v3, .i v4, .i v5, .i v6, .b v7, .i v8, .i v9, .ls v10] = stepPush v0 v1 v2 v3 v4 v5 v6 v7 v8 v9 v10 := by kernel_rfl
def spPush : List D → Option (Nat × List D)
  | [.i v0, .ls v1, .i v2, .i v3, .i v4, .i v5, .i v6, .b v7, .i v8, .i v9, .ls v10] => stepPush v0 v1 v2 v3 v4 v5 v6 v7 v8 v9 v10
  | _ => none
noncomputable def F2 : Nat → D → D := updF F1 3 fun d => loopV spPush d.toL
theorem wfPush : conPush.wf = true := by kernel_rfl
theorem loPush : loopOk Try.prog 19 250 = true := by kernel_rfl
def z2 : Ext := z1.addLoop 19 250 conPush
def conRPeek : Con := ⟨6, ⟨⟨[.ptr 0 0, .top, .int .i64 (.var 0), .top, .top, .top, .top, .asl (.var 1) 1 1 (.lit (.i 0)) (.var 2), .int .i64 (.var 3), .top, .top, .top, .top, .top, .top, .top, .top, .top, .top, .top, .top, .top, .top, .top, .top, .top, .top, .top, .top, .top, .top, .top, .top, .top, .top, .top, .top, .top, .top, .top],
    [.row [.int .i64 (.var 4), .asl (.var 5) 2 1 (.var 6) (.var 7)] 36, .arr (.one (.int .i64)) (.var 8), .arr (.one (.int .i64)) (.var 9)]⟩,
    [.fixed, .mobile, .fixed], [.i, .b, .i, .i, .i, .b, .i, .i, .l, .l], []⟩,
  [0, 4, 5, 6, 7, 9],
  [(.exit 0, ⟨⟨[.top, .top, .top, .top, .top, .top, .top, .asl (.var 0) 1 1 (.lit (.i 0)) (.var 1), .top, .top, .top, .top, .top, .top, .top, .top, .top, .top, .top, .top, .top, .top, .top, .top, .top, .top, .top, .top, .top, .top, .top, .top, .top, .top, .top, .top, .top, .top, .top, .top],
    [.row [.int .i64 (.var 3), .asl (.var 4) 2 1 (.var 5) (.var 6)] 36, .arr (.one (.int .i64)) (.var 2), .arr (.one (.int .i64)) (.var 7)]⟩,
    [.fixed, .mobile, .fixed], [.b, .i, .l, .i, .b, .i, .i, .l], [none, none, none, some 4, some 5, some 6, some 7, some 9]⟩)]⟩
/-- One round of RPeek. -/
def stepRPeek (v0 : Int) (v1 : Bool) (v2 : Int) (v3 : Int) (v4 : Int) (v5 : Bool) (v6 : Int) (v7 : Int) (v8 : List D) (v9 : List D) : Option (Nat × List D) :=
  let x0 : Bool := decide ((v3 : Int) ≥ 0)
  let x1 : Bool := decide ((v3 : Int) < v7)
  let x2 : Bool := decide ((v2 : Int) < v0)
  let x3 : Bool := if x1 then x2 else false
  let x4 : Bool := if x0 then x3 else false
  let x5 : Bool := if x0 then x1 else false
  let x6 : Int := (v6 : Int) + v3
  let x7 : Int := ((v9).length : Int)
  let x8 : Bool := decide ((x6 : Int) < x7)
  let x9 : Int := ((v8).length : Int)
  let x10 : Bool := decide ((v2 : Int) ≤ x9)
  let x11 : List D := ((v8).drop (Int.toNat 0)).take (Int.toNat v2 - Int.toNat 0)
  let x12 : D := (v9).getD (Int.toNat x6) (D.i 0)
  let x13 : Int := (D.toI x12)
  let x14 : List D := (D.i x13) :: ([] : List D)
  let x15 : List D := x11 ++ x14
  let x16 : Int := ((x15).length : Int)
  let x17 : Bool := decide ((x16 : Int) ≤ 1099511627776)
  let x18 : Bool := if x10 then x17 else false
  let x19 : Int := w64 (v3 + 1)
  (if x4 then (if x5 then (if x8 then (if x18 then (some (0, [.i v0, .b true, .i x16, .i x19, .i v4, .b v5, .i v6, .i v7, .ls x15, .ls v9])) else none) else none) else none) else (some (1, [.b v1, .i v2, .ls v8, .i v4, .b v5, .i v6, .i v7, .ls v9])))
set_option maxRecDepth 100000 in
theorem stepRPeek_eq (F : Nat → D → D) (v0 : Int) (v1 : Bool) (v2 : Int) (v3 : Int) (v4 : Int) (v5 : Bool) (v6 : Int) (v7 : Int) (v8 : List D) (v9 : List D) : stepV F (stepL Try.prog z2 23 1000 58 (loopAt Try.prog 23 58) conRPeek) [.i v0, .b v1, .i v2, .i v3, .i v4, .b v5, .i v6, .i v7, .ls v8, .ls v9] = stepRPeek v0 v1 v2 v3 v4 v5 v6 v7 v8 v9 := by kernel_rfl
noncomputable def spRPeek : List D → Option (Nat × List D)
  | [.i v0, .b v1, .i v2, .i v3, .i v4, .b v5, .i v6, .i v7, .ls v8, .ls v9] => stepRPeek v0 v1 v2 v3 v4 v5 v6 v7 v8 v9
  | _ => none
noncomputable def F3 : Nat → D → D := updF F2 6 fun d => loopV spRPeek d.toL
theorem wfRPeek : conRPeek.wf = true := by kernel_rfl
theorem loRPeek : loopOk Try.prog 23 58 = true := by kernel_rfl
def z3 : Ext := z2.addLoop 23 58 conRPeek
def conPeek : Con := ⟨9, ⟨⟨[.ptr 0 0, .int .i64 (.var 0), .top, .top, .top, .top, .top, .asl (.var 1) 1 1 (.var 2) (.var 3), .top, .top, .top, .top, .top, .top, .top, .top, .top, .top, .top, .top, .top, .top, .top, .top, .top, .top, .top, .top, .top, .top, .top, .int .i64 (.var 4), .int .i64 (.var 5), .top, .top, .top, .top, .top, .top, .top, .top, .top, .top, .top, .top, .top, .top, .top, .top, .top, .top, .top, .top, .top, .top, .top, .top, .top, .top],
    [.row [.int .i64 (.var 6), .int .i64 (.var 7), .int .i64 (.var 8), .asl (.var 9) 2 1 (.var 10) (.var 11)] 64, .arr (.one (.int .i64)) (.var 12), .arr (.one (.int .i64)) (.var 13)]⟩,
    [.fixed, .fixed, .fixed], [.i, .b, .i, .i, .i, .i, .i, .i, .i, .b, .i, .i, .l, .l], []⟩,
  [0, 1, 2, 3, 4, 6, 7, 8, 9, 10, 11, 13],
  [(.exit 0, ⟨⟨[.top, .top, .top, .top, .top, .top, .top, .asl (.var 0) 1 1 (.var 1) (.var 2), .top, .top, .top, .top, .top, .top, .top, .top, .top, .top, .top, .top, .top, .top, .top, .top, .top, .top, .top, .top, .top, .top, .top, .top, .top, .top, .top, .top, .top, .top, .top, .top, .top, .top, .top, .top, .top, .top, .top, .top, .top, .top, .top, .top, .top, .top, .top, .top, .top, .top, .top],
    [.row [.int .i64 (.var 4), .int .i64 (.var 5), .int .i64 (.var 6), .asl (.var 7) 2 1 (.var 8) (.var 9)] 64, .arr (.one (.int .i64)) (.var 3), .arr (.one (.int .i64)) (.var 10)]⟩,
    [.fixed, .fixed, .fixed], [.b, .i, .i, .l, .i, .i, .i, .b, .i, .i, .l], [some 1, some 2, some 3, none, some 6, some 7, some 8, some 9, some 10, some 11, some 13]⟩)]⟩
/-- One round of Peek. -/
def stepPeek (v0 : Int) (v1 : Bool) (v2 : Int) (v3 : Int) (v4 : Int) (v5 : Int) (v6 : Int) (v7 : Int) (v8 : Int) (v9 : Bool) (v10 : Int) (v11 : Int) (v12 : List D) (v13 : List D) : Option (Nat × List D) :=
  let x0 : Bool := decide ((v5 : Int) < v4)
  let x1 : Bool := (v6 : Int) != 0
  let x2 : Int := w64 (v7 + v0)
  let x3 : Int := w64 (x2 + v5)
  let x4 : Int := Int.tmod x3 v6
  let x5 : Bool := decide ((x4 : Int) ≥ 0)
  let x6 : Bool := decide ((x4 : Int) < v11)
  let x7 : Bool := if x5 then x6 else false
  let x8 : Int := (v10 : Int) + x4
  let x9 : Int := ((v13).length : Int)
  let x10 : Bool := decide ((x8 : Int) < x9)
  let x11 : Bool := decide ((v5 : Int) ≥ 0)
  let x12 : Bool := decide ((v5 : Int) < v3)
  let x13 : Bool := if x11 then x12 else false
  let x14 : Int := (v2 : Int) + v5
  let x15 : Int := ((v12).length : Int)
  let x16 : Bool := decide ((x14 : Int) < x15)
  let x17 : Int := w64 (v5 + 1)
  let x18 : D := (v13).getD (Int.toNat x8) (D.i 0)
  let x19 : Int := (D.toI x18)
  let x20 : List D := (v12).set (Int.toNat x14) (D.i x19)
  (if x0 then (if x1 then (if x7 then (if x10 then (if x13 then (if x16 then (some (0, [.i v0, .b v1, .i v2, .i v3, .i v4, .i x17, .i v6, .i v7, .i v8, .b v9, .i v10, .i v11, .ls x20, .ls v13])) else none) else none) else none) else none) else none) else (some (1, [.b v1, .i v2, .i v3, .ls v12, .i v6, .i v7, .i v8, .b v9, .i v10, .i v11, .ls v13])))
set_option maxRecDepth 100000 in
theorem stepPeek_eq (F : Nat → D → D) (v0 : Int) (v1 : Bool) (v2 : Int) (v3 : Int) (v4 : Int) (v5 : Int) (v6 : Int) (v7 : Int) (v8 : Int) (v9 : Bool) (v10 : Int) (v11 : Int) (v12 : List D) (v13 : List D) : stepV F (stepL Try.prog z3 21 1000 122 (loopAt Try.prog 21 122) conPeek) [.i v0, .b v1, .i v2, .i v3, .i v4, .i v5, .i v6, .i v7, .i v8, .b v9, .i v10, .i v11, .ls v12, .ls v13] = stepPeek v0 v1 v2 v3 v4 v5 v6 v7 v8 v9 v10 v11 v12 v13 := by kernel_rfl
noncomputable def spPeek : List D → Option (Nat × List D)
  | [.i v0, .b v1, .i v2, .i v3, .i v4, .i v5, .i v6, .i v7, .i v8, .b v9, .i v10, .i v11, .ls v12, .ls v13] => stepPeek v0 v1 v2 v3 v4 v5 v6 v7 v8 v9 v10 v11 v12 v13
  | _ => none
noncomputable def F4 : Nat → D → D := updF F3 9 fun d => loopV spPeek d.toL
theorem wfPeek : conPeek.wf = true := by kernel_rfl
theorem loPeek : loopOk Try.prog 21 122 = true := by kernel_rfl
def z4 : Ext := z3.addLoop 21 122 conPeek
def conSame : Con := ⟨12, ⟨⟨[.asl (.var 0) 0 1 (.var 1) (.var 2), .asl (.var 3) 1 1 (.var 4) (.var 5), .top, .top, .top, .int .i64 (.var 6), .top, .top, .top, .top, .top, .top, .top, .top, .top, .top, .top, .top, .top, .top, .top, .top, .top, .top, .top, .top],
    [.arr (.one (.int .i64)) (.var 7), .arr (.one (.int .i64)) (.var 8)]⟩,
    [.fixed, .fixed], [.b, .i, .i, .b, .i, .i, .i, .l, .l], []⟩,
  [0, 1, 2, 3, 4, 5, 7, 8],
  [(.ret, ⟨⟨[.top, .top, .top, .top, .bool (.lit (.b false)), .top, .top, .top, .top, .top, .top, .top, .top, .top, .top, .top, .top, .top, .top, .top, .top, .top, .top, .top, .top, .top],
    [.arr (.one (.int .i64)) (.var 0), .arr (.one (.int .i64)) (.var 1)]⟩,
    [.fixed, .fixed], [.l, .l], [some 7, some 8]⟩),
  (.exit 0, ⟨⟨[.top, .top, .top, .top, .top, .top, .top, .top, .top, .top, .top, .top, .top, .top, .top, .top, .top, .top, .top, .top, .top, .top, .top, .top, .top, .top],
    [.arr (.one (.int .i64)) (.var 0), .arr (.one (.int .i64)) (.var 1)]⟩,
    [.fixed, .fixed], [.l, .l], [some 7, some 8]⟩)]⟩
/-- One round of Same. -/
def stepSame (v0 : Bool) (v1 : Int) (v2 : Int) (v3 : Bool) (v4 : Int) (v5 : Int) (v6 : Int) (v7 : List D) (v8 : List D) : Option (Nat × List D) :=
  let x0 : Bool := decide ((v6 : Int) < v2)
  let x1 : Bool := decide ((v6 : Int) ≥ 0)
  let x2 : Bool := if x1 then x0 else false
  let x3 : Bool := decide ((v6 : Int) < v5)
  let x4 : Bool := if x1 then x3 else false
  let x5 : Int := (v1 : Int) + v6
  let x6 : Int := ((v7).length : Int)
  let x7 : Bool := decide ((x5 : Int) < x6)
  let x8 : Int := (v4 : Int) + v6
  let x9 : Int := ((v8).length : Int)
  let x10 : Bool := decide ((x8 : Int) < x9)
  let x11 : D := (v7).getD (Int.toNat x5) (D.i 0)
  let x12 : Int := (D.toI x11)
  let x13 : D := (v8).getD (Int.toNat x8) (D.i 0)
  let x14 : Int := (D.toI x13)
  let x15 : Bool := (x12 : Int) != x14
  let x16 : Int := w64 (v6 + 1)
  (if x0 then (if x2 then (if x4 then (if x7 then (if x10 then (if x15 then (some (1, [.ls v7, .ls v8])) else (some (0, [.b v0, .i v1, .i v2, .b v3, .i v4, .i v5, .i x16, .ls v7, .ls v8]))) else none) else none) else none) else none) else (some (2, [.ls v7, .ls v8])))
set_option maxRecDepth 100000 in
theorem stepSame_eq (F : Nat → D → D) (v0 : Bool) (v1 : Int) (v2 : Int) (v3 : Bool) (v4 : Int) (v5 : Int) (v6 : Int) (v7 : List D) (v8 : List D) : stepV F (stepL Try.prog z4 22 1000 58 (loopAt Try.prog 22 58) conSame) [.b v0, .i v1, .i v2, .b v3, .i v4, .i v5, .i v6, .ls v7, .ls v8] = stepSame v0 v1 v2 v3 v4 v5 v6 v7 v8 := by kernel_rfl
noncomputable def spSame : List D → Option (Nat × List D)
  | [.b v0, .i v1, .i v2, .b v3, .i v4, .i v5, .i v6, .ls v7, .ls v8] => stepSame v0 v1 v2 v3 v4 v5 v6 v7 v8
  | _ => none
noncomputable def F5 : Nat → D → D := updF F4 12 fun d => loopV spSame d.toL
theorem wfSame : conSame.wf = true := by kernel_rfl
theorem loSame : loopOk Try.prog 22 58 = true := by kernel_rfl
def z5 : Ext := z4.addLoop 22 58 conSame
def conClr : Con := ⟨15, ⟨⟨[.top, .rsl (.row [(.int .i64), (.int .i64), (.int .i64), (.sl (.one (.int .i64)))]) (.var 0), .top, .top, .top, .bool (.var 1), .ptr 0 0, .ptr 1 0, .int .i64 (.var 2), .top, .asl (.var 3) 2 1 (.var 4) (.var 5), .top, .int .i64 (.var 6), .top, .top, .top, .top, .top, .top, .top, .top, .top, .top, .top, .top, .top, .top, .top, .top, .top, .top, .top, .top, .top, .top, .top, .top, .top, .top, .top, .top, .top, .top, .top, .top, .top, .top, .top, .top, .top, .top, .top, .top, .top, .top, .top, .top, .top, .top, .top, .top, .top, .top, .top, .top, .top, .top, .top, .top, .top, .top, .top, .top, .top, .top, .top, .top, .top, .top, .top, .top, .top, .top, .top, .top, .top, .top, .top, .top, .top, .top, .top, .top, .top, .top, .top, .top, .top, .top, .top, .top, .top, .top, .top, .top, .top, .top, .top, .top, .top, .top, .top, .top, .top, .top, .top, .tup [], .top],
    [.row [.int .i64 (.var 7), .int .i64 (.var 8), .int .i64 (.var 9), .asl (.var 10) 3 1 (.var 11) (.var 12)] 64, .row [.int .i64 (.var 13), .asl (.var 14) 4 1 (.var 15) (.var 16)] 36, .arr (.one (.int .i64)) (.var 17), .arr (.one (.int .i64)) (.var 18), .arr (.one (.int .i64)) (.var 19)]⟩,
    [.fixed, .fixed, .fixed, .fixed, .fixed], [.l, .b, .i, .b, .i, .i, .i, .i, .i, .i, .b, .i, .i, .i, .b, .i, .i, .l, .l, .l], []⟩,
  [0, 1, 2, 3, 4, 5, 7, 8, 9, 10, 11, 12, 13, 14, 15, 16, 18, 19],
  [(.exit 3, ⟨⟨[.top, .rsl (.row [(.int .i64), (.int .i64), (.int .i64), (.sl (.one (.int .i64)))]) (.var 0), .top, .top, .top, .bool (.var 1), .ptr 0 0, .ptr 1 0, .int .i64 (.var 2), .top, .top, .top, .top, .top, .top, .top, .top, .top, .top, .top, .top, .top, .top, .top, .top, .top, .top, .top, .top, .top, .top, .top, .top, .top, .top, .top, .top, .top, .top, .top, .top, .top, .top, .top, .top, .top, .top, .top, .top, .top, .top, .top, .top, .top, .top, .top, .top, .top, .top, .top, .top, .top, .top, .top, .top, .top, .top, .top, .top, .top, .top, .top, .top, .top, .top, .top, .top, .top, .top, .top, .top, .top, .top, .top, .top, .top, .top, .top, .top, .top, .top, .top, .top, .top, .top, .top, .top, .top, .top, .top, .top, .top, .top, .top, .top, .top, .top, .top, .top, .top, .top, .top, .top, .top, .top, .top, .tup [], .top],
    [.row [.int .i64 (.var 3), .int .i64 (.var 4), .int .i64 (.var 5), .asl (.var 6) 3 1 (.var 7) (.var 8)] 64, .row [.int .i64 (.var 9), .asl (.var 10) 4 1 (.var 11) (.var 12)] 36, .arr (.one (.int .i64)) (.var 13), .arr (.one (.int .i64)) (.var 14), .arr (.one (.int .i64)) (.var 15)]⟩,
    [.fixed, .fixed, .fixed, .fixed, .fixed], [.l, .b, .i, .i, .i, .i, .b, .i, .i, .i, .b, .i, .i, .l, .l, .l], [some 0, some 1, some 2, some 7, some 8, some 9, some 10, some 11, some 12, some 13, some 14, some 15, some 16, none, some 18, some 19]⟩)]⟩
/-- One round of Clr. -/
def stepClr (v0 : List D) (v1 : Bool) (v2 : Int) (v3 : Bool) (v4 : Int) (v5 : Int) (v6 : Int) (v7 : Int) (v8 : Int) (v9 : Int) (v10 : Bool) (v11 : Int) (v12 : Int) (v13 : Int) (v14 : Bool) (v15 : Int) (v16 : Int) (v17 : List D) (v18 : List D) (v19 : List D) : Option (Nat × List D) :=
  let x0 : Bool := decide ((v6 : Int) < v5)
  let x1 : Bool := decide ((v6 : Int) ≥ 0)
  let x2 : Bool := if x1 then x0 else false
  let x3 : Int := (v4 : Int) + v6
  let x4 : Int := ((v17).length : Int)
  let x5 : Bool := decide ((x3 : Int) < x4)
  let x6 : Int := w64 (v6 + 1)
  let x7 : List D := (v17).set (Int.toNat x3) (D.i (-99))
  (if x0 then (if x2 then (if x5 then (some (0, [.ls v0, .b v1, .i v2, .b v3, .i v4, .i v5, .i x6, .i v7, .i v8, .i v9, .b v10, .i v11, .i v12, .i v13, .b v14, .i v15, .i v16, .ls x7, .ls v18, .ls v19])) else none) else none) else (some (1, [.ls v0, .b v1, .i v2, .i v7, .i v8, .i v9, .b v10, .i v11, .i v12, .i v13, .b v14, .i v15, .i v16, .ls v17, .ls v18, .ls v19])))
set_option maxRecDepth 100000 in
theorem stepClr_eq (F : Nat → D → D) (v0 : List D) (v1 : Bool) (v2 : Int) (v3 : Bool) (v4 : Int) (v5 : Int) (v6 : Int) (v7 : Int) (v8 : Int) (v9 : Int) (v10 : Bool) (v11 : Int) (v12 : Int) (v13 : Int) (v14 : Bool) (v15 : Int) (v16 : Int) (v17 : List D) (v18 : List D) (v19 : List D) : stepV F (stepL Try.prog z5 5 1000 66360798 (loopAt Try.prog 5 66360798) conClr) [.ls v0, .b v1, .i v2, .b v3, .i v4, .i v5, .i v6, .i v7, .i v8, .i v9, .b v10, .i v11, .i v12, .i v13, .b v14, .i v15, .i v16, .ls v17, .ls v18, .ls v19] = stepClr v0 v1 v2 v3 v4 v5 v6 v7 v8 v9 v10 v11 v12 v13 v14 v15 v16 v17 v18 v19 := by kernel_rfl
noncomputable def spClr : List D → Option (Nat × List D)
  | [.ls v0, .b v1, .i v2, .b v3, .i v4, .i v5, .i v6, .i v7, .i v8, .i v9, .b v10, .i v11, .i v12, .i v13, .b v14, .i v15, .i v16, .ls v17, .ls v18, .ls v19] => stepClr v0 v1 v2 v3 v4 v5 v6 v7 v8 v9 v10 v11 v12 v13 v14 v15 v16 v17 v18 v19
  | _ => none
noncomputable def F6 : Nat → D → D := updF F5 15 fun d => loopV spClr d.toL
theorem wfClr : conClr.wf = true := by kernel_rfl
theorem loClr : loopOk Try.prog 5 66360798 = true := by kernel_rfl
def z6 : Ext := z5.addLoop 5 66360798 conClr
def conMain : Con := ⟨18, ⟨⟨[.top, .rsl (.row [(.int .i64), (.int .i64), (.int .i64), (.sl (.one (.int .i64)))]) (.var 0), .top, .top, .top, .bool (.lit (.b true)), .ptr 0 0, .ptr 1 0, .int .i64 (.var 1), .top, .top, .top, .top, .top, .top, .top, .top, .top, .top, .top, .top, .top, .top, .top, .top, .top, .top, .top, .top, .top, .top, .top, .top, .top, .top, .top, .top, .top, .top, .top, .top, .top, .top, .top, .top, .top, .top, .top, .top, .top, .top, .top, .top, .top, .top, .top, .top, .top, .top, .top, .top, .top, .top, .top, .top, .top, .top, .top, .top, .top, .top, .top, .top, .top, .top, .top, .top, .top, .top, .top, .top, .top, .top, .top, .top, .top, .top, .top, .top, .top, .top, .top, .top, .top, .top, .top, .top, .top, .top, .top, .top, .top, .top, .top, .top, .top, .top, .top, .top, .top, .top, .top, .top, .top, .top, .top, .tup [], .top],
    [.row [.int .i64 (.var 2), .int .i64 (.var 3), .int .i64 (.var 4), .asl (.var 5) 2 1 (.lit (.i 0)) (.var 6)] 64, .row [.int .i64 (.var 7), .asl (.var 8) 3 1 (.lit (.i 0)) (.var 9)] 36, .arr (.one (.int .i64)) (.var 10), .arr (.one (.int .i64)) (.var 11)]⟩,
    [.fixed, .fixed, .mobile, .mobile], [.l, .i, .i, .i, .i, .b, .i, .i, .b, .i, .l, .l], []⟩,
  [0, 2, 7],
  [(.ret, ⟨⟨[.top, .top, .top, .top, .bool (.lit (.b false)), .top, .top, .top, .top, .top, .top, .top, .top, .top, .top, .top, .top, .top, .top, .top, .top, .top, .top, .top, .top, .top, .top, .top, .top, .top, .top, .top, .top, .top, .top, .top, .top, .top, .top, .top, .top, .top, .top, .top, .top, .top, .top, .top, .top, .top, .top, .top, .top, .top, .top, .top, .top, .top, .top, .top, .top, .top, .top, .top, .top, .top, .top, .top, .top, .top, .top, .top, .top, .top, .top, .top, .top, .top, .top, .top, .top, .top, .top, .top, .top, .top, .top, .top, .top, .top, .top, .top, .top, .top, .top, .top, .top, .top, .top, .top, .top, .top, .top, .top, .top, .top, .top, .top, .top, .top, .top, .top, .top, .top, .top, .top, .top, .top],
    [.row [.int .i64 (.var 0), .int .i64 (.var 1), .int .i64 (.var 2), .asl (.var 3) 4 1 (.lit (.i 0)) (.var 4)] 64, .row [.int .i64 (.var 5), .asl (.var 6) 5 1 (.lit (.i 0)) (.var 7)] 36, .dead, .dead, .arr (.one (.int .i64)) (.var 8), .arr (.one (.int .i64)) (.var 9)]⟩,
    [.fixed, .fixed, .mobile, .mobile, .mobile, .mobile], [.i, .i, .i, .b, .i, .i, .b, .i, .l, .l], [some 2, none, none, none, none, some 7, none, none, none, none]⟩),
  (.exit 0, ⟨⟨[.top, .top, .top, .top, .top, .bool (.lit (.b true)), .ptr 0 0, .ptr 1 0, .top, .top, .top, .top, .top, .top, .top, .top, .top, .top, .top, .top, .top, .top, .top, .top, .top, .top, .top, .top, .top, .top, .top, .top, .top, .top, .top, .top, .top, .top, .top, .top, .top, .top, .top, .top, .top, .top, .top, .top, .top, .top, .top, .top, .top, .top, .top, .top, .top, .top, .top, .top, .top, .top, .top, .top, .top, .top, .top, .top, .top, .top, .top, .top, .top, .top, .top, .top, .top, .top, .top, .top, .top, .top, .top, .top, .top, .top, .top, .top, .top, .top, .top, .top, .top, .top, .top, .top, .top, .top, .top, .top, .top, .top, .top, .top, .top, .top, .top, .top, .top, .top, .top, .top, .top, .top, .top, .top, .tup [], .top],
    [.row [.int .i64 (.var 0), .int .i64 (.var 1), .int .i64 (.var 2), .asl (.var 3) 2 1 (.lit (.i 0)) (.var 4)] 64, .row [.int .i64 (.var 5), .asl (.var 6) 3 1 (.lit (.i 0)) (.var 7)] 36, .arr (.one (.int .i64)) (.var 8), .arr (.one (.int .i64)) (.var 9)]⟩,
    [.fixed, .fixed, .mobile, .mobile], [.i, .i, .i, .b, .i, .i, .b, .i, .l, .l], [some 2, none, none, none, none, some 7, none, none, none, none]⟩)]⟩
/-- One round of Main. -/
def stepMain (f3 f5 f9 f6 f8 f12 f11 f13 f15 : D → D) (v0 : List D) (v1 : Int) (v2 : Int) (v3 : Int) (v4 : Int) (v5 : Bool) (v6 : Int) (v7 : Int) (v8 : Bool) (v9 : Int) (v10 : List D) (v11 : List D) : Option (Nat × List D) :=
  let x0 : Int := ((v0).length : Int)
  let x1 : Bool := decide ((v1 : Int) < x0)
  let x2 : Bool := decide ((v1 : Int) ≥ 0)
  let x3 : Bool := if x2 then x1 else false
  let x4 : D := (v0).getD (Int.toNat v1) (D.i 0)
  let x5 : D := ((D.toL x4)).getD 0 (D.i 0)
  let x6 : Int := (D.toI x5)
  let x7 : Int := Int.tmod x6 3
  let x8 : Bool := (x7 : Int) == 0
  let x9 : D := ((D.toL x4)).getD 3 (D.i 0)
  let x10 : List D := (D.toL x9)
  let x11 : Int := ((x10).length : Int)
  let x12 : Int := w64 (v2 - v4)
  let x13 : Int := zmin x11 x12
  let x14 : Bool := decide ((x13 : Int) ≤ 0)
  let x15 : Bool := !v5
  let x16 : Bool := decide ((v2 : Int) ≥ 0)
  let x17 : Bool := decide ((v2 : Int) ≤ 1099511627776)
  let x18 : Bool := if x16 then x17 else false
  let x19 : Bool := if x15 then x18 else true
  let x20 : Bool := if x14 then true else x19
  let x21 : Bool := if x8 then x20 else true
  let x22 : Bool := decide ((x13 : Int) ≥ 0)
  let x23 : Bool := decide ((x13 : Int) ≤ x11)
  let x24 : Bool := if x22 then x23 else false
  let x25 : Bool := if x15 then x24 else true
  let x26 : Bool := if x14 then true else x25
  let x27 : Bool := if x8 then x26 else true
  let x28 : List D := ((x10).drop (Int.toNat 0)).take (Int.toNat x13 - Int.toNat 0)
  let x29 : Int := ((x28).length : Int)
  let x30 : List D := List.replicate (Int.toNat v2) (D.i 0)
  let x31 : List D := (D.ls x30) :: ([] : List D)
  let x32 : List D := (D.i v2) :: x31
  let x33 : List D := (D.i 0) :: x32
  let x34 : List D := (D.b true) :: x33
  let x35 : List D := (D.i v4) :: x34
  let x36 : List D := (D.i v3) :: x35
  let x37 : List D := (D.i v2) :: x36
  let x38 : List D := (D.i 0) :: x37
  let x39 : List D := (D.i x29) :: x38
  let x40 : List D := (D.ls x28) :: x39
  let x41 : List D := (D.i x13) :: x40
  let x42 : D := f3 (D.ls x41)
  let x43 : Bool := (D.toB x42)
  let x44 : Bool := if x15 then x43 else true
  let x45 : Bool := if x14 then true else x44
  let x46 : Bool := if x8 then x45 else true
  let x47 : Bool := if x15 then true else x24
  let x48 : Bool := if x14 then true else x47
  let x49 : Bool := if x8 then x48 else true
  let x50 : List D := (D.ls v10) :: ([] : List D)
  let x51 : List D := (D.i v6) :: x50
  let x52 : List D := (D.i 0) :: x51
  let x53 : List D := (D.b v5) :: x52
  let x54 : List D := (D.i v4) :: x53
  let x55 : List D := (D.i v3) :: x54
  let x56 : List D := (D.i v2) :: x55
  let x57 : List D := (D.i 0) :: x56
  let x58 : List D := (D.i x29) :: x57
  let x59 : List D := (D.ls x28) :: x58
  let x60 : List D := (D.i x13) :: x59
  let x61 : D := f3 (D.ls x60)
  let x62 : Bool := (D.toB x61)
  let x63 : Bool := if x15 then true else x62
  let x64 : Bool := if x14 then true else x63
  let x65 : Bool := if x8 then x64 else true
  let x66 : Int := w64 (v7 - v9)
  let x67 : Bool := decide ((x66 : Int) > x11)
  let x68 : Int := if x67 then x11 else x66
  let x69 : Bool := decide ((x68 : Int) ≥ 0)
  let x70 : Bool := decide ((x68 : Int) ≤ x11)
  let x71 : Bool := if x69 then x70 else false
  let x72 : Bool := if x14 then x71 else true
  let x73 : Bool := if x8 then x72 else true
  let x74 : Int := ((v11).length : Int)
  let x75 : Bool := decide ((v9 : Int) ≤ x74)
  let x76 : List D := ((v11).drop (Int.toNat 0)).take (Int.toNat v9 - Int.toNat 0)
  let x77 : List D := ((x10).drop (Int.toNat 0)).take (Int.toNat x68 - Int.toNat 0)
  let x78 : List D := x76 ++ x77
  let x79 : Int := ((x78).length : Int)
  let x80 : Bool := decide ((x79 : Int) ≤ 1099511627776)
  let x81 : Bool := if x75 then x80 else false
  let x82 : Bool := if x14 then x81 else true
  let x83 : Bool := if x8 then x82 else true
  let x84 : Bool := if x15 then x71 else true
  let x85 : Bool := if x14 then true else x84
  let x86 : Bool := if x8 then x85 else true
  let x87 : Bool := if x15 then x81 else true
  let x88 : Bool := if x14 then true else x87
  let x89 : Bool := if x8 then x88 else true
  let x90 : Bool := if x15 then true else x71
  let x91 : Bool := if x14 then true else x90
  let x92 : Bool := if x8 then x91 else true
  let x93 : Bool := if x15 then true else x81
  let x94 : Bool := if x14 then true else x93
  let x95 : Bool := if x8 then x94 else true
  let x96 : Bool := (0 : Int) != x68
  let x97 : Int := ((x77).length : Int)
  let x98 : Bool := decide ((x97 : Int) > 0)
  let x99 : Bool := if v8 then true else x98
  let x100 : Bool := (v4 : Int) != x79
  let x101 : Int := w64 (v7 - x79)
  let x102 : Bool := (x12 : Int) != x101
  let x103 : Bool := if x100 then true else x102
  let x104 : Int := w64 (v1 + 1)
  let x105 : Bool := (x13 : Int) != x68
  let x106 : Int := w64 (v4 + x13)
  let x107 : D := f5 (D.ls x41)
  let x108 : List D := (D.toL x107)
  let x109 : D := (x108).getD 7 (D.i 0)
  let x110 : List D := (D.toL x109)
  let x111 : Bool := (x106 : Int) != x79
  let x112 : Int := w64 (v2 - x106)
  let x113 : Bool := (x112 : Int) != x101
  let x114 : Bool := if x111 then true else x113
  let x115 : D := f5 (D.ls x60)
  let x116 : List D := (D.toL x115)
  let x117 : D := (x116).getD 7 (D.i 0)
  let x118 : List D := (D.toL x117)
  let x119 : Bool := (x7 : Int) == 1
  let x120 : Bool := (x7 : Int) == (-1)
  let x121 : Bool := if x119 then x119 else x120
  let x122 : D := ((D.toL x4)).getD 1 (D.i 0)
  let x123 : Int := (D.toI x122)
  let x124 : Bool := decide ((x123 : Int) < 0)
  let x125 : D := ((D.toL x4)).getD 2 (D.i 0)
  let x126 : Int := (D.toI x125)
  let x127 : Bool := decide ((x126 : Int) ≤ 0)
  let x128 : Bool := decide ((x123 : Int) ≥ v4)
  let x129 : Bool := if x127 then true else x128
  let x130 : Bool := if x124 then true else x129
  let x131 : Int := w64 (v4 - x123)
  let x132 : Int := zmin x126 x131
  let x133 : Bool := decide ((x132 : Int) ≥ 0)
  let x134 : Bool := decide ((x132 : Int) ≤ 1099511627776)
  let x135 : Bool := if x133 then x134 else false
  let x136 : Bool := if x130 then true else x135
  let x137 : Bool := if x121 then x136 else true
  let x138 : List D := List.replicate (Int.toNat x132) (D.i 0)
  let x139 : List D := (D.ls x138) :: x50
  let x140 : List D := (D.i v6) :: x139
  let x141 : List D := (D.i 0) :: x140
  let x142 : List D := (D.b v5) :: x141
  let x143 : List D := (D.i v4) :: x142
  let x144 : List D := (D.i v3) :: x143
  let x145 : List D := (D.i v2) :: x144
  let x146 : List D := (D.i 0) :: x145
  let x147 : List D := (D.i x132) :: x146
  let x148 : List D := (D.i x132) :: x147
  let x149 : List D := (D.i 0) :: x148
  let x150 : List D := (D.b true) :: x149
  let x151 : List D := (D.i x123) :: x150
  let x152 : D := f9 (D.ls x151)
  let x153 : Bool := (D.toB x152)
  let x154 : Bool := if x130 then true else x153
  let x155 : Bool := if x121 then x154 else true
  let x156 : List D := (D.ls v11) :: ([] : List D)
  let x157 : List D := (D.ls ([] : List D)) :: x156
  let x158 : List D := (D.i v9) :: x157
  let x159 : List D := (D.i 0) :: x158
  let x160 : List D := (D.b v8) :: x159
  let x161 : List D := (D.i v7) :: x160
  let x162 : List D := (D.i x123) :: x161
  let x163 : List D := (D.i 0) :: x162
  let x164 : List D := (D.b false) :: x163
  let x165 : List D := (D.i x126) :: x164
  let x166 : D := f6 (D.ls x165)
  let x167 : Bool := (D.toB x166)
  let x168 : Bool := if x130 then x167 else true
  let x169 : Bool := if x121 then x168 else true
  let x170 : D := f8 (D.ls x165)
  let x171 : List D := (D.toL x170)
  let x172 : D := (x171).getD 1 (D.i 0)
  let x173 : Int := (D.toI x172)
  let x174 : Bool := (0 : Int) != x173
  let x175 : Bool := if x174 then false else true
  let x176 : Bool := !x175
  let x177 : Bool := (v4 : Int) != v9
  let x178 : Bool := (x12 : Int) != x66
  let x179 : Bool := if x177 then true else x178
  let x180 : Bool := (x132 : Int) != x173
  let x181 : D := (x171).getD 0 (D.i 0)
  let x182 : Bool := (D.toB x181)
  let x183 : D := f11 (D.ls x151)
  let x184 : List D := (D.toL x183)
  let x185 : D := (x184).getD 3 (D.i 0)
  let x186 : List D := (D.toL x185)
  let x187 : D := (x171).getD 2 (D.i 0)
  let x188 : List D := (D.toL x187)
  let x189 : List D := (D.ls x188) :: ([] : List D)
  let x190 : List D := (D.ls x186) :: x189
  let x191 : List D := (D.i 0) :: x190
  let x192 : List D := (D.i x173) :: x191
  let x193 : List D := (D.i 0) :: x192
  let x194 : List D := (D.b x182) :: x193
  let x195 : List D := (D.i x132) :: x194
  let x196 : List D := (D.i 0) :: x195
  let x197 : List D := (D.b true) :: x196
  let x198 : D := f12 (D.ls x197)
  let x199 : Bool := (D.toB x198)
  let x200 : Bool := if x180 then true else x199
  let x201 : D := f13 (D.ls x197)
  let x202 : Int := (D.toI x201)
  let x203 : Bool := (x202 : Int) == 0
  let x204 : Bool := if x203 then false else true
  let x205 : Bool := if x180 then false else x204
  let x206 : Bool := !x205
  let x207 : List D := if x180 then (D.toL x185) else x186
  let x208 : List D := (D.ls v10) :: x156
  let x209 : List D := (D.ls x207) :: x208
  let x210 : List D := (D.i v9) :: x209
  let x211 : List D := (D.i 0) :: x210
  let x212 : List D := (D.b v8) :: x211
  let x213 : List D := (D.i v7) :: x212
  let x214 : List D := (D.i v6) :: x213
  let x215 : List D := (D.i 0) :: x214
  let x216 : List D := (D.b v5) :: x215
  let x217 : List D := (D.i v4) :: x216
  let x218 : List D := (D.i v3) :: x217
  let x219 : List D := (D.i v2) :: x218
  let x220 : List D := (D.i 0) :: x219
  let x221 : List D := (D.i x132) :: x220
  let x222 : List D := (D.i 0) :: x221
  let x223 : List D := (D.b true) :: x222
  let x224 : List D := (D.i v1) :: x223
  let x225 : List D := (D.b true) :: x224
  let x226 : List D := (D.ls v0) :: x225
  let x227 : D := f15 (D.ls x226)
  let x228 : Bool := (D.toB x227)
  let x229 : Bool := if x206 then true else x228
  let x230 : Int := zmax x123 0
  let x231 : Int := zmin x230 v4
  let x232 : Bool := (x231 : Int) == 0
  let x233 : Bool := (v2 : Int) != 0
  let x234 : Bool := if x232 then true else x233
  let x235 : Int := if x124 then 0 else x123
  let x236 : Bool := decide ((x235 : Int) > v9)
  let x237 : Int := if x236 then v9 else x235
  let x238 : Bool := decide ((x237 : Int) ≥ 0)
  let x239 : Bool := decide ((x237 : Int) ≤ v9)
  let x240 : Bool := if x238 then x239 else false
  let x241 : Int := (v9 : Int) - x237
  let x242 : Int := (x237 : Int) + x241
  let x243 : Bool := decide ((x242 : Int) ≤ x74)
  let x244 : List D := ((v11).drop (Int.toNat x237)).take (Int.toNat x242 - Int.toNat x237)
  let x245 : List D := ([] : List D) ++ x244
  let x246 : Int := ((x245).length : Int)
  let x247 : Bool := decide ((x246 : Int) ≤ 1099511627776)
  let x248 : Bool := if x243 then x247 else false
  let x249 : Int := if x232 then 0 else x231
  let x250 : Bool := (x249 : Int) != x237
  let x251 : Int := w64 (v3 + x231)
  let x252 : Int := Int.tmod x251 v2
  let x253 : Int := if x232 then v3 else x252
  let x254 : Int := w64 (v4 - x231)
  let x255 : Int := if x232 then v4 else x254
  let x256 : Int := ((x244).length : Int)
  let x257 : Bool := decide ((x256 : Int) > 0)
  let x258 : Bool := (x255 : Int) != x246
  let x259 : Int := w64 (v2 - x255)
  let x260 : Int := w64 (v7 - x246)
  let x261 : Bool := (x259 : Int) != x260
  let x262 : Bool := if x258 then true else x261
  (if x1 then (if x3 then (if x21 then (if x27 then (if x46 then (if x49 then (if x65 then (if x73 then (if x83 then (if x86 then (if x89 then (if x92 then (if x95 then (if x8 then (if x14 then (if x96 then (some (1, [.i v2, .i v3, .i v4, .b v5, .i v6, .i v7, .b x99, .i x79, .ls v10, .ls x78])) else (if x103 then (some (1, [.i v2, .i v3, .i v4, .b v5, .i v6, .i v7, .b x99, .i x79, .ls v10, .ls x78])) else (some (0, [.ls v0, .i x104, .i v2, .i v3, .i v4, .b v5, .i v6, .i v7, .b x99, .i x79, .ls v10, .ls x78])))) else (if x15 then (if x105 then (some (1, [.i v2, .i v3, .i x106, .b true, .i v2, .i v7, .b x99, .i x79, .ls x110, .ls x78])) else (if x114 then (some (1, [.i v2, .i v3, .i x106, .b true, .i v2, .i v7, .b x99, .i x79, .ls x110, .ls x78])) else (some (0, [.ls v0, .i x104, .i v2, .i v3, .i x106, .b true, .i v2, .i v7, .b x99, .i x79, .ls x110, .ls x78])))) else (if x105 then (some (1, [.i v2, .i v3, .i x106, .b v5, .i v6, .i v7, .b x99, .i x79, .ls x118, .ls x78])) else (if x114 then (some (1, [.i v2, .i v3, .i x106, .b v5, .i v6, .i v7, .b x99, .i x79, .ls x118, .ls x78])) else (some (0, [.ls v0, .i x104, .i v2, .i v3, .i x106, .b v5, .i v6, .i v7, .b x99, .i x79, .ls x118, .ls x78])))))) else (if x137 then (if x155 then (if x169 then (if x121 then (if x130 then (if x176 then (some (1, [.i v2, .i v3, .i v4, .b v5, .i v6, .i v7, .b v8, .i v9, .ls v10, .ls v11])) else (if x179 then (some (1, [.i v2, .i v3, .i v4, .b v5, .i v6, .i v7, .b v8, .i v9, .ls v10, .ls v11])) else (some (0, [.ls v0, .i x104, .i v2, .i v3, .i v4, .b v5, .i v6, .i v7, .b v8, .i v9, .ls v10, .ls v11])))) else (if x167 then (if x200 then (if x229 then (if x206 then (some (1, [.i v2, .i v3, .i v4, .b v5, .i v6, .i v7, .b v8, .i v9, .ls v10, .ls v11])) else (if x179 then (some (1, [.i v2, .i v3, .i v4, .b v5, .i v6, .i v7, .b v8, .i v9, .ls v10, .ls v11])) else (some (0, [.ls v0, .i x104, .i v2, .i v3, .i v4, .b v5, .i v6, .i v7, .b v8, .i v9, .ls v10, .ls v11])))) else none) else none) else none)) else (if x234 then (if x240 then (if x248 then (if x250 then (some (1, [.i v2, .i x253, .i x255, .b v5, .i v6, .i v7, .b x257, .i x246, .ls v10, .ls x245])) else (if x262 then (some (1, [.i v2, .i x253, .i x255, .b v5, .i v6, .i v7, .b x257, .i x246, .ls v10, .ls x245])) else (some (0, [.ls v0, .i x104, .i v2, .i x253, .i x255, .b v5, .i v6, .i v7, .b x257, .i x246, .ls v10, .ls x245])))) else none) else none) else none)) else none) else none) else none)) else none) else none) else none) else none) else none) else none) else none) else none) else none) else none) else none) else none) else (some (2, [.i v2, .i v3, .i v4, .b v5, .i v6, .i v7, .b v8, .i v9, .ls v10, .ls v11])))
set_option maxRecDepth 100000 in
theorem stepMain_eq (F : Nat → D → D) (v0 : List D) (v1 : Int) (v2 : Int) (v3 : Int) (v4 : Int) (v5 : Bool) (v6 : Int) (v7 : Int) (v8 : Bool) (v9 : Int) (v10 : List D) (v11 : List D) : stepV F (stepL Try.prog z6 5 1000 506 (loopAt Try.prog 5 506) conMain) [.ls v0, .i v1, .i v2, .i v3, .i v4, .b v5, .i v6, .i v7, .b v8, .i v9, .ls v10, .ls v11] = stepMain (F 3) (F 5) (F 9) (F 6) (F 8) (F 12) (F 11) (F 13) (F 15) v0 v1 v2 v3 v4 v5 v6 v7 v8 v9 v10 v11 := by kernel_rfl
noncomputable def spMain : List D → Option (Nat × List D)
  | [.ls v0, .i v1, .i v2, .i v3, .i v4, .b v5, .i v6, .i v7, .b v8, .i v9, .ls v10, .ls v11] => stepMain (F6 3) (F6 5) (F6 9) (F6 6) (F6 8) (F6 12) (F6 11) (F6 13) (F6 15) v0 v1 v2 v3 v4 v5 v6 v7 v8 v9 v10 v11
  | _ => none
noncomputable def F7 : Nat → D → D := updF F6 18 fun d => loopV spMain d.toL
theorem wfMain : conMain.wf = true := by kernel_rfl
theorem loMain : loopOk Try.prog 5 506 = true := by kernel_rfl
def z7 : Ext := z6.addLoop 5 506 conMain
theorem good0 : Go.Sy.Good Try.prog Om.none F7 z0 := Good.none
theorem hsAwake : ∀ l r, spAwake l = some r → stepV F7 (stepC Try.prog z0 10 1000 conAwake) l = some r := by
  intro l r h
  unfold spAwake at h
  split at h
  · rw [stepAwake_eq]; exact h
  · cases h
theorem good1 : Go.Sy.Good Try.prog Om.none F7 z1 :=
  Good.call (n := 1000) Try.checked.mixed good0 wfAwake (specC_of (sp := spAwake) (by kernel_rfl) (by kernel_rfl) (by kernel_rfl) hsAwake)
theorem hsPush : ∀ l r, spPush l = some r → stepV F7 (stepL Try.prog z1 19 1000 250 (loopAt Try.prog 19 250) conPush) l = some r := by
  intro l r h
  unfold spPush at h
  split at h
  · rw [stepPush_eq]; exact h
  · cases h
theorem good2 : Go.Sy.Good Try.prog Om.none F7 z2 :=
  Good.loop (n := 1000) Try.checked.mixed good1 loPush wfPush (specL_of (sp := spPush) (by kernel_rfl) (by kernel_rfl) (by kernel_rfl) hsPush)
theorem hsRPeek : ∀ l r, spRPeek l = some r → stepV F7 (stepL Try.prog z2 23 1000 58 (loopAt Try.prog 23 58) conRPeek) l = some r := by
  intro l r h
  unfold spRPeek at h
  split at h
  · rw [stepRPeek_eq]; exact h
  · cases h
theorem good3 : Go.Sy.Good Try.prog Om.none F7 z3 :=
  Good.loop (n := 1000) Try.checked.mixed good2 loRPeek wfRPeek (specL_of (sp := spRPeek) (by kernel_rfl) (by kernel_rfl) (by kernel_rfl) hsRPeek)
theorem hsPeek : ∀ l r, spPeek l = some r → stepV F7 (stepL Try.prog z3 21 1000 122 (loopAt Try.prog 21 122) conPeek) l = some r := by
  intro l r h
  unfold spPeek at h
  split at h
  · rw [stepPeek_eq]; exact h
  · cases h
theorem good4 : Go.Sy.Good Try.prog Om.none F7 z4 :=
  Good.loop (n := 1000) Try.checked.mixed good3 loPeek wfPeek (specL_of (sp := spPeek) (by kernel_rfl) (by kernel_rfl) (by kernel_rfl) hsPeek)
theorem hsSame : ∀ l r, spSame l = some r → stepV F7 (stepL Try.prog z4 22 1000 58 (loopAt Try.prog 22 58) conSame) l = some r := by
  intro l r h
  unfold spSame at h
  split at h
  · rw [stepSame_eq]; exact h
  · cases h
theorem good5 : Go.Sy.Good Try.prog Om.none F7 z5 :=
  Good.loop (n := 1000) Try.checked.mixed good4 loSame wfSame (specL_of (sp := spSame) (by kernel_rfl) (by kernel_rfl) (by kernel_rfl) hsSame)
theorem hsClr : ∀ l r, spClr l = some r → stepV F7 (stepL Try.prog z5 5 1000 66360798 (loopAt Try.prog 5 66360798) conClr) l = some r := by
  intro l r h
  unfold spClr at h
  split at h
  · rw [stepClr_eq]; exact h
  · cases h
theorem good6 : Go.Sy.Good Try.prog Om.none F7 z6 :=
  Good.loop (n := 1000) Try.checked.mixed good5 loClr wfClr (specL_of (sp := spClr) (by kernel_rfl) (by kernel_rfl) (by kernel_rfl) hsClr)
theorem hsMain : ∀ l r, spMain l = some r → stepV F7 (stepL Try.prog z6 5 1000 506 (loopAt Try.prog 5 506) conMain) l = some r := by
  intro l r h
  unfold spMain at h
  split at h
  · rw [stepMain_eq, show F7 3 = F6 3 by kernel_rfl, show F7 5 = F6 5 by kernel_rfl, show F7 9 = F6 9 by kernel_rfl, show F7 6 = F6 6 by kernel_rfl, show F7 8 = F6 8 by kernel_rfl, show F7 12 = F6 12 by kernel_rfl, show F7 11 = F6 11 by kernel_rfl, show F7 13 = F6 13 by kernel_rfl, show F7 15 = F6 15 by kernel_rfl]; exact h
  · cases h
theorem good7 : Go.Sy.Good Try.prog Om.none F7 z7 :=
  Good.loop (n := 1000) Try.checked.mixed good6 loMain wfMain (specL_of (sp := spMain) (by kernel_rfl) (by kernel_rfl) (by kernel_rfl) hsMain)
theorem F_0 (d : D) : F7 0 d = .b (spAwake d.toL).isSome := by kernel_rfl
theorem F_1 (d : D) : F7 1 d = .i (match spAwake d.toL with | some (j, _) => (j : Int) - 1 | none => 0) := by kernel_rfl
theorem F_2 (d : D) : F7 2 d = .ls (match spAwake d.toL with | some (_, ys) => ys | none => []) := by kernel_rfl
theorem F_3 (d : D) : F7 3 d = .b (loopV spPush d.toL).isSome := by kernel_rfl
theorem F_4 (d : D) : F7 4 d = .i (match loopV spPush d.toL with | some (j, _) => (j : Int) - 1 | none => 0) := by kernel_rfl
theorem F_5 (d : D) : F7 5 d = .ls (match loopV spPush d.toL with | some (_, ys) => ys | none => []) := by kernel_rfl
theorem F_6 (d : D) : F7 6 d = .b (loopV spRPeek d.toL).isSome := by kernel_rfl
theorem F_7 (d : D) : F7 7 d = .i (match loopV spRPeek d.toL with | some (j, _) => (j : Int) - 1 | none => 0) := by kernel_rfl
theorem F_8 (d : D) : F7 8 d = .ls (match loopV spRPeek d.toL with | some (_, ys) => ys | none => []) := by kernel_rfl
theorem F_9 (d : D) : F7 9 d = .b (loopV spPeek d.toL).isSome := by kernel_rfl
theorem F_10 (d : D) : F7 10 d = .i (match loopV spPeek d.toL with | some (j, _) => (j : Int) - 1 | none => 0) := by kernel_rfl
theorem F_11 (d : D) : F7 11 d = .ls (match loopV spPeek d.toL with | some (_, ys) => ys | none => []) := by kernel_rfl
theorem F_12 (d : D) : F7 12 d = .b (loopV spSame d.toL).isSome := by kernel_rfl
theorem F_13 (d : D) : F7 13 d = .i (match loopV spSame d.toL with | some (j, _) => (j : Int) - 1 | none => 0) := by kernel_rfl
theorem F_14 (d : D) : F7 14 d = .ls (match loopV spSame d.toL with | some (_, ys) => ys | none => []) := by kernel_rfl
theorem F_15 (d : D) : F7 15 d = .b (loopV spClr d.toL).isSome := by kernel_rfl
theorem F_16 (d : D) : F7 16 d = .i (match loopV spClr d.toL with | some (j, _) => (j : Int) - 1 | none => 0) := by kernel_rfl
theorem F_17 (d : D) : F7 17 d = .ls (match loopV spClr d.toL with | some (_, ys) => ys | none => []) := by kernel_rfl
theorem F_18 (d : D) : F7 18 d = .b (loopV spMain d.toL).isSome := by kernel_rfl
theorem F_19 (d : D) : F7 19 d = .i (match loopV spMain d.toL with | some (j, _) => (j : Int) - 1 | none => 0) := by kernel_rfl
theorem F_20 (d : D) : F7 20 d = .ls (match loopV spMain d.toL with | some (_, ys) => ys | none => []) := by kernel_rfl
end Go.Proofs.Ytbbippgnmllcoaa.seqRings
