/- Contracts of functions that SeqStreams reaches: templates, their steps, and that they are so. Written by a program of this work. -/
import Derived.Test.YtbbippgnmllcoaaSyU
import Derived.Test.YtbbippgnmllcoaaChecked
set_option linter.unusedVariables false
set_option linter.unusedSimpArgs false
namespace Go.Proofs.Ytbbippgnmllcoaa.seqStreams
open Go.Sy
def z0 : Ext := Ext.none
def F0 : Nat → D → D := fun _ d => d
def conAwake : Con := ⟨0, ⟨⟨[],
    []⟩,
    [], [], []⟩,
  [],
  [(.ret, ⟨⟨[.bool (.lit (.b true))],
    []⟩,
    [], [], []⟩)]⟩
/-- One round of Awake. -/
def stepAwake  : Option (Nat × List D) :=
  (some (1, []))
set_option maxRecDepth 100000 in
theorem stepAwake_eq (F : Nat → D → D)  : stepV F (stepC Try.prog z0 10 1000 conAwake) [] = stepAwake  := by kernel_rfl
def spAwake : List D → Option (Nat × List D)
  | [] => stepAwake 
  | _ => none
def F1 : Nat → D → D := updF F0 0 fun d => spAwake d.toL
theorem wfAwake : conAwake.wf = true := by kernel_rfl
def z1 : Ext := z0.addCall 10 conAwake
def conTakeA : Con := ⟨3, ⟨⟨[.ptr 0 0, .int .i64 (.var 0), .str (.var 1), .top, .top, .top, .top, .int .i64 (.var 2), .int .i64 (.var 3), .top, .top, .top, .top, .top, .top, .top, .top, .top, .top, .top, .top, .top, .top, .top, .top, .top, .top, .top, .top, .top, .top, .top, .top, .top, .top, .top, .top, .top, .top, .top, .top, .top, .top, .top, .top, .top, .top, .top, .top, .top, .top, .top, .top, .top, .top, .top, .top, .top, .top, .top, .top, .top, .top, .top, .top, .top, .top, .top, .top, .top, .top, .top, .top, .top, .top, .top, .top, .top, .top, .top, .top, .top, .top, .top, .top, .top, .top, .top, .top, .top, .top, .top, .top, .top, .top, .top, .top, .top, .top, .top, .top, .top, .top, .top, .top, .top, .top, .top, .top, .top, .top, .top, .top, .top, .top, .top, .top, .top, .top, .top],
    [.row [.ptr 1 0, .hnd 2, .int .i64 (.var 4)] 69, .row [.int .i64 (.var 5), .int .i64 (.var 6), .int .i64 (.var 7), .asl (.var 8) 3 1 (.lit (.i 0)) (.var 9)] 74, .map (.var 10), .arr (.one (.int .u8)) (.var 11)]⟩,
    [.fixed, .fixed, .fixed, .fixed], [.i, .s, .i, .i, .i, .i, .i, .i, .b, .i, .l, .l], []⟩,
  [0, 1, 2, 4, 5, 6, 7, 8, 9, 11],
  [(.exit 0, ⟨⟨[.ptr 0 0, .top, .top, .top, .top, .top, .top, .int .i64 (.var 0), .top, .top, .top, .top, .top, .top, .top, .top, .top, .top, .top, .top, .top, .top, .top, .top, .top, .top, .top, .top, .top, .top, .top, .top, .top, .top, .top, .top, .top, .top, .top, .top, .top, .top, .top, .top, .top, .top, .top, .top, .top, .top, .top, .top, .top, .top, .top, .top, .top, .top, .top, .top, .top, .top, .top, .top, .top, .top, .top, .top, .top, .top, .top, .top, .top, .top, .top, .top, .top, .top, .top, .top, .top, .top, .top, .top, .top, .top, .top, .top, .top, .top, .top, .top, .top, .top, .top, .top, .top, .top, .top, .top, .top, .top, .top, .top, .top, .top, .top, .top, .top, .top, .top, .top, .top, .top, .top, .top, .top, .top, .top, .top],
    [.row [.ptr 1 0, .hnd 2, .int .i64 (.var 1)] 69, .row [.int .i64 (.var 2), .int .i64 (.var 3), .int .i64 (.var 4), .asl (.var 5) 3 1 (.lit (.i 0)) (.var 6)] 74, .map (.var 7), .arr (.one (.int .u8)) (.var 8)]⟩,
    [.fixed, .fixed, .fixed, .fixed], [.i, .i, .i, .i, .i, .b, .i, .l, .l], [some 2, some 4, some 5, some 6, some 7, some 8, some 9, none, some 11]⟩)]⟩
/-- One round of TakeA. -/
def stepTakeA (v0 : Int) (v1 : List UInt8) (v2 : Int) (v3 : Int) (v4 : Int) (v5 : Int) (v6 : Int) (v7 : Int) (v8 : Bool) (v9 : Int) (v10 : List D) (v11 : List D) : Option (Nat × List D) :=
  let x0 : Int := ((v1).length : Int)
  let x1 : Int := w64 (v0 + x0)
  let x2 : Int := zmin x1 v2
  let x3 : Bool := decide ((v3 : Int) < x2)
  let x4 : Bool := (mfind v3 v10).isSome
  let x5 : Bool := !x4
  let x6 : Int := w64 (v3 - v0)
  let x7 : Bool := decide ((x6 : Int) ≥ 0)
  let x8 : Bool := decide ((x6 : Int) < x0)
  let x9 : Bool := if x7 then x8 else false
  let x10 : Bool := if x5 then x9 else true
  let x11 : Int := w64 (v3 + 1)
  let x12 : Int := (((v1).getD (Int.toNat x6) 0).toNat : Int)
  let x13 : List D := mput v3 x12 v10
  let x14 : List D := if x5 then x13 else v10
  (if x3 then (if x10 then (some (0, [.i v0, .s v1, .i v2, .i x11, .i v4, .i v5, .i v6, .i v7, .b v8, .i v9, .ls x14, .ls v11])) else none) else (some (1, [.i v2, .i v4, .i v5, .i v6, .i v7, .b v8, .i v9, .ls v10, .ls v11])))
set_option maxRecDepth 100000 in
theorem stepTakeA_eq (F : Nat → D → D) (v0 : Int) (v1 : List UInt8) (v2 : Int) (v3 : Int) (v4 : Int) (v5 : Int) (v6 : Int) (v7 : Int) (v8 : Bool) (v9 : Int) (v10 : List D) (v11 : List D) : stepV F (stepL Try.prog z1 32 1000 122 (loopAt Try.prog 32 122) conTakeA) [.i v0, .s v1, .i v2, .i v3, .i v4, .i v5, .i v6, .i v7, .b v8, .i v9, .ls v10, .ls v11] = stepTakeA v0 v1 v2 v3 v4 v5 v6 v7 v8 v9 v10 v11 := by kernel_rfl
def spTakeA : List D → Option (Nat × List D)
  | [.i v0, .s v1, .i v2, .i v3, .i v4, .i v5, .i v6, .i v7, .b v8, .i v9, .ls v10, .ls v11] => stepTakeA v0 v1 v2 v3 v4 v5 v6 v7 v8 v9 v10 v11
  | _ => none
noncomputable def F2 : Nat → D → D := updF F1 3 fun d => loopV spTakeA d.toL
theorem wfTakeA : conTakeA.wf = true := by kernel_rfl
theorem loTakeA : loopOk Try.prog 32 122 = true := by kernel_rfl
def z2 : Ext := z1.addLoop 32 122 conTakeA
def conPush : Con := ⟨6, ⟨⟨[.ptr 0 0, .top, .top, .top, .top, .int .i64 (.var 0), .top, .top, .top, .top, .top, .top, .top, .top, .top, .top, .top, .top, .top, .top, .top, .top, .top, .top, .top, .top, .top, .top, .top, .top, .asl (.var 1) 1 1 (.lit (.i 0)) (.var 2), .int .i64 (.var 3), .int .i64 (.var 4), .top, .top, .top, .top, .top, .top, .top, .top, .top, .top, .top, .top, .top, .top, .top, .top, .top, .top, .top, .top, .top, .top, .top, .top, .top, .top, .top, .top, .top, .top, .top, .top, .top, .top, .top, .top],
    [.row [.int .i64 (.var 5), .int .i64 (.var 6), .int .i64 (.var 7), .asl (.var 8) 2 1 (.lit (.i 0)) (.var 9)] 74, .arr (.one (.int .u8)) (.var 10), .arr (.one (.int .u8)) (.var 11)]⟩,
    [.fixed, .fixed, .fixed], [.i, .b, .i, .i, .i, .i, .i, .i, .b, .i, .l, .l], []⟩,
  [0, 1, 2, 3, 5, 6, 7, 8, 9, 10],
  [(.exit 0, ⟨⟨[.ptr 0 0, .top, .top, .top, .top, .int .i64 (.var 0), .top, .top, .top, .top, .top, .top, .top, .top, .top, .top, .top, .top, .top, .top, .top, .top, .top, .top, .top, .top, .top, .top, .top, .top, .top, .top, .top, .top, .top, .top, .top, .top, .top, .top, .top, .top, .top, .top, .top, .top, .top, .top, .top, .top, .top, .top, .top, .top, .top, .top, .top, .top, .top, .top, .top, .top, .top, .top, .top, .top, .top, .top, .top],
    [.row [.int .i64 (.var 1), .int .i64 (.var 2), .int .i64 (.var 3), .asl (.var 4) 2 1 (.lit (.i 0)) (.var 5)] 74, .arr (.one (.int .u8)) (.var 6), .arr (.one (.int .u8)) (.var 7)]⟩,
    [.fixed, .fixed, .fixed], [.i, .i, .i, .i, .b, .i, .l, .l], [some 0, some 5, some 6, some 7, some 8, some 9, some 10, none]⟩)]⟩
/-- One round of Push. -/
def stepPush (v0 : Int) (v1 : Bool) (v2 : Int) (v3 : Int) (v4 : Int) (v5 : Int) (v6 : Int) (v7 : Int) (v8 : Bool) (v9 : Int) (v10 : List D) (v11 : List D) : Option (Nat × List D) :=
  let x0 : Bool := decide ((v4 : Int) < v3)
  let x1 : Bool := decide ((v4 : Int) ≥ 0)
  let x2 : Bool := decide ((v4 : Int) < v2)
  let x3 : Bool := if x1 then x2 else false
  let x4 : Int := ((v10).length : Int)
  let x5 : Bool := decide ((v4 : Int) < x4)
  let x6 : Bool := (v5 : Int) != 0
  let x7 : Int := w64 (v6 + v7)
  let x8 : Int := w64 (x7 + v4)
  let x9 : Int := Int.tmod x8 v5
  let x10 : Bool := decide ((x9 : Int) ≥ 0)
  let x11 : Bool := decide ((x9 : Int) < v9)
  let x12 : Bool := if x10 then x11 else false
  let x13 : Int := ((v11).length : Int)
  let x14 : Bool := decide ((x9 : Int) < x13)
  let x15 : Int := w64 (v4 + 1)
  let x16 : D := (v10).getD (Int.toNat v4) (D.i 0)
  let x17 : Int := (D.toI x16)
  let x18 : List D := (v11).set (Int.toNat x9) (D.i x17)
  (if x0 then (if x3 then (if x5 then (if x6 then (if x12 then (if x14 then (some (0, [.i v0, .b v1, .i v2, .i v3, .i x15, .i v5, .i v6, .i v7, .b v8, .i v9, .ls v10, .ls x18])) else none) else none) else none) else none) else none) else (some (1, [.i v0, .i v5, .i v6, .i v7, .b v8, .i v9, .ls v10, .ls v11])))
set_option maxRecDepth 100000 in
theorem stepPush_eq (F : Nat → D → D) (v0 : Int) (v1 : Bool) (v2 : Int) (v3 : Int) (v4 : Int) (v5 : Int) (v6 : Int) (v7 : Int) (v8 : Bool) (v9 : Int) (v10 : List D) (v11 : List D) : stepV F (stepL Try.prog z2 47 1000 250 (loopAt Try.prog 47 250) conPush) [.i v0, .b v1, .i v2, .i v3, .i v4, .i v5, .i v6, .i v7, .b v8, .i v9, .ls v10, .ls v11] = stepPush v0 v1 v2 v3 v4 v5 v6 v7 v8 v9 v10 v11 := by kernel_rfl
noncomputable def spPush : List D → Option (Nat × List D)
  | [.i v0, .b v1, .i v2, .i v3, .i v4, .i v5, .i v6, .i v7, .b v8, .i v9, .ls v10, .ls v11] => stepPush v0 v1 v2 v3 v4 v5 v6 v7 v8 v9 v10 v11
  | _ => none
noncomputable def F3 : Nat → D → D := updF F2 6 fun d => loopV spPush d.toL
theorem wfPush : conPush.wf = true := by kernel_rfl
theorem loPush : loopOk Try.prog 47 250 = true := by kernel_rfl
def z3 : Ext := z2.addLoop 47 250 conPush
def conTakeB : Con := ⟨9, ⟨⟨[.ptr 0 0, .top, .top, .top, .top, .top, .top, .int .i64 (.var 0), .top, .top, .top, .int .i64 (.var 1), .top, .top, .top, .top, .top, .top, .top, .top, .top, .top, .top, .top, .top, .top, .top, .top, .top, .top, .top, .top, .top, .top, .top, .top, .top, .top, .top, .top, .top, .top, .top, .top, .top, .top, .top, .top, .top, .top, .top, .top, .top, .top, .top, .top, .top, .top, .top, .top, .top, .top, .top, .top, .top, .top, .top, .top, .top, .top, .top, .top, .top, .top, .top, .top, .top, .top, .top, .top, .top, .top, .top, .top, .top, .top, .top, .top, .top, .top, .top, .top, .top, .top, .top, .top, .top, .top, .top, .top, .top, .top, .top, .top, .top, .top, .top, .top, .top, .top, .top, .top, .top, .top, .top, .top, .top, .top, .top, .top],
    [.row [.ptr 1 0, .hnd 2, .int .i64 (.var 2)] 69, .row [.int .i64 (.var 3), .int .i64 (.var 4), .int .i64 (.var 5), .asl (.var 6) 3 1 (.lit (.i 0)) (.var 7)] 74, .map (.var 8), .arr (.one (.int .u8)) (.var 9)]⟩,
    [.fixed, .fixed, .fixed, .mobile], [.i, .i, .i, .i, .i, .i, .b, .i, .l, .l], []⟩,
  [0, 1, 3, 4],
  [(.exit 2, ⟨⟨[.ptr 0 0, .top, .top, .top, .top, .top, .top, .top, .top, .top, .top, .int .i64 (.var 0), .top, .top, .top, .top, .top, .top, .top, .top, .top, .top, .top, .top, .top, .top, .top, .top, .top, .top, .top, .top, .top, .top, .top, .top, .top, .top, .top, .top, .top, .top, .top, .top, .top, .top, .top, .top, .top, .top, .top, .top, .top, .top, .top, .top, .top, .top, .top, .top, .top, .top, .top, .top, .top, .top, .top, .top, .top, .top, .top, .top, .top, .top, .top, .top, .top, .top, .top, .top, .top, .top, .top, .top, .top, .top, .top, .top, .top, .top, .top, .top, .top, .top, .top, .top, .top, .top, .top, .top, .top, .top, .top, .top, .top, .top, .top, .top, .top, .top, .top, .top, .top, .top, .top, .top, .top, .top, .top, .top],
    [.row [.ptr 1 0, .hnd 2, .int .i64 (.var 1)] 69, .row [.int .i64 (.var 2), .int .i64 (.var 3), .int .i64 (.var 4), .asl (.var 5) 3 1 (.lit (.i 0)) (.var 6)] 74, .map (.var 7), .arr (.one (.int .u8)) (.var 8)]⟩,
    [.fixed, .fixed, .fixed, .mobile], [.i, .i, .i, .i, .i, .b, .i, .l, .l], [some 1, none, some 3, some 4, none, none, none, none, none]⟩)]⟩
/-- One round of TakeB. -/
def stepTakeB (f6 f8 : D → D) (v0 : Int) (v1 : Int) (v2 : Int) (v3 : Int) (v4 : Int) (v5 : Int) (v6 : Bool) (v7 : Int) (v8 : List D) (v9 : List D) : Option (Nat × List D) :=
  let x0 : Bool := decide ((v2 : Int) < v0)
  let x1 : Bool := (mfind v2 v8).isSome
  let x2 : Bool := !x1
  let x3 : Int := w64 (v3 - v5)
  let x4 : Int := zmin 1 x3
  let x5 : Bool := decide ((x4 : Int) ≤ 0)
  let x6 : Bool := !v6
  let x7 : Bool := decide ((v3 : Int) ≥ 0)
  let x8 : Bool := decide ((v3 : Int) ≤ 1099511627776)
  let x9 : Bool := if x7 then x8 else false
  let x10 : Bool := if x6 then x9 else true
  let x11 : Bool := if x5 then true else x10
  let x12 : Bool := decide ((x4 : Int) ≥ 0)
  let x13 : Bool := decide ((x4 : Int) ≤ 1)
  let x14 : Bool := if x12 then x13 else false
  let x15 : Bool := if x6 then x14 else true
  let x16 : Bool := if x5 then true else x15
  let x17 : Int := (mfind v2 v8).getD 0
  let x18 : List D := (D.i x17) :: ([] : List D)
  let x19 : List D := List.replicate (Int.toNat v3) (D.i 0)
  let x20 : List D := (D.ls x19) :: ([] : List D)
  let x21 : List D := (D.ls x18) :: x20
  let x22 : List D := (D.i v3) :: x21
  let x23 : List D := (D.b true) :: x22
  let x24 : List D := (D.i v5) :: x23
  let x25 : List D := (D.i v4) :: x24
  let x26 : List D := (D.i v3) :: x25
  let x27 : List D := (D.i 0) :: x26
  let x28 : List D := (D.i x4) :: x27
  let x29 : List D := (D.i x4) :: x28
  let x30 : List D := (D.b true) :: x29
  let x31 : List D := (D.i x4) :: x30
  let x32 : D := f6 (D.ls x31)
  let x33 : Bool := (D.toB x32)
  let x34 : Bool := if x6 then x33 else true
  let x35 : Bool := if x5 then true else x34
  let x36 : Bool := if x6 then true else x14
  let x37 : Bool := if x5 then true else x36
  let x38 : List D := (D.ls v9) :: ([] : List D)
  let x39 : List D := (D.ls x18) :: x38
  let x40 : List D := (D.i v7) :: x39
  let x41 : List D := (D.b v6) :: x40
  let x42 : List D := (D.i v5) :: x41
  let x43 : List D := (D.i v4) :: x42
  let x44 : List D := (D.i v3) :: x43
  let x45 : List D := (D.i 0) :: x44
  let x46 : List D := (D.i x4) :: x45
  let x47 : List D := (D.i x4) :: x46
  let x48 : List D := (D.b true) :: x47
  let x49 : List D := (D.i x4) :: x48
  let x50 : D := f6 (D.ls x49)
  let x51 : Bool := (D.toB x50)
  let x52 : Bool := if x6 then true else x51
  let x53 : Bool := if x5 then true else x52
  let x54 : Int := w64 (v2 + 1)
  let x55 : List D := mdel v2 v8
  let x56 : Int := w64 (v5 + x4)
  let x57 : D := f8 (D.ls x31)
  let x58 : List D := (D.toL x57)
  let x59 : D := (x58).getD 7 (D.i 0)
  let x60 : List D := (D.toL x59)
  let x61 : D := f8 (D.ls x49)
  let x62 : List D := (D.toL x61)
  let x63 : D := (x62).getD 7 (D.i 0)
  let x64 : List D := (D.toL x63)
  (if x0 then (if x2 then (some (1, [.i v1, .i v2, .i v3, .i v4, .i v5, .b v6, .i v7, .ls v8, .ls v9])) else (if x11 then (if x16 then (if x35 then (if x37 then (if x53 then (if x5 then (some (0, [.i v0, .i v1, .i x54, .i v3, .i v4, .i v5, .b v6, .i v7, .ls x55, .ls v9])) else (if x6 then (some (0, [.i v0, .i v1, .i x54, .i v3, .i v4, .i x56, .b true, .i v3, .ls x55, .ls x60])) else (some (0, [.i v0, .i v1, .i x54, .i v3, .i v4, .i x56, .b v6, .i v7, .ls x55, .ls x64])))) else none) else none) else none) else none) else none)) else (some (1, [.i v1, .i v2, .i v3, .i v4, .i v5, .b v6, .i v7, .ls v8, .ls v9])))
set_option maxRecDepth 100000 in
theorem stepTakeB_eq (F : Nat → D → D) (v0 : Int) (v1 : Int) (v2 : Int) (v3 : Int) (v4 : Int) (v5 : Int) (v6 : Bool) (v7 : Int) (v8 : List D) (v9 : List D) : stepV F (stepL Try.prog z3 32 1000 252 (loopAt Try.prog 32 252) conTakeB) [.i v0, .i v1, .i v2, .i v3, .i v4, .i v5, .b v6, .i v7, .ls v8, .ls v9] = stepTakeB (F 6) (F 8) v0 v1 v2 v3 v4 v5 v6 v7 v8 v9 := by kernel_rfl
noncomputable def spTakeB : List D → Option (Nat × List D)
  | [.i v0, .i v1, .i v2, .i v3, .i v4, .i v5, .b v6, .i v7, .ls v8, .ls v9] => stepTakeB (F3 6) (F3 8) v0 v1 v2 v3 v4 v5 v6 v7 v8 v9
  | _ => none
noncomputable def F4 : Nat → D → D := updF F3 9 fun d => loopV spTakeB d.toL
theorem wfTakeB : conTakeB.wf = true := by kernel_rfl
theorem loTakeB : loopOk Try.prog 32 252 = true := by kernel_rfl
def z4 : Ext := z3.addLoop 32 252 conTakeB
def conRTakeA : Con := ⟨12, ⟨⟨[.ptr 0 0, .int .i64 (.var 0), .str (.var 1), .top, .top, .top, .top, .int .i64 (.var 2), .int .i64 (.var 3), .int .i64 (.var 4), .top, .top, .top, .top, .top, .top, .top, .top, .top, .top, .top, .top, .top, .top, .top, .top, .top, .top, .top, .top, .top, .top, .top, .top, .top, .top, .top, .top, .top, .top, .top, .top, .top, .top, .top, .top, .top, .top, .top, .top, .top, .top, .top, .top, .top, .top, .top, .top, .top, .top, .top, .top, .top, .top, .top, .top, .top, .top, .top, .top, .top, .top, .top, .top, .top, .tup [], .tup [], .tup [], .tup [], .tup [], .tup [], .tup [], .top, .top, .top, .top, .top, .top, .top, .top, .top, .top, .top, .top, .top, .top, .top, .top, .top, .top, .top, .top, .top, .top, .top, .top, .top, .top, .top, .top, .top, .top, .top, .top, .top, .top, .top, .top, .top, .top, .top, .top, .top, .top, .top, .top, .top, .top, .top, .top, .top, .top, .top, .top, .top, .top, .top, .top, .top, .top, .top, .top, .top, .top, .top, .top, .top, .top, .top, .top, .top, .top],
    [.row [.int .i64 (.var 5), .int .i64 (.var 6), .str (.var 7), .asl (.var 8) 1 1 (.lit (.i 0)) (.var 9), .asl (.var 10) 2 1 (.lit (.i 0)) (.var 11)] 57, .arr (.one .bool) (.var 12), .arr (.one (.int .u8)) (.var 13)]⟩,
    [.fixed, .fixed, .fixed], [.i, .s, .i, .i, .i, .i, .i, .s, .b, .i, .b, .i, .l, .l], []⟩,
  [0, 1, 2, 3, 5, 6, 7, 8, 9, 10, 11],
  [(.exit 0, ⟨⟨[.ptr 0 0, .top, .top, .top, .top, .top, .top, .top, .top, .top, .top, .top, .top, .top, .top, .top, .top, .top, .top, .top, .top, .top, .top, .top, .top, .top, .top, .top, .top, .top, .top, .top, .top, .top, .top, .top, .top, .top, .top, .top, .top, .top, .top, .top, .top, .top, .top, .top, .top, .top, .top, .top, .top, .top, .top, .top, .top, .top, .top, .top, .top, .top, .top, .top, .top, .top, .top, .top, .top, .top, .top, .top, .top, .top, .top, .tup [], .tup [], .tup [], .tup [], .tup [], .tup [], .tup [], .top, .top, .top, .top, .top, .top, .top, .top, .top, .top, .top, .top, .top, .top, .top, .top, .top, .top, .top, .top, .top, .top, .top, .top, .top, .top, .top, .top, .top, .top, .top, .top, .top, .top, .top, .top, .top, .top, .top, .top, .top, .top, .top, .top, .top, .top, .top, .top, .top, .top, .top, .top, .top, .top, .top, .top, .top, .top, .top, .top, .top, .top, .top, .top, .top, .top, .top, .top, .top, .top],
    [.row [.int .i64 (.var 0), .int .i64 (.var 1), .str (.var 2), .asl (.var 3) 1 1 (.lit (.i 0)) (.var 4), .asl (.var 5) 2 1 (.lit (.i 0)) (.var 6)] 57, .arr (.one .bool) (.var 7), .arr (.one (.int .u8)) (.var 8)]⟩,
    [.fixed, .fixed, .fixed], [.i, .i, .s, .b, .i, .b, .i, .l, .l], [some 5, some 6, some 7, some 8, some 9, some 10, some 11, none, none]⟩)]⟩
/-- One round of RTakeA. -/
def stepRTakeA (v0 : Int) (v1 : List UInt8) (v2 : Int) (v3 : Int) (v4 : Int) (v5 : Int) (v6 : Int) (v7 : List UInt8) (v8 : Bool) (v9 : Int) (v10 : Bool) (v11 : Int) (v12 : List D) (v13 : List D) : Option (Nat × List D) :=
  let x0 : Int := ((v1).length : Int)
  let x1 : Bool := decide ((v4 : Int) < x0)
  let x2 : Int := w64 (v0 + v4)
  let x3 : Int := w64 (x2 - v2)
  let x4 : Bool := decide ((x3 : Int) ≥ 0)
  let x5 : Bool := decide ((x3 : Int) < v3)
  let x6 : Bool := decide ((x3 : Int) < v9)
  let x7 : Bool := if x4 then x6 else false
  let x8 : Bool := if x5 then x7 else true
  let x9 : Bool := if x4 then x8 else true
  let x10 : Int := ((v12).length : Int)
  let x11 : Bool := decide ((x3 : Int) < x10)
  let x12 : Bool := if x5 then x11 else true
  let x13 : Bool := if x4 then x12 else true
  let x14 : D := (v12).getD (Int.toNat x3) (D.i 0)
  let x15 : Bool := (D.toB x14)
  let x16 : Bool := !x15
  let x17 : Bool := if x5 then x16 else false
  let x18 : Bool := if x4 then x17 else false
  let x19 : Bool := if x18 then x7 else true
  let x20 : Bool := if x18 then x11 else true
  let x21 : Bool := decide ((v4 : Int) ≥ 0)
  let x22 : Bool := if x21 then x1 else false
  let x23 : Bool := if x18 then x22 else true
  let x24 : Bool := decide ((x3 : Int) < v11)
  let x25 : Bool := if x4 then x24 else false
  let x26 : Bool := if x18 then x25 else true
  let x27 : Int := ((v13).length : Int)
  let x28 : Bool := decide ((x3 : Int) < x27)
  let x29 : Bool := if x18 then x28 else true
  let x30 : Int := w64 (v4 + 1)
  let x31 : List D := (v12).set (Int.toNat x3) (D.b true)
  let x32 : List D := if x18 then x31 else v12
  let x33 : Int := (((v1).getD (Int.toNat v4) 0).toNat : Int)
  let x34 : List D := (v13).set (Int.toNat x3) (D.i x33)
  let x35 : List D := if x18 then x34 else v13
  (if x1 then (if x9 then (if x13 then (if x19 then (if x20 then (if x23 then (if x26 then (if x29 then (some (0, [.i v0, .s v1, .i v2, .i v3, .i x30, .i v5, .i v6, .s v7, .b v8, .i v9, .b v10, .i v11, .ls x32, .ls x35])) else none) else none) else none) else none) else none) else none) else none) else (some (1, [.i v5, .i v6, .s v7, .b v8, .i v9, .b v10, .i v11, .ls v12, .ls v13])))
set_option maxRecDepth 100000 in
theorem stepRTakeA_eq (F : Nat → D → D) (v0 : Int) (v1 : List UInt8) (v2 : Int) (v3 : Int) (v4 : Int) (v5 : Int) (v6 : Int) (v7 : List UInt8) (v8 : Bool) (v9 : Int) (v10 : Bool) (v11 : Int) (v12 : List D) (v13 : List D) : stepV F (stepL Try.prog z4 33 1000 250 (loopAt Try.prog 33 250) conRTakeA) [.i v0, .s v1, .i v2, .i v3, .i v4, .i v5, .i v6, .s v7, .b v8, .i v9, .b v10, .i v11, .ls v12, .ls v13] = stepRTakeA v0 v1 v2 v3 v4 v5 v6 v7 v8 v9 v10 v11 v12 v13 := by kernel_rfl
noncomputable def spRTakeA : List D → Option (Nat × List D)
  | [.i v0, .s v1, .i v2, .i v3, .i v4, .i v5, .i v6, .s v7, .b v8, .i v9, .b v10, .i v11, .ls v12, .ls v13] => stepRTakeA v0 v1 v2 v3 v4 v5 v6 v7 v8 v9 v10 v11 v12 v13
  | _ => none
noncomputable def F5 : Nat → D → D := updF F4 12 fun d => loopV spRTakeA d.toL
theorem wfRTakeA : conRTakeA.wf = true := by kernel_rfl
theorem loRTakeA : loopOk Try.prog 33 250 = true := by kernel_rfl
def z5 : Ext := z4.addLoop 33 250 conRTakeA
def conRTakeB : Con := ⟨15, ⟨⟨[.ptr 0 0, .top, .top, .top, .top, .top, .top, .top, .top, .top, .top, .int .i64 (.var 0), .top, .top, .top, .top, .top, .top, .top, .top, .top, .top, .top, .top, .top, .top, .top, .top, .top, .top, .top, .top, .top, .top, .top, .top, .top, .top, .top, .top, .top, .top, .top, .top, .top, .top, .top, .top, .top, .top, .top, .top, .top, .top, .top, .top, .top, .top, .top, .top, .top, .top, .top, .top, .top, .top, .top, .top, .top, .top, .top, .top, .top, .top, .top, .top, .top, .top, .top, .top, .top, .top, .top, .top, .top, .top, .top, .top, .top, .top, .top, .top, .top, .top, .top, .top, .top, .top, .top, .top, .top, .top, .top, .top, .top, .top, .top, .top, .top, .top, .top, .top, .top, .top, .top, .top, .top, .top, .top, .top, .top, .top, .top, .top, .top, .top, .top, .top, .top, .top, .top, .top, .top, .top, .top, .top, .top, .top, .top, .top, .top, .top, .top, .top, .top, .top, .top, .top, .top, .top, .top, .top],
    [.row [.int .i64 (.var 1), .int .i64 (.var 2), .str (.var 3), .asl (.var 4) 1 1 (.lit (.i 0)) (.var 5), .asl (.var 6) 2 1 (.lit (.i 0)) (.var 7)] 57, .arr (.one .bool) (.var 8), .arr (.one (.int .u8)) (.var 9)]⟩,
    [.fixed, .fixed, .fixed], [.i, .i, .i, .s, .b, .i, .b, .i, .l, .l], []⟩,
  [1, 2, 3, 4, 5, 6, 7, 8, 9],
  [(.exit 2, ⟨⟨[.ptr 0 0, .top, .top, .top, .top, .top, .top, .top, .top, .top, .top, .int .i64 (.var 0), .top, .top, .top, .top, .top, .top, .top, .top, .top, .top, .top, .top, .top, .top, .top, .top, .top, .top, .top, .top, .top, .top, .top, .top, .top, .top, .top, .top, .top, .top, .top, .top, .top, .top, .top, .top, .top, .top, .top, .top, .top, .top, .top, .top, .top, .top, .top, .top, .top, .top, .top, .top, .top, .top, .top, .top, .top, .top, .top, .top, .top, .top, .top, .top, .top, .top, .top, .top, .top, .top, .top, .top, .top, .top, .top, .top, .top, .top, .top, .top, .top, .top, .top, .top, .top, .top, .top, .top, .top, .top, .top, .top, .top, .top, .top, .top, .top, .top, .top, .top, .top, .top, .top, .top, .top, .top, .top, .top, .top, .top, .top, .top, .top, .top, .top, .top, .top, .top, .top, .top, .top, .top, .top, .top, .top, .top, .top, .top, .top, .top, .top, .top, .top, .top, .top, .top, .top, .top, .top, .top],
    [.row [.int .i64 (.var 1), .int .i64 (.var 2), .str (.var 3), .asl (.var 4) 1 1 (.lit (.i 0)) (.var 5), .asl (.var 6) 2 1 (.lit (.i 0)) (.var 7)] 57, .arr (.one .bool) (.var 8), .arr (.one (.int .u8)) (.var 9)]⟩,
    [.fixed, .fixed, .fixed], [.i, .i, .i, .s, .b, .i, .b, .i, .l, .l], [none, some 1, some 2, some 3, some 4, some 5, some 6, some 7, some 8, some 9]⟩)]⟩
/-- One round of RTakeB. -/
def stepRTakeB (v0 : Int) (v1 : Int) (v2 : Int) (v3 : List UInt8) (v4 : Bool) (v5 : Int) (v6 : Bool) (v7 : Int) (v8 : List D) (v9 : List D) : Option (Nat × List D) :=
  let x0 : Bool := decide ((v0 : Int) < v1)
  let x1 : Bool := decide ((v0 : Int) ≥ 0)
  let x2 : Bool := decide ((v0 : Int) < v5)
  let x3 : Bool := if x1 then x2 else false
  let x4 : Bool := if x0 then x3 else true
  let x5 : Int := ((v8).length : Int)
  let x6 : Bool := decide ((v0 : Int) < x5)
  let x7 : Bool := if x0 then x6 else true
  let x8 : D := (v8).getD (Int.toNat v0) (D.i 0)
  let x9 : Bool := (D.toB x8)
  let x10 : Bool := if x0 then x9 else false
  let x11 : Int := w64 (v0 + 1)
  (if x4 then (if x7 then (if x10 then (some (0, [.i x11, .i v1, .i v2, .s v3, .b v4, .i v5, .b v6, .i v7, .ls v8, .ls v9])) else (some (1, [.i v0, .i v1, .i v2, .s v3, .b v4, .i v5, .b v6, .i v7, .ls v8, .ls v9]))) else none) else none)
set_option maxRecDepth 100000 in
theorem stepRTakeB_eq (F : Nat → D → D) (v0 : Int) (v1 : Int) (v2 : Int) (v3 : List UInt8) (v4 : Bool) (v5 : Int) (v6 : Bool) (v7 : Int) (v8 : List D) (v9 : List D) : stepV F (stepL Try.prog z5 33 1000 508 (loopAt Try.prog 33 508) conRTakeB) [.i v0, .i v1, .i v2, .s v3, .b v4, .i v5, .b v6, .i v7, .ls v8, .ls v9] = stepRTakeB v0 v1 v2 v3 v4 v5 v6 v7 v8 v9 := by kernel_rfl
noncomputable def spRTakeB : List D → Option (Nat × List D)
  | [.i v0, .i v1, .i v2, .s v3, .b v4, .i v5, .b v6, .i v7, .ls v8, .ls v9] => stepRTakeB v0 v1 v2 v3 v4 v5 v6 v7 v8 v9
  | _ => none
noncomputable def F6 : Nat → D → D := updF F5 15 fun d => loopV spRTakeB d.toL
theorem wfRTakeB : conRTakeB.wf = true := by kernel_rfl
theorem loRTakeB : loopOk Try.prog 33 508 = true := by kernel_rfl
def z6 : Ext := z5.addLoop 33 508 conRTakeB
def conRTakeC : Con := ⟨18, ⟨⟨[.ptr 0 0, .top, .top, .top, .top, .top, .top, .top, .top, .top, .top, .int .i64 (.var 0), .asl (.var 1) 1 1 (.lit (.i 0)) (.var 2), .asl (.var 3) 2 1 (.lit (.i 0)) (.var 4), .int .i64 (.var 5), .top, .top, .top, .top, .top, .top, .top, .top, .top, .top, .top, .top, .top, .top, .top, .top, .top, .top, .top, .top, .top, .top, .top, .top, .top, .top, .top, .top, .top, .top, .top, .top, .top, .top, .top, .top, .top, .top, .top, .top, .top, .top, .top, .top, .top, .top, .top, .top, .top, .top, .top, .top, .top, .top, .top, .top, .top, .top, .top, .top, .top, .top, .top, .top, .top, .top, .top, .top, .top, .top, .top, .top, .top, .top, .top, .top, .top, .top, .top, .top, .top, .top, .top, .top, .top, .top, .top, .top, .top, .top, .top, .top, .top, .top, .top, .top, .top, .top, .top, .top, .top, .top, .top, .top, .top, .top, .top, .top, .top, .top, .top, .top, .top, .top, .top, .top, .top, .top, .top, .top, .top, .top, .top, .top, .top, .top, .top, .top, .top, .top, .top, .top, .top, .top, .top, .top, .top],
    [.row [.int .i64 (.var 6), .int .i64 (.var 7), .str (.var 8), .asl (.var 9) 3 1 (.lit (.i 0)) (.var 10), .asl (.var 11) 4 1 (.lit (.i 0)) (.var 12)] 57, .arr (.one .bool) (.var 13), .arr (.one (.int .u8)) (.var 14), .arr (.one .bool) (.var 15), .arr (.one (.int .u8)) (.var 16)]⟩,
    [.fixed, .fixed, .fixed, .fixed, .fixed], [.i, .b, .i, .b, .i, .i, .i, .i, .s, .b, .i, .b, .i, .l, .l, .l, .l], []⟩,
  [0, 1, 2, 3, 4, 6, 7, 8, 9, 10, 11, 12, 15, 16],
  [(.exit 4, ⟨⟨[.ptr 0 0, .top, .top, .top, .top, .top, .top, .top, .top, .top, .top, .int .i64 (.var 0), .asl (.var 1) 1 1 (.lit (.i 0)) (.var 2), .asl (.var 3) 2 1 (.lit (.i 0)) (.var 4), .top, .top, .top, .top, .top, .top, .top, .top, .top, .top, .top, .top, .top, .top, .top, .top, .top, .top, .top, .top, .top, .top, .top, .top, .top, .top, .top, .top, .top, .top, .top, .top, .top, .top, .top, .top, .top, .top, .top, .top, .top, .top, .top, .top, .top, .top, .top, .top, .top, .top, .top, .top, .top, .top, .top, .top, .top, .top, .top, .top, .top, .top, .top, .top, .top, .top, .top, .top, .top, .top, .top, .top, .top, .top, .top, .top, .top, .top, .top, .top, .top, .top, .top, .top, .top, .top, .top, .top, .top, .top, .top, .top, .top, .top, .top, .top, .top, .top, .top, .top, .top, .top, .top, .top, .top, .top, .top, .top, .top, .top, .top, .top, .top, .top, .top, .top, .top, .top, .top, .top, .top, .top, .top, .top, .top, .top, .top, .top, .top, .top, .top, .top, .top, .top, .top, .top, .top, .top],
    [.row [.int .i64 (.var 5), .int .i64 (.var 6), .str (.var 7), .asl (.var 8) 3 1 (.lit (.i 0)) (.var 9), .asl (.var 10) 4 1 (.lit (.i 0)) (.var 11)] 57, .arr (.one .bool) (.var 12), .arr (.one (.int .u8)) (.var 13), .arr (.one .bool) (.var 14), .arr (.one (.int .u8)) (.var 15)]⟩,
    [.fixed, .fixed, .fixed, .fixed, .fixed], [.i, .b, .i, .b, .i, .i, .i, .s, .b, .i, .b, .i, .l, .l, .l, .l], [some 0, some 1, some 2, some 3, some 4, some 6, some 7, some 8, some 9, some 10, some 11, some 12, none, none, some 15, some 16]⟩)]⟩
/-- One round of RTakeC. -/
def stepRTakeC (v0 : Int) (v1 : Bool) (v2 : Int) (v3 : Bool) (v4 : Int) (v5 : Int) (v6 : Int) (v7 : Int) (v8 : List UInt8) (v9 : Bool) (v10 : Int) (v11 : Bool) (v12 : Int) (v13 : List D) (v14 : List D) (v15 : List D) (v16 : List D) : Option (Nat × List D) :=
  let x0 : Bool := decide ((v5 : Int) < v6)
  let x1 : Bool := decide ((v5 : Int) ≥ 0)
  let x2 : Bool := decide ((v5 : Int) < v10)
  let x3 : Bool := if x1 then x2 else false
  let x4 : Int := ((v15).length : Int)
  let x5 : Bool := decide ((v5 : Int) < x4)
  let x6 : Int := w64 (v5 - v0)
  let x7 : Bool := decide ((x6 : Int) ≥ 0)
  let x8 : Bool := decide ((x6 : Int) < v2)
  let x9 : Bool := if x7 then x8 else false
  let x10 : Int := ((v13).length : Int)
  let x11 : Bool := decide ((x6 : Int) < x10)
  let x12 : Bool := decide ((v5 : Int) < v12)
  let x13 : Bool := if x1 then x12 else false
  let x14 : Int := ((v16).length : Int)
  let x15 : Bool := decide ((v5 : Int) < x14)
  let x16 : Bool := decide ((x6 : Int) < v4)
  let x17 : Bool := if x7 then x16 else false
  let x18 : Int := ((v14).length : Int)
  let x19 : Bool := decide ((x6 : Int) < x18)
  let x20 : Int := w64 (v5 + 1)
  let x21 : D := (v15).getD (Int.toNat v5) (D.i 0)
  let x22 : Bool := (D.toB x21)
  let x23 : List D := (v13).set (Int.toNat x6) (D.b x22)
  let x24 : D := (v16).getD (Int.toNat v5) (D.i 0)
  let x25 : Int := (D.toI x24)
  let x26 : List D := (v14).set (Int.toNat x6) (D.i x25)
  (if x0 then (if x3 then (if x5 then (if x9 then (if x11 then (if x13 then (if x15 then (if x17 then (if x19 then (some (0, [.i v0, .b v1, .i v2, .b v3, .i v4, .i x20, .i v6, .i v7, .s v8, .b v9, .i v10, .b v11, .i v12, .ls x23, .ls x26, .ls v15, .ls v16])) else none) else none) else none) else none) else none) else none) else none) else none) else (some (1, [.i v0, .b v1, .i v2, .b v3, .i v4, .i v6, .i v7, .s v8, .b v9, .i v10, .b v11, .i v12, .ls v13, .ls v14, .ls v15, .ls v16])))
set_option maxRecDepth 100000 in
theorem stepRTakeC_eq (F : Nat → D → D) (v0 : Int) (v1 : Bool) (v2 : Int) (v3 : Bool) (v4 : Int) (v5 : Int) (v6 : Int) (v7 : Int) (v8 : List UInt8) (v9 : Bool) (v10 : Int) (v11 : Bool) (v12 : Int) (v13 : List D) (v14 : List D) (v15 : List D) (v16 : List D) : stepV F (stepL Try.prog z6 33 1000 16378 (loopAt Try.prog 33 16378) conRTakeC) [.i v0, .b v1, .i v2, .b v3, .i v4, .i v5, .i v6, .i v7, .s v8, .b v9, .i v10, .b v11, .i v12, .ls v13, .ls v14, .ls v15, .ls v16] = stepRTakeC v0 v1 v2 v3 v4 v5 v6 v7 v8 v9 v10 v11 v12 v13 v14 v15 v16 := by kernel_rfl
noncomputable def spRTakeC : List D → Option (Nat × List D)
  | [.i v0, .b v1, .i v2, .b v3, .i v4, .i v5, .i v6, .i v7, .s v8, .b v9, .i v10, .b v11, .i v12, .ls v13, .ls v14, .ls v15, .ls v16] => stepRTakeC v0 v1 v2 v3 v4 v5 v6 v7 v8 v9 v10 v11 v12 v13 v14 v15 v16
  | _ => none
noncomputable def F7 : Nat → D → D := updF F6 18 fun d => loopV spRTakeC d.toL
theorem wfRTakeC : conRTakeC.wf = true := by kernel_rfl
theorem loRTakeC : loopOk Try.prog 33 16378 = true := by kernel_rfl
def z7 : Ext := z6.addLoop 33 16378 conRTakeC
def conRHeld : Con := ⟨21, ⟨⟨[.ptr 0 0, .top, .top, .int .i64 (.var 0), .int .i64 (.var 1), .top, .top, .top, .top, .top, .top, .top, .top, .top, .top, .top, .top, .top, .top, .top, .top, .top, .top, .top],
    [.row [.int .i64 (.var 2), .int .i64 (.var 3), .str (.var 4), .asl (.var 5) 1 1 (.lit (.i 0)) (.var 6), .asl (.var 7) 2 1 (.lit (.i 0)) (.var 8)] 57, .arr (.one .bool) (.var 9), .arr (.one (.int .u8)) (.var 10)]⟩,
    [.fixed, .fixed, .fixed], [.i, .i, .i, .i, .s, .b, .i, .b, .i, .l, .l], []⟩,
  [2, 3, 4, 5, 6, 7, 8, 9, 10],
  [(.exit 0, ⟨⟨[.top, .top, .top, .int .i64 (.var 0), .top, .top, .top, .top, .top, .top, .top, .top, .top, .top, .top, .top, .top, .top, .top, .top, .top, .top, .top, .top],
    [.row [.int .i64 (.var 1), .int .i64 (.var 2), .str (.var 3), .asl (.var 4) 1 1 (.lit (.i 0)) (.var 5), .asl (.var 6) 2 1 (.lit (.i 0)) (.var 7)] 57, .arr (.one .bool) (.var 8), .arr (.one (.int .u8)) (.var 9)]⟩,
    [.fixed, .fixed, .fixed], [.i, .i, .i, .s, .b, .i, .b, .i, .l, .l], [none, some 2, some 3, some 4, some 5, some 6, some 7, some 8, some 9, some 10]⟩)]⟩
/-- One round of RHeld. -/
def stepRHeld (v0 : Int) (v1 : Int) (v2 : Int) (v3 : Int) (v4 : List UInt8) (v5 : Bool) (v6 : Int) (v7 : Bool) (v8 : Int) (v9 : List D) (v10 : List D) : Option (Nat × List D) :=
  let x0 : Bool := decide ((v1 : Int) < v6)
  let x1 : Bool := decide ((v1 : Int) ≥ 0)
  let x2 : Bool := if x1 then x0 else false
  let x3 : Int := ((v9).length : Int)
  let x4 : Bool := decide ((v1 : Int) < x3)
  let x5 : D := (v9).getD (Int.toNat v1) (D.i 0)
  let x6 : Bool := (D.toB x5)
  let x7 : Int := w64 (v0 + 1)
  let x8 : Int := if x6 then x7 else v0
  let x9 : Int := w64 (v1 + 1)
  (if x0 then (if x2 then (if x4 then (some (0, [.i x8, .i x9, .i v2, .i v3, .s v4, .b v5, .i v6, .b v7, .i v8, .ls v9, .ls v10])) else none) else none) else (some (1, [.i v0, .i v2, .i v3, .s v4, .b v5, .i v6, .b v7, .i v8, .ls v9, .ls v10])))
set_option maxRecDepth 100000 in
theorem stepRHeld_eq (F : Nat → D → D) (v0 : Int) (v1 : Int) (v2 : Int) (v3 : Int) (v4 : List UInt8) (v5 : Bool) (v6 : Int) (v7 : Bool) (v8 : Int) (v9 : List D) (v10 : List D) : stepV F (stepL Try.prog z7 40 1000 58 (loopAt Try.prog 40 58) conRHeld) [.i v0, .i v1, .i v2, .i v3, .s v4, .b v5, .i v6, .b v7, .i v8, .ls v9, .ls v10] = stepRHeld v0 v1 v2 v3 v4 v5 v6 v7 v8 v9 v10 := by kernel_rfl
noncomputable def spRHeld : List D → Option (Nat × List D)
  | [.i v0, .i v1, .i v2, .i v3, .s v4, .b v5, .i v6, .b v7, .i v8, .ls v9, .ls v10] => stepRHeld v0 v1 v2 v3 v4 v5 v6 v7 v8 v9 v10
  | _ => none
noncomputable def F8 : Nat → D → D := updF F7 21 fun d => loopV spRHeld d.toL
theorem wfRHeld : conRHeld.wf = true := by kernel_rfl
theorem loRHeld : loopOk Try.prog 40 58 = true := by kernel_rfl
def z8 : Ext := z7.addLoop 40 58 conRHeld
def conPeek : Con := ⟨24, ⟨⟨[.ptr 0 0, .int .i64 (.var 0), .top, .top, .top, .top, .top, .asl (.var 1) 1 1 (.lit (.i 0)) (.var 2), .top, .top, .top, .top, .top, .top, .top, .top, .top, .top, .top, .top, .top, .top, .top, .top, .top, .top, .top, .top, .top, .top, .top, .int .i64 (.var 3), .int .i64 (.var 4), .top, .top, .top, .top, .top, .top, .top, .top, .top, .top, .top, .top, .top, .top, .top, .top, .top, .top, .top, .top, .top, .top, .top, .top, .top, .top],
    [.row [.int .i64 (.var 5), .int .i64 (.var 6), .int .i64 (.var 7), .asl (.var 8) 2 1 (.lit (.i 0)) (.var 9)] 74, .arr (.one (.int .u8)) (.var 10), .arr (.one (.int .u8)) (.var 11)]⟩,
    [.fixed, .fixed, .fixed], [.i, .b, .i, .i, .i, .i, .i, .i, .b, .i, .l, .l], []⟩,
  [0, 1, 2, 3, 5, 6, 7, 8, 9, 11],
  [(.exit 0, ⟨⟨[.top, .top, .top, .top, .top, .top, .top, .asl (.var 0) 1 1 (.lit (.i 0)) (.var 1), .top, .top, .top, .top, .top, .top, .top, .top, .top, .top, .top, .top, .top, .top, .top, .top, .top, .top, .top, .top, .top, .top, .top, .top, .top, .top, .top, .top, .top, .top, .top, .top, .top, .top, .top, .top, .top, .top, .top, .top, .top, .top, .top, .top, .top, .top, .top, .top, .top, .top, .top],
    [.row [.int .i64 (.var 3), .int .i64 (.var 4), .int .i64 (.var 5), .asl (.var 6) 2 1 (.lit (.i 0)) (.var 7)] 74, .arr (.one (.int .u8)) (.var 2), .arr (.one (.int .u8)) (.var 8)]⟩,
    [.fixed, .fixed, .fixed], [.b, .i, .l, .i, .i, .i, .b, .i, .l], [some 1, some 2, none, some 5, some 6, some 7, some 8, some 9, some 11]⟩)]⟩
/-- One round of Peek. -/
def stepPeek (v0 : Int) (v1 : Bool) (v2 : Int) (v3 : Int) (v4 : Int) (v5 : Int) (v6 : Int) (v7 : Int) (v8 : Bool) (v9 : Int) (v10 : List D) (v11 : List D) : Option (Nat × List D) :=
  let x0 : Bool := decide ((v4 : Int) < v3)
  let x1 : Bool := (v5 : Int) != 0
  let x2 : Int := w64 (v6 + v0)
  let x3 : Int := w64 (x2 + v4)
  let x4 : Int := Int.tmod x3 v5
  let x5 : Bool := decide ((x4 : Int) ≥ 0)
  let x6 : Bool := decide ((x4 : Int) < v9)
  let x7 : Bool := if x5 then x6 else false
  let x8 : Int := ((v11).length : Int)
  let x9 : Bool := decide ((x4 : Int) < x8)
  let x10 : Bool := decide ((v4 : Int) ≥ 0)
  let x11 : Bool := decide ((v4 : Int) < v2)
  let x12 : Bool := if x10 then x11 else false
  let x13 : Int := ((v10).length : Int)
  let x14 : Bool := decide ((v4 : Int) < x13)
  let x15 : Int := w64 (v4 + 1)
  let x16 : D := (v11).getD (Int.toNat x4) (D.i 0)
  let x17 : Int := (D.toI x16)
  let x18 : List D := (v10).set (Int.toNat v4) (D.i x17)
  (if x0 then (if x1 then (if x7 then (if x9 then (if x12 then (if x14 then (some (0, [.i v0, .b v1, .i v2, .i v3, .i x15, .i v5, .i v6, .i v7, .b v8, .i v9, .ls x18, .ls v11])) else none) else none) else none) else none) else none) else (some (1, [.b v1, .i v2, .ls v10, .i v5, .i v6, .i v7, .b v8, .i v9, .ls v11])))
set_option maxRecDepth 100000 in
theorem stepPeek_eq (F : Nat → D → D) (v0 : Int) (v1 : Bool) (v2 : Int) (v3 : Int) (v4 : Int) (v5 : Int) (v6 : Int) (v7 : Int) (v8 : Bool) (v9 : Int) (v10 : List D) (v11 : List D) : stepV F (stepL Try.prog z8 45 1000 122 (loopAt Try.prog 45 122) conPeek) [.i v0, .b v1, .i v2, .i v3, .i v4, .i v5, .i v6, .i v7, .b v8, .i v9, .ls v10, .ls v11] = stepPeek v0 v1 v2 v3 v4 v5 v6 v7 v8 v9 v10 v11 := by kernel_rfl
noncomputable def spPeek : List D → Option (Nat × List D)
  | [.i v0, .b v1, .i v2, .i v3, .i v4, .i v5, .i v6, .i v7, .b v8, .i v9, .ls v10, .ls v11] => stepPeek v0 v1 v2 v3 v4 v5 v6 v7 v8 v9 v10 v11
  | _ => none
noncomputable def F9 : Nat → D → D := updF F8 24 fun d => loopV spPeek d.toL
theorem wfPeek : conPeek.wf = true := by kernel_rfl
theorem loPeek : loopOk Try.prog 45 122 = true := by kernel_rfl
def z9 : Ext := z8.addLoop 45 122 conPeek
def conTake : Con := ⟨27, ⟨⟨[.ptr 0 0, .int .i64 (.var 0), .str (.var 1)],
    [.row [.ptr 1 0, .hnd 2, .int .i64 (.var 2)] 69, .row [.int .i64 (.var 3), .int .i64 (.var 4), .int .i64 (.var 5), .asl (.var 6) 3 1 (.lit (.i 0)) (.var 7)] 74, .map (.var 8), .arr (.one (.int .u8)) (.var 9)]⟩,
    [.fixed, .fixed, .fixed, .mobile], [.i, .s, .i, .i, .i, .i, .b, .i, .l, .l], []⟩,
  [0, 1, 2, 3, 4, 5, 6, 7, 8, 9],
  [(.ret, ⟨⟨[.int .i64 (.var 0)],
    [.row [.ptr 1 0, .hnd 2, .int .i64 (.var 1)] 69, .row [.int .i64 (.var 2), .int .i64 (.var 3), .int .i64 (.var 4), .asl (.var 5) 4 1 (.lit (.i 0)) (.var 6)] 74, .map (.var 7), .dead, .arr (.one (.int .u8)) (.var 8)]⟩,
    [.fixed, .fixed, .fixed, .mobile, .mobile], [.i, .i, .i, .i, .i, .b, .i, .l, .l], [none, none, some 3, some 4, none, none, none, none, none]⟩)]⟩
/-- One round of Take. -/
def stepTake (f3 f9 f5 f11 : D → D) (v0 : Int) (v1 : List UInt8) (v2 : Int) (v3 : Int) (v4 : Int) (v5 : Int) (v6 : Bool) (v7 : Int) (v8 : List D) (v9 : List D) : Option (Nat × List D) :=
  let x0 : Bool := decide ((v0 : Int) < 0)
  let x1 : Bool := decide ((v0 : Int) > 1099511627776)
  let x2 : Bool := if x0 then true else x1
  let x3 : Int := w64 (v3 - v5)
  let x4 : Int := w64 (v2 + x3)
  let x5 : Int := zmax v0 v2
  let x6 : List D := (D.ls v9) :: ([] : List D)
  let x7 : List D := (D.ls v8) :: x6
  let x8 : List D := (D.i v7) :: x7
  let x9 : List D := (D.b v6) :: x8
  let x10 : List D := (D.i v5) :: x9
  let x11 : List D := (D.i v4) :: x10
  let x12 : List D := (D.i v3) :: x11
  let x13 : List D := (D.i v2) :: x12
  let x14 : List D := (D.i x5) :: x13
  let x15 : List D := (D.i x4) :: x14
  let x16 : List D := (D.s v1) :: x15
  let x17 : List D := (D.i v0) :: x16
  let x18 : D := f3 (D.ls x17)
  let x19 : Bool := (D.toB x18)
  let x20 : Bool := if x2 then true else x19
  let x21 : D := f5 (D.ls x17)
  let x22 : List D := (D.toL x21)
  let x23 : D := (x22).getD 7 (D.i 0)
  let x24 : List D := (D.toL x23)
  let x25 : List D := (D.ls x24) :: x6
  let x26 : List D := (D.i v7) :: x25
  let x27 : List D := (D.b v6) :: x26
  let x28 : List D := (D.i v5) :: x27
  let x29 : List D := (D.i v4) :: x28
  let x30 : List D := (D.i v3) :: x29
  let x31 : List D := (D.i v2) :: x30
  let x32 : List D := (D.i v2) :: x31
  let x33 : List D := (D.i x4) :: x32
  let x34 : D := f9 (D.ls x33)
  let x35 : Bool := (D.toB x34)
  let x36 : Bool := if x2 then true else x35
  let x37 : D := f11 (D.ls x33)
  let x38 : List D := (D.toL x37)
  let x39 : D := (x38).getD 1 (D.i 0)
  let x40 : Int := w64 ((D.toI x39) - v2)
  let x41 : Int := (D.toI x39)
  let x42 : D := (x38).getD 4 (D.i 0)
  let x43 : Int := (D.toI x42)
  let x44 : D := (x38).getD 5 (D.i 0)
  let x45 : Bool := (D.toB x44)
  let x46 : D := (x38).getD 6 (D.i 0)
  let x47 : Int := (D.toI x46)
  let x48 : D := (x38).getD 7 (D.i 0)
  let x49 : List D := (D.toL x48)
  let x50 : D := (x38).getD 8 (D.i 0)
  let x51 : List D := (D.toL x50)
  (if x20 then (if x36 then (if x2 then (some (1, [.i 0, .i v2, .i v3, .i v4, .i v5, .b v6, .i v7, .ls v8, .ls v9])) else (some (1, [.i x40, .i x41, .i v3, .i v4, .i x43, .b x45, .i x47, .ls x49, .ls x51]))) else none) else none)
set_option maxRecDepth 100000 in
theorem stepTake_eq (F : Nat → D → D) (v0 : Int) (v1 : List UInt8) (v2 : Int) (v3 : Int) (v4 : Int) (v5 : Int) (v6 : Bool) (v7 : Int) (v8 : List D) (v9 : List D) : stepV F (stepC Try.prog z9 32 1000 conTake) [.i v0, .s v1, .i v2, .i v3, .i v4, .i v5, .b v6, .i v7, .ls v8, .ls v9] = stepTake (F 3) (F 9) (F 5) (F 11) v0 v1 v2 v3 v4 v5 v6 v7 v8 v9 := by kernel_rfl
noncomputable def spTake : List D → Option (Nat × List D)
  | [.i v0, .s v1, .i v2, .i v3, .i v4, .i v5, .b v6, .i v7, .ls v8, .ls v9] => stepTake (F9 3) (F9 9) (F9 5) (F9 11) v0 v1 v2 v3 v4 v5 v6 v7 v8 v9
  | _ => none
noncomputable def F10 : Nat → D → D := updF F9 27 fun d => spTake d.toL
theorem wfTake : conTake.wf = true := by kernel_rfl
def z10 : Ext := z9.addCall 32 conTake
def conRTake : Con := ⟨30, ⟨⟨[.ptr 0 0, .int .i64 (.var 0), .str (.var 1)],
    [.row [.int .i64 (.var 2), .int .i64 (.var 3), .str (.var 4), .asl (.var 5) 1 1 (.lit (.i 0)) (.var 6), .asl (.var 7) 2 1 (.lit (.i 0)) (.var 8)] 57, .arr (.one .bool) (.var 9), .arr (.one (.int .u8)) (.var 10)]⟩,
    [.fixed, .mobile, .mobile], [.i, .s, .i, .i, .s, .b, .i, .b, .i, .l, .l], []⟩,
  [0, 1, 2, 3, 4, 5, 6, 7, 8, 9, 10],
  [(.ret, ⟨⟨[.int .i64 (.var 0)],
    [.row [.int .i64 (.var 1), .int .i64 (.var 2), .str (.var 3), .asl (.var 4) 3 1 (.lit (.i 0)) (.var 5), .asl (.var 6) 4 1 (.lit (.i 0)) (.var 7)] 57, .dead, .dead, .arr (.one .bool) (.var 8), .arr (.one (.int .u8)) (.var 9)]⟩,
    [.fixed, .mobile, .mobile, .mobile, .mobile], [.i, .i, .i, .s, .b, .i, .b, .i, .l, .l], [none, some 2, some 3, none, none, none, none, none, none, none]⟩)]⟩
/-- One round of RTake. -/
def stepRTake (f12 f15 f14 f17 f18 f20 : D → D) (v0 : Int) (v1 : List UInt8) (v2 : Int) (v3 : Int) (v4 : List UInt8) (v5 : Bool) (v6 : Int) (v7 : Bool) (v8 : Int) (v9 : List D) (v10 : List D) : Option (Nat × List D) :=
  let x0 : Bool := decide ((v0 : Int) < 0)
  let x1 : Bool := decide ((v0 : Int) > 1099511627776)
  let x2 : Bool := if x0 then true else x1
  let x3 : Int := ((v4).length : Int)
  let x4 : Int := w64 (v3 + x3)
  let x5 : Int := w64 (v2 - x3)
  let x6 : List D := (D.ls v10) :: ([] : List D)
  let x7 : List D := (D.ls v9) :: x6
  let x8 : List D := (D.i v8) :: x7
  let x9 : List D := (D.b v7) :: x8
  let x10 : List D := (D.i v6) :: x9
  let x11 : List D := (D.b v5) :: x10
  let x12 : List D := (D.s v4) :: x11
  let x13 : List D := (D.i v3) :: x12
  let x14 : List D := (D.i v2) :: x13
  let x15 : List D := (D.i 0) :: x14
  let x16 : List D := (D.i x5) :: x15
  let x17 : List D := (D.i x4) :: x16
  let x18 : List D := (D.s v1) :: x17
  let x19 : List D := (D.i v0) :: x18
  let x20 : D := f12 (D.ls x19)
  let x21 : Bool := (D.toB x20)
  let x22 : Bool := if x2 then true else x21
  let x23 : D := f14 (D.ls x19)
  let x24 : List D := (D.toL x23)
  let x25 : D := (x24).getD 7 (D.i 0)
  let x26 : List D := (D.toL x25)
  let x27 : D := (x24).getD 8 (D.i 0)
  let x28 : List D := (D.toL x27)
  let x29 : List D := (D.ls x28) :: ([] : List D)
  let x30 : List D := (D.ls x26) :: x29
  let x31 : List D := (D.i v8) :: x30
  let x32 : List D := (D.b v7) :: x31
  let x33 : List D := (D.i v6) :: x32
  let x34 : List D := (D.b v5) :: x33
  let x35 : List D := (D.s v4) :: x34
  let x36 : List D := (D.i v3) :: x35
  let x37 : List D := (D.i v2) :: x36
  let x38 : List D := (D.i 0) :: x37
  let x39 : D := f15 (D.ls x38)
  let x40 : Bool := (D.toB x39)
  let x41 : Bool := if x2 then true else x40
  let x42 : D := f17 (D.ls x38)
  let x43 : List D := (D.toL x42)
  let x44 : D := (x43).getD 0 (D.i 0)
  let x45 : Bool := decide (((D.toI x44) : Int) ≥ 0)
  let x46 : Bool := decide (((D.toI x44) : Int) ≤ v8)
  let x47 : Bool := if x45 then x46 else false
  let x48 : Bool := if x2 then true else x47
  let x49 : Int := (D.toI x44)
  let x50 : Int := ((x28).length : Int)
  let x51 : Bool := decide ((x49 : Int) ≤ x50)
  let x52 : Bool := if x2 then true else x51
  let x53 : List D := ((x28).drop (Int.toNat 0)).take (Int.toNat x49 - Int.toNat 0)
  let x54 : List UInt8 := strOfL x53
  let x55 : Int := ((x54).length : Int)
  let x56 : Int := (x3 : Int) + x55
  let x57 : Bool := decide ((x56 : Int) ≤ 9223372036854775807)
  let x58 : Bool := if x2 then true else x57
  let x59 : Bool := decide ((v2 : Int) ≥ 0)
  let x60 : Bool := decide ((v2 : Int) ≤ 1099511627776)
  let x61 : Bool := if x59 then x60 else false
  let x62 : Bool := if x2 then true else x61
  let x63 : List UInt8 := v4 ++ x54
  let x64 : List D := List.replicate (Int.toNat v2) (D.b false)
  let x65 : List D := List.replicate (Int.toNat v2) (D.i 0)
  let x66 : List D := (D.ls x65) :: x30
  let x67 : List D := (D.ls x64) :: x66
  let x68 : List D := (D.i v8) :: x67
  let x69 : List D := (D.b v7) :: x68
  let x70 : List D := (D.i v6) :: x69
  let x71 : List D := (D.b v5) :: x70
  let x72 : List D := (D.s x63) :: x71
  let x73 : List D := (D.i v3) :: x72
  let x74 : List D := (D.i v2) :: x73
  let x75 : List D := (D.i x49) :: x74
  let x76 : List D := (D.i v2) :: x75
  let x77 : List D := (D.b true) :: x76
  let x78 : List D := (D.i v2) :: x77
  let x79 : List D := (D.b true) :: x78
  let x80 : List D := (D.i x49) :: x79
  let x81 : D := f18 (D.ls x80)
  let x82 : Bool := (D.toB x81)
  let x83 : Bool := if x2 then true else x82
  let x84 : D := f20 (D.ls x80)
  let x85 : List D := (D.toL x84)
  let x86 : D := (x85).getD 12 (D.i 0)
  let x87 : List D := (D.toL x86)
  let x88 : D := (x85).getD 13 (D.i 0)
  let x89 : List D := (D.toL x88)
  (if x22 then (if x41 then (if x48 then (if x52 then (if x58 then (if x62 then (if x62 then (if x83 then (if x2 then (some (1, [.i 0, .i v2, .i v3, .s v4, .b v5, .i v6, .b v7, .i v8, .ls v9, .ls v10])) else (some (1, [.i x49, .i v2, .i v3, .s x63, .b true, .i v2, .b true, .i v2, .ls x87, .ls x89]))) else none) else none) else none) else none) else none) else none) else none) else none)
set_option maxRecDepth 100000 in
theorem stepRTake_eq (F : Nat → D → D) (v0 : Int) (v1 : List UInt8) (v2 : Int) (v3 : Int) (v4 : List UInt8) (v5 : Bool) (v6 : Int) (v7 : Bool) (v8 : Int) (v9 : List D) (v10 : List D) : stepV F (stepC Try.prog z10 33 1000 conRTake) [.i v0, .s v1, .i v2, .i v3, .s v4, .b v5, .i v6, .b v7, .i v8, .ls v9, .ls v10] = stepRTake (F 12) (F 15) (F 14) (F 17) (F 18) (F 20) v0 v1 v2 v3 v4 v5 v6 v7 v8 v9 v10 := by kernel_rfl
noncomputable def spRTake : List D → Option (Nat × List D)
  | [.i v0, .s v1, .i v2, .i v3, .s v4, .b v5, .i v6, .b v7, .i v8, .ls v9, .ls v10] => stepRTake (F10 12) (F10 15) (F10 14) (F10 17) (F10 18) (F10 20) v0 v1 v2 v3 v4 v5 v6 v7 v8 v9 v10
  | _ => none
noncomputable def F11 : Nat → D → D := updF F10 30 fun d => spRTake d.toL
theorem wfRTake : conRTake.wf = true := by kernel_rfl
def z11 : Ext := z10.addCall 33 conRTake
def conRead : Con := ⟨33, ⟨⟨[.ptr 0 0, .int .i64 (.var 0)],
    [.row [.ptr 1 0, .hnd 2, .int .i64 (.var 1)] 69, .row [.int .i64 (.var 2), .int .i64 (.var 3), .int .i64 (.var 4), .asl (.var 5) 3 1 (.lit (.i 0)) (.var 6)] 74, .map (.var 7), .arr (.one (.int .u8)) (.var 8)]⟩,
    [.fixed, .fixed, .fixed, .fixed], [.i, .i, .i, .i, .i, .b, .i, .l, .l], []⟩,
  [0, 1, 2, 3, 4, 5, 6, 7, 8],
  [(.ret, ⟨⟨[.str (.var 0)],
    [.row [.ptr 1 0, .hnd 2, .int .i64 (.var 1)] 69, .row [.int .i64 (.var 2), .int .i64 (.var 3), .int .i64 (.var 4), .asl (.var 5) 3 1 (.lit (.i 0)) (.var 6)] 74, .map (.var 7), .arr (.one (.int .u8)) (.var 8)]⟩,
    [.fixed, .fixed, .fixed, .fixed], [.s, .i, .i, .i, .i, .b, .i, .l, .l], [none, some 1, none, none, none, none, none, some 7, none]⟩)]⟩
/-- One round of Read. -/
def stepRead (f24 f26 : D → D) (v0 : Int) (v1 : Int) (v2 : Int) (v3 : Int) (v4 : Int) (v5 : Bool) (v6 : Int) (v7 : List D) (v8 : List D) : Option (Nat × List D) :=
  let x0 : Bool := decide ((v0 : Int) ≤ 0)
  let x1 : Bool := decide ((0 : Int) ≥ v4)
  let x2 : Bool := if x0 then true else x1
  let x3 : Int := w64 (v4 - 0)
  let x4 : Int := zmin v0 x3
  let x5 : Bool := decide ((x4 : Int) ≥ 0)
  let x6 : Bool := decide ((x4 : Int) ≤ 1099511627776)
  let x7 : Bool := if x5 then x6 else false
  let x8 : Bool := if x2 then true else x7
  let x9 : List D := List.replicate (Int.toNat x4) (D.i 0)
  let x10 : List D := (D.ls v8) :: ([] : List D)
  let x11 : List D := (D.ls x9) :: x10
  let x12 : List D := (D.i v6) :: x11
  let x13 : List D := (D.b v5) :: x12
  let x14 : List D := (D.i v4) :: x13
  let x15 : List D := (D.i v3) :: x14
  let x16 : List D := (D.i v2) :: x15
  let x17 : List D := (D.i 0) :: x16
  let x18 : List D := (D.i x4) :: x17
  let x19 : List D := (D.i x4) :: x18
  let x20 : List D := (D.b true) :: x19
  let x21 : List D := (D.i 0) :: x20
  let x22 : D := f24 (D.ls x21)
  let x23 : Bool := (D.toB x22)
  let x24 : Bool := if x2 then true else x23
  let x25 : Int := zmax v0 0
  let x26 : Int := zmin x25 v4
  let x27 : Bool := (x26 : Int) == 0
  let x28 : Bool := (v2 : Int) != 0
  let x29 : Bool := if x27 then true else x28
  let x30 : Bool := if x2 then x29 else true
  let x31 : Bool := if x2 then true else x29
  let x32 : D := f26 (D.ls x21)
  let x33 : List D := (D.toL x32)
  let x34 : D := (x33).getD 2 (D.i 0)
  let x35 : Int := (((D.toL x34)).length : Int)
  let x36 : Bool := decide ((x4 : Int) ≤ x35)
  let x37 : Bool := if x2 then true else x36
  let x38 : List D := (((D.toL x34)).drop (Int.toNat 0)).take (Int.toNat x4 - Int.toNat 0)
  let x39 : List UInt8 := strOfL x38
  let x40 : List UInt8 := if x2 then ([] : List UInt8) else x39
  let x41 : Int := if x2 then v2 else v2
  let x42 : Int := w64 (v3 + x26)
  let x43 : Int := Int.tmod x42 v2
  let x44 : Int := if x27 then v3 else x43
  let x45 : Int := if x2 then x44 else x44
  let x46 : Int := w64 (v4 - x26)
  let x47 : Int := if x27 then v4 else x46
  let x48 : Int := if x2 then x47 else x47
  let x49 : Bool := if x2 then v5 else v5
  let x50 : Int := if x2 then v6 else v6
  let x51 : List D := if x2 then v8 else v8
  (if x8 then (if x24 then (if x30 then (if x31 then (if x37 then (some (1, [.s x40, .i v1, .i x41, .i x45, .i x48, .b x49, .i x50, .ls v7, .ls x51])) else none) else none) else none) else none) else none)
set_option maxRecDepth 100000 in
theorem stepRead_eq (F : Nat → D → D) (v0 : Int) (v1 : Int) (v2 : Int) (v3 : Int) (v4 : Int) (v5 : Bool) (v6 : Int) (v7 : List D) (v8 : List D) : stepV F (stepC Try.prog z11 30 1000 conRead) [.i v0, .i v1, .i v2, .i v3, .i v4, .b v5, .i v6, .ls v7, .ls v8] = stepRead (F 24) (F 26) v0 v1 v2 v3 v4 v5 v6 v7 v8 := by kernel_rfl
noncomputable def spRead : List D → Option (Nat × List D)
  | [.i v0, .i v1, .i v2, .i v3, .i v4, .b v5, .i v6, .ls v7, .ls v8] => stepRead (F11 24) (F11 26) v0 v1 v2 v3 v4 v5 v6 v7 v8
  | _ => none
noncomputable def F12 : Nat → D → D := updF F11 33 fun d => spRead d.toL
theorem wfRead : conRead.wf = true := by kernel_rfl
def z12 : Ext := z11.addCall 30 conRead
def conRRead : Con := ⟨36, ⟨⟨[.ptr 0 0, .int .i64 (.var 0)],
    [.row [.int .i64 (.var 1), .int .i64 (.var 2), .str (.var 3), .asl (.var 4) 1 1 (.lit (.i 0)) (.var 5), .asl (.var 6) 2 1 (.lit (.i 0)) (.var 7)] 57, .arr (.one .bool) (.var 8), .arr (.one (.int .u8)) (.var 9)]⟩,
    [.fixed, .fixed, .fixed], [.i, .i, .i, .s, .b, .i, .b, .i, .l, .l], []⟩,
  [0, 1, 2, 3, 4, 5, 6, 7, 8, 9],
  [(.ret, ⟨⟨[.str (.var 0)],
    [.row [.int .i64 (.var 1), .int .i64 (.var 2), .str (.var 3), .asl (.var 4) 1 1 (.lit (.i 0)) (.var 5), .asl (.var 6) 2 1 (.lit (.i 0)) (.var 7)] 57, .arr (.one .bool) (.var 8), .arr (.one (.int .u8)) (.var 9)]⟩,
    [.fixed, .fixed, .fixed], [.s, .i, .i, .s, .b, .i, .b, .i, .l, .l], [none, some 1, none, none, some 4, some 5, some 6, some 7, some 8, some 9]⟩)]⟩
/-- One round of RRead. -/
def stepRRead (v0 : Int) (v1 : Int) (v2 : Int) (v3 : List UInt8) (v4 : Bool) (v5 : Int) (v6 : Bool) (v7 : Int) (v8 : List D) (v9 : List D) : Option (Nat × List D) :=
  let x0 : Bool := decide ((v0 : Int) < 0)
  let x1 : Int := if x0 then 0 else v0
  let x2 : Int := ((v3).length : Int)
  let x3 : Bool := decide ((x1 : Int) > x2)
  let x4 : Int := if x3 then x2 else x1
  let x5 : Bool := decide ((x4 : Int) ≥ 0)
  let x6 : Bool := decide ((x4 : Int) ≤ x2)
  let x7 : Bool := decide ((0 : Int) ≤ x4)
  let x8 : Bool := if x6 then x7 else false
  let x9 : Bool := if x5 then x8 else false
  let x10 : Bool := decide ((x2 : Int) ≥ 0)
  let x11 : Bool := decide ((x2 : Int) ≤ x2)
  let x12 : Bool := if x5 then x6 else false
  let x13 : Bool := if x11 then x12 else false
  let x14 : Bool := if x10 then x13 else false
  let x15 : List UInt8 := ((v3).drop (Int.toNat 0)).take (Int.toNat x4 - Int.toNat 0)
  let x16 : Int := w64 (v2 + x4)
  let x17 : List UInt8 := ((v3).drop (Int.toNat x4)).take (Int.toNat x2 - Int.toNat x4)
  (if x9 then (if x14 then (some (1, [.s x15, .i v1, .i x16, .s x17, .b v4, .i v5, .b v6, .i v7, .ls v8, .ls v9])) else none) else none)
set_option maxRecDepth 100000 in
theorem stepRRead_eq (F : Nat → D → D) (v0 : Int) (v1 : Int) (v2 : Int) (v3 : List UInt8) (v4 : Bool) (v5 : Int) (v6 : Bool) (v7 : Int) (v8 : List D) (v9 : List D) : stepV F (stepC Try.prog z12 31 1000 conRRead) [.i v0, .i v1, .i v2, .s v3, .b v4, .i v5, .b v6, .i v7, .ls v8, .ls v9] = stepRRead v0 v1 v2 v3 v4 v5 v6 v7 v8 v9 := by kernel_rfl
noncomputable def spRRead : List D → Option (Nat × List D)
  | [.i v0, .i v1, .i v2, .s v3, .b v4, .i v5, .b v6, .i v7, .ls v8, .ls v9] => stepRRead v0 v1 v2 v3 v4 v5 v6 v7 v8 v9
  | _ => none
noncomputable def F13 : Nat → D → D := updF F12 36 fun d => spRRead d.toL
theorem wfRRead : conRRead.wf = true := by kernel_rfl
def z13 : Ext := z12.addCall 31 conRRead
def conMain : Con := ⟨39, ⟨⟨[.top, .rsl (.row [.bool, (.int .i64), .str]) (.var 0), .top, .top, .top, .bool (.lit (.b true)), .ptr 0 0, .ptr 1 0, .int .i64 (.var 1), .top, .top, .top, .top, .top, .top, .top, .top, .top, .top, .top, .top, .top, .top, .top, .top, .top, .top, .top, .top, .top, .top, .top, .top, .top, .top, .top, .top, .top, .top, .top, .top, .top, .top, .top, .top, .top, .top, .top, .top, .top, .top, .top, .top, .top, .top, .top, .top, .top, .top, .top, .top, .top, .top, .top, .top, .top, .top, .top, .top, .top, .top, .top, .top, .top, .top, .top, .top, .top, .top, .top, .top],
    [.row [.ptr 2 0, .hnd 3, .int .i64 (.var 2)] 69, .row [.int .i64 (.var 3), .int .i64 (.var 4), .str (.var 5), .asl (.var 6) 4 1 (.lit (.i 0)) (.var 7), .asl (.var 8) 5 1 (.lit (.i 0)) (.var 9)] 57, .row [.int .i64 (.var 10), .int .i64 (.var 11), .int .i64 (.var 12), .asl (.var 13) 6 1 (.lit (.i 0)) (.var 14)] 74, .map (.var 15), .arr (.one .bool) (.var 16), .arr (.one (.int .u8)) (.var 17), .arr (.one (.int .u8)) (.var 18)]⟩,
    [.fixed, .fixed, .fixed, .fixed, .mobile, .mobile, .mobile], [.l, .i, .i, .i, .i, .s, .b, .i, .b, .i, .i, .i, .i, .b, .i, .l, .l, .l, .l], []⟩,
  [0, 3],
  [(.ret, ⟨⟨[.top, .top, .top, .top, .bool (.lit (.b false)), .top, .top, .top, .top, .top, .top, .top, .top, .top, .top, .top, .top, .top, .top, .top, .top, .top, .top, .top, .top, .top, .top, .top, .top, .top, .top, .top, .top, .top, .top, .top, .top, .top, .top, .top, .top, .top, .top, .top, .top, .top, .top, .top, .top, .top, .top, .top, .top, .top, .top, .top, .top, .top, .top, .top, .top, .top, .top, .top, .top, .top, .top, .top, .top, .top, .top, .top, .top, .top, .top, .top, .top, .top, .top, .top, .top],
    [.row [.ptr 2 0, .hnd 3, .int .i64 (.var 0)] 69, .row [.int .i64 (.var 1), .int .i64 (.var 2), .str (.var 3), .asl (.var 4) 7 1 (.lit (.i 0)) (.var 5), .asl (.var 6) 8 1 (.lit (.i 0)) (.var 7)] 57, .row [.int .i64 (.var 8), .int .i64 (.var 9), .int .i64 (.var 10), .asl (.var 11) 9 1 (.lit (.i 0)) (.var 12)] 74, .map (.var 13), .dead, .dead, .dead, .arr (.one .bool) (.var 14), .arr (.one (.int .u8)) (.var 15), .arr (.one (.int .u8)) (.var 16)]⟩,
    [.fixed, .fixed, .fixed, .fixed, .mobile, .mobile, .mobile, .mobile, .mobile, .mobile], [.i, .i, .i, .s, .b, .i, .b, .i, .i, .i, .i, .b, .i, .l, .l, .l, .l], [none, some 3, none, none, none, none, none, none, none, none, none, none, none, none, none, none, none]⟩),
  (.exit 0, ⟨⟨[.top, .top, .top, .top, .top, .bool (.lit (.b true)), .top, .top, .top, .top, .top, .top, .top, .top, .top, .top, .top, .top, .top, .top, .top, .top, .top, .top, .top, .top, .top, .top, .top, .top, .top, .top, .top, .top, .top, .top, .top, .top, .top, .top, .top, .top, .top, .top, .top, .top, .top, .top, .top, .top, .top, .top, .top, .top, .top, .top, .top, .top, .top, .top, .top, .top, .top, .top, .top, .top, .top, .top, .top, .top, .top, .top, .top, .top, .top, .top, .top, .top, .top, .top, .top],
    [.row [.ptr 2 0, .hnd 3, .int .i64 (.var 0)] 69, .row [.int .i64 (.var 1), .int .i64 (.var 2), .str (.var 3), .asl (.var 4) 4 1 (.lit (.i 0)) (.var 5), .asl (.var 6) 5 1 (.lit (.i 0)) (.var 7)] 57, .row [.int .i64 (.var 8), .int .i64 (.var 9), .int .i64 (.var 10), .asl (.var 11) 6 1 (.lit (.i 0)) (.var 12)] 74, .map (.var 13), .arr (.one .bool) (.var 14), .arr (.one (.int .u8)) (.var 15), .arr (.one (.int .u8)) (.var 16)]⟩,
    [.fixed, .fixed, .fixed, .fixed, .mobile, .mobile, .mobile], [.i, .i, .i, .s, .b, .i, .b, .i, .i, .i, .i, .b, .i, .l, .l, .l, .l], [none, some 3, none, none, none, none, none, none, none, none, none, none, none, none, none, none, none]⟩)]⟩
/-- One round of Main. -/
def stepMain (f33 f36 f35 f38 f21 f23 f27 f30 f29 f32 : D → D) (v0 : List D) (v1 : Int) (v2 : Int) (v3 : Int) (v4 : Int) (v5 : List UInt8) (v6 : Bool) (v7 : Int) (v8 : Bool) (v9 : Int) (v10 : Int) (v11 : Int) (v12 : Int) (v13 : Bool) (v14 : Int) (v15 : List D) (v16 : List D) (v17 : List D) (v18 : List D) : Option (Nat × List D) :=
  let x0 : Int := ((v0).length : Int)
  let x1 : Bool := decide ((v1 : Int) < x0)
  let x2 : Bool := decide ((v1 : Int) ≥ 0)
  let x3 : Bool := if x2 then x1 else false
  let x4 : D := (v0).getD (Int.toNat v1) (D.i 0)
  let x5 : D := ((D.toL x4)).getD 0 (D.i 0)
  let x6 : Bool := (D.toB x5)
  let x7 : D := ((D.toL x4)).getD 1 (D.i 0)
  let x8 : Int := (D.toI x7)
  let x9 : List D := (D.ls v18) :: ([] : List D)
  let x10 : List D := (D.ls v15) :: x9
  let x11 : List D := (D.i v14) :: x10
  let x12 : List D := (D.b v13) :: x11
  let x13 : List D := (D.i v12) :: x12
  let x14 : List D := (D.i v11) :: x13
  let x15 : List D := (D.i v10) :: x14
  let x16 : List D := (D.i v2) :: x15
  let x17 : List D := (D.i x8) :: x16
  let x18 : D := f33 (D.ls x17)
  let x19 : Bool := (D.toB x18)
  let x20 : Bool := if x6 then x19 else true
  let x21 : List D := (D.ls v17) :: ([] : List D)
  let x22 : List D := (D.ls v16) :: x21
  let x23 : List D := (D.i v9) :: x22
  let x24 : List D := (D.b v8) :: x23
  let x25 : List D := (D.i v7) :: x24
  let x26 : List D := (D.b v6) :: x25
  let x27 : List D := (D.s v5) :: x26
  let x28 : List D := (D.i v4) :: x27
  let x29 : List D := (D.i v3) :: x28
  let x30 : List D := (D.i x8) :: x29
  let x31 : D := f36 (D.ls x30)
  let x32 : Bool := (D.toB x31)
  let x33 : Bool := if x6 then x32 else true
  let x34 : D := f35 (D.ls x17)
  let x35 : List D := (D.toL x34)
  let x36 : D := (x35).getD 0 (D.i 0)
  let x37 : D := f38 (D.ls x30)
  let x38 : List D := (D.toL x37)
  let x39 : D := (x38).getD 0 (D.i 0)
  let x40 : Bool := ((D.toS x36) : List UInt8) == (D.toS x39)
  let x41 : Bool := !x40
  let x42 : D := (x38).getD 2 (D.i 0)
  let x43 : Int := (D.toI x42)
  let x44 : D := (x38).getD 3 (D.i 0)
  let x45 : List UInt8 := (D.toS x44)
  let x46 : D := (x35).getD 2 (D.i 0)
  let x47 : Int := (D.toI x46)
  let x48 : D := (x35).getD 3 (D.i 0)
  let x49 : Int := (D.toI x48)
  let x50 : D := (x35).getD 4 (D.i 0)
  let x51 : Int := (D.toI x50)
  let x52 : D := (x35).getD 5 (D.i 0)
  let x53 : Bool := (D.toB x52)
  let x54 : D := (x35).getD 6 (D.i 0)
  let x55 : Int := (D.toI x54)
  let x56 : D := (x35).getD 8 (D.i 0)
  let x57 : List D := (D.toL x56)
  let x58 : Int := (((D.toS x44)).length : Int)
  let x59 : Int := w64 ((D.toI x42) + x58)
  let x60 : Bool := (v2 : Int) != x59
  let x61 : Bool := ((D.toI x50) : Int) != x58
  let x62 : Int := w64 ((D.toI x46) - (D.toI x50))
  let x63 : Int := w64 (v3 - x58)
  let x64 : Bool := (x62 : Int) != x63
  let x65 : List D := (D.s x45) :: x26
  let x66 : List D := (D.i x43) :: x65
  let x67 : List D := (D.i v3) :: x66
  let x68 : List D := (D.i 0) :: x67
  let x69 : List D := (D.i 0) :: x68
  let x70 : D := f21 (D.ls x69)
  let x71 : Bool := (D.toB x70)
  let x72 : Bool := if x64 then true else x71
  let x73 : Bool := if x61 then true else x72
  let x74 : Bool := if x60 then true else x73
  let x75 : Int := ((v15).length : Int)
  let x76 : D := f23 (D.ls x69)
  let x77 : List D := (D.toL x76)
  let x78 : D := (x77).getD 0 (D.i 0)
  let x79 : Bool := (x75 : Int) != (D.toI x78)
  let x80 : Bool := if x64 then true else x79
  let x81 : Bool := if x61 then true else x80
  let x82 : Bool := if x60 then true else x81
  let x83 : Int := if x64 then (D.toI x42) else x43
  let x84 : Int := if x61 then (D.toI x42) else x83
  let x85 : Int := if x60 then (D.toI x42) else x84
  let x86 : List UInt8 := if x64 then (D.toS x44) else x45
  let x87 : List UInt8 := if x61 then (D.toS x44) else x86
  let x88 : List UInt8 := if x60 then (D.toS x44) else x87
  let x89 : Int := w64 (v1 + 1)
  let x90 : D := ((D.toL x4)).getD 2 (D.i 0)
  let x91 : List UInt8 := (D.toS x90)
  let x92 : List D := (D.s x91) :: x16
  let x93 : List D := (D.i x8) :: x92
  let x94 : D := f27 (D.ls x93)
  let x95 : Bool := (D.toB x94)
  let x96 : List D := (D.s x91) :: x29
  let x97 : List D := (D.i x8) :: x96
  let x98 : D := f30 (D.ls x97)
  let x99 : Bool := (D.toB x98)
  let x100 : D := f29 (D.ls x93)
  let x101 : List D := (D.toL x100)
  let x102 : D := (x101).getD 0 (D.i 0)
  let x103 : D := f32 (D.ls x97)
  let x104 : List D := (D.toL x103)
  let x105 : D := (x104).getD 0 (D.i 0)
  let x106 : Bool := ((D.toI x102) : Int) != (D.toI x105)
  let x107 : D := (x101).getD 1 (D.i 0)
  let x108 : Int := (D.toI x107)
  let x109 : D := (x104).getD 3 (D.i 0)
  let x110 : List UInt8 := (D.toS x109)
  let x111 : D := (x104).getD 4 (D.i 0)
  let x112 : Bool := (D.toB x111)
  let x113 : D := (x104).getD 5 (D.i 0)
  let x114 : Int := (D.toI x113)
  let x115 : D := (x104).getD 6 (D.i 0)
  let x116 : Bool := (D.toB x115)
  let x117 : D := (x104).getD 7 (D.i 0)
  let x118 : Int := (D.toI x117)
  let x119 : D := (x101).getD 4 (D.i 0)
  let x120 : Int := (D.toI x119)
  let x121 : D := (x101).getD 5 (D.i 0)
  let x122 : Bool := (D.toB x121)
  let x123 : D := (x101).getD 6 (D.i 0)
  let x124 : Int := (D.toI x123)
  let x125 : D := (x101).getD 7 (D.i 0)
  let x126 : List D := (D.toL x125)
  let x127 : D := (x104).getD 8 (D.i 0)
  let x128 : List D := (D.toL x127)
  let x129 : D := (x104).getD 9 (D.i 0)
  let x130 : List D := (D.toL x129)
  let x131 : D := (x101).getD 8 (D.i 0)
  let x132 : List D := (D.toL x131)
  let x133 : Int := (((D.toS x109)).length : Int)
  let x134 : Int := w64 (v4 + x133)
  let x135 : Bool := ((D.toI x107) : Int) != x134
  let x136 : Bool := ((D.toI x119) : Int) != x133
  let x137 : Int := w64 (v10 - (D.toI x119))
  let x138 : Int := w64 (v3 - x133)
  let x139 : Bool := (x137 : Int) != x138
  let x140 : List D := (D.ls x130) :: ([] : List D)
  let x141 : List D := (D.ls x128) :: x140
  let x142 : List D := (D.i x118) :: x141
  let x143 : List D := (D.b x116) :: x142
  let x144 : List D := (D.i x114) :: x143
  let x145 : List D := (D.b x112) :: x144
  let x146 : List D := (D.s x110) :: x145
  let x147 : List D := (D.i v4) :: x146
  let x148 : List D := (D.i v3) :: x147
  let x149 : List D := (D.i 0) :: x148
  let x150 : List D := (D.i 0) :: x149
  let x151 : D := f21 (D.ls x150)
  let x152 : Bool := (D.toB x151)
  let x153 : Bool := if x139 then true else x152
  let x154 : Bool := if x136 then true else x153
  let x155 : Bool := if x135 then true else x154
  let x156 : Int := (((D.toL x125)).length : Int)
  let x157 : D := f23 (D.ls x150)
  let x158 : List D := (D.toL x157)
  let x159 : D := (x158).getD 0 (D.i 0)
  let x160 : Bool := (x156 : Int) != (D.toI x159)
  let x161 : Bool := if x139 then true else x160
  let x162 : Bool := if x136 then true else x161
  let x163 : Bool := if x135 then true else x162
  let x164 : List UInt8 := if x139 then (D.toS x109) else x110
  let x165 : List UInt8 := if x136 then (D.toS x109) else x164
  let x166 : List UInt8 := if x135 then (D.toS x109) else x165
  let x167 : Bool := if x139 then (D.toB x111) else x112
  let x168 : Bool := if x136 then (D.toB x111) else x167
  let x169 : Bool := if x135 then (D.toB x111) else x168
  let x170 : Int := if x139 then (D.toI x113) else x114
  let x171 : Int := if x136 then (D.toI x113) else x170
  let x172 : Int := if x135 then (D.toI x113) else x171
  let x173 : Bool := if x139 then (D.toB x115) else x116
  let x174 : Bool := if x136 then (D.toB x115) else x173
  let x175 : Bool := if x135 then (D.toB x115) else x174
  let x176 : Int := if x139 then (D.toI x117) else x118
  let x177 : Int := if x136 then (D.toI x117) else x176
  let x178 : Int := if x135 then (D.toI x117) else x177
  let x179 : List D := if x139 then (D.toL x127) else x128
  let x180 : List D := if x136 then (D.toL x127) else x179
  let x181 : List D := if x135 then (D.toL x127) else x180
  let x182 : List D := if x139 then (D.toL x129) else x130
  let x183 : List D := if x136 then (D.toL x129) else x182
  let x184 : List D := if x135 then (D.toL x129) else x183
  (if x1 then (if x3 then (if x20 then (if x33 then (if x6 then (if x41 then (some (1, [.i v2, .i v3, .i x43, .s x45, .b v6, .i v7, .b v8, .i v9, .i x47, .i x49, .i x51, .b x53, .i x55, .ls v15, .ls v16, .ls v17, .ls x57])) else (if x74 then (if x82 then (some (1, [.i v2, .i v3, .i x85, .s x88, .b v6, .i v7, .b v8, .i v9, .i x47, .i x49, .i x51, .b x53, .i x55, .ls v15, .ls v16, .ls v17, .ls x57])) else (some (0, [.ls v0, .i x89, .i v2, .i v3, .i x85, .s x88, .b v6, .i v7, .b v8, .i v9, .i x47, .i x49, .i x51, .b x53, .i x55, .ls v15, .ls v16, .ls v17, .ls x57]))) else none)) else (if x95 then (if x99 then (if x106 then (some (1, [.i x108, .i v3, .i v4, .s x110, .b x112, .i x114, .b x116, .i x118, .i v10, .i v11, .i x120, .b x122, .i x124, .ls x126, .ls x128, .ls x130, .ls x132])) else (if x155 then (if x163 then (some (1, [.i x108, .i v3, .i v4, .s x166, .b x169, .i x172, .b x175, .i x178, .i v10, .i v11, .i x120, .b x122, .i x124, .ls x126, .ls x181, .ls x184, .ls x132])) else (some (0, [.ls v0, .i x89, .i x108, .i v3, .i v4, .s x166, .b x169, .i x172, .b x175, .i x178, .i v10, .i v11, .i x120, .b x122, .i x124, .ls x126, .ls x181, .ls x184, .ls x132]))) else none)) else none) else none)) else none) else none) else none) else (some (2, [.i v2, .i v3, .i v4, .s v5, .b v6, .i v7, .b v8, .i v9, .i v10, .i v11, .i v12, .b v13, .i v14, .ls v15, .ls v16, .ls v17, .ls v18])))
set_option maxRecDepth 100000 in
theorem stepMain_eq (F : Nat → D → D) (v0 : List D) (v1 : Int) (v2 : Int) (v3 : Int) (v4 : Int) (v5 : List UInt8) (v6 : Bool) (v7 : Int) (v8 : Bool) (v9 : Int) (v10 : Int) (v11 : Int) (v12 : Int) (v13 : Bool) (v14 : Int) (v15 : List D) (v16 : List D) (v17 : List D) (v18 : List D) : stepV F (stepL Try.prog z13 6 1000 506 (loopAt Try.prog 6 506) conMain) [.ls v0, .i v1, .i v2, .i v3, .i v4, .s v5, .b v6, .i v7, .b v8, .i v9, .i v10, .i v11, .i v12, .b v13, .i v14, .ls v15, .ls v16, .ls v17, .ls v18] = stepMain (F 33) (F 36) (F 35) (F 38) (F 21) (F 23) (F 27) (F 30) (F 29) (F 32) v0 v1 v2 v3 v4 v5 v6 v7 v8 v9 v10 v11 v12 v13 v14 v15 v16 v17 v18 := by kernel_rfl
noncomputable def spMain : List D → Option (Nat × List D)
  | [.ls v0, .i v1, .i v2, .i v3, .i v4, .s v5, .b v6, .i v7, .b v8, .i v9, .i v10, .i v11, .i v12, .b v13, .i v14, .ls v15, .ls v16, .ls v17, .ls v18] => stepMain (F13 33) (F13 36) (F13 35) (F13 38) (F13 21) (F13 23) (F13 27) (F13 30) (F13 29) (F13 32) v0 v1 v2 v3 v4 v5 v6 v7 v8 v9 v10 v11 v12 v13 v14 v15 v16 v17 v18
  | _ => none
noncomputable def F14 : Nat → D → D := updF F13 39 fun d => loopV spMain d.toL
theorem wfMain : conMain.wf = true := by kernel_rfl
theorem loMain : loopOk Try.prog 6 506 = true := by kernel_rfl
def z14 : Ext := z13.addLoop 6 506 conMain
theorem good0 : Go.Sy.Good Try.prog Om.none F14 z0 := Good.none
theorem hsAwake : ∀ l r, spAwake l = some r → stepV F14 (stepC Try.prog z0 10 1000 conAwake) l = some r := by
  intro l r h
  unfold spAwake at h
  split at h
  · rw [stepAwake_eq]; exact h
  · cases h
theorem good1 : Go.Sy.Good Try.prog Om.none F14 z1 :=
  Good.call (n := 1000) Try.checked.mixed good0 wfAwake (specC_of (sp := spAwake) (by kernel_rfl) (by kernel_rfl) (by kernel_rfl) hsAwake)
theorem hsTakeA : ∀ l r, spTakeA l = some r → stepV F14 (stepL Try.prog z1 32 1000 122 (loopAt Try.prog 32 122) conTakeA) l = some r := by
  intro l r h
  unfold spTakeA at h
  split at h
  · rw [stepTakeA_eq]; exact h
  · cases h
theorem good2 : Go.Sy.Good Try.prog Om.none F14 z2 :=
  Good.loop (n := 1000) Try.checked.mixed good1 loTakeA wfTakeA (specL_of (sp := spTakeA) (by kernel_rfl) (by kernel_rfl) (by kernel_rfl) hsTakeA)
theorem hsPush : ∀ l r, spPush l = some r → stepV F14 (stepL Try.prog z2 47 1000 250 (loopAt Try.prog 47 250) conPush) l = some r := by
  intro l r h
  unfold spPush at h
  split at h
  · rw [stepPush_eq]; exact h
  · cases h
theorem good3 : Go.Sy.Good Try.prog Om.none F14 z3 :=
  Good.loop (n := 1000) Try.checked.mixed good2 loPush wfPush (specL_of (sp := spPush) (by kernel_rfl) (by kernel_rfl) (by kernel_rfl) hsPush)
theorem hsTakeB : ∀ l r, spTakeB l = some r → stepV F14 (stepL Try.prog z3 32 1000 252 (loopAt Try.prog 32 252) conTakeB) l = some r := by
  intro l r h
  unfold spTakeB at h
  split at h
  · rw [stepTakeB_eq, show F14 6 = F3 6 by kernel_rfl, show F14 8 = F3 8 by kernel_rfl]; exact h
  · cases h
theorem good4 : Go.Sy.Good Try.prog Om.none F14 z4 :=
  Good.loop (n := 1000) Try.checked.mixed good3 loTakeB wfTakeB (specL_of (sp := spTakeB) (by kernel_rfl) (by kernel_rfl) (by kernel_rfl) hsTakeB)
theorem hsRTakeA : ∀ l r, spRTakeA l = some r → stepV F14 (stepL Try.prog z4 33 1000 250 (loopAt Try.prog 33 250) conRTakeA) l = some r := by
  intro l r h
  unfold spRTakeA at h
  split at h
  · rw [stepRTakeA_eq]; exact h
  · cases h
theorem good5 : Go.Sy.Good Try.prog Om.none F14 z5 :=
  Good.loop (n := 1000) Try.checked.mixed good4 loRTakeA wfRTakeA (specL_of (sp := spRTakeA) (by kernel_rfl) (by kernel_rfl) (by kernel_rfl) hsRTakeA)
theorem hsRTakeB : ∀ l r, spRTakeB l = some r → stepV F14 (stepL Try.prog z5 33 1000 508 (loopAt Try.prog 33 508) conRTakeB) l = some r := by
  intro l r h
  unfold spRTakeB at h
  split at h
  · rw [stepRTakeB_eq]; exact h
  · cases h
theorem good6 : Go.Sy.Good Try.prog Om.none F14 z6 :=
  Good.loop (n := 1000) Try.checked.mixed good5 loRTakeB wfRTakeB (specL_of (sp := spRTakeB) (by kernel_rfl) (by kernel_rfl) (by kernel_rfl) hsRTakeB)
theorem hsRTakeC : ∀ l r, spRTakeC l = some r → stepV F14 (stepL Try.prog z6 33 1000 16378 (loopAt Try.prog 33 16378) conRTakeC) l = some r := by
  intro l r h
  unfold spRTakeC at h
  split at h
  · rw [stepRTakeC_eq]; exact h
  · cases h
theorem good7 : Go.Sy.Good Try.prog Om.none F14 z7 :=
  Good.loop (n := 1000) Try.checked.mixed good6 loRTakeC wfRTakeC (specL_of (sp := spRTakeC) (by kernel_rfl) (by kernel_rfl) (by kernel_rfl) hsRTakeC)
theorem hsRHeld : ∀ l r, spRHeld l = some r → stepV F14 (stepL Try.prog z7 40 1000 58 (loopAt Try.prog 40 58) conRHeld) l = some r := by
  intro l r h
  unfold spRHeld at h
  split at h
  · rw [stepRHeld_eq]; exact h
  · cases h
theorem good8 : Go.Sy.Good Try.prog Om.none F14 z8 :=
  Good.loop (n := 1000) Try.checked.mixed good7 loRHeld wfRHeld (specL_of (sp := spRHeld) (by kernel_rfl) (by kernel_rfl) (by kernel_rfl) hsRHeld)
theorem hsPeek : ∀ l r, spPeek l = some r → stepV F14 (stepL Try.prog z8 45 1000 122 (loopAt Try.prog 45 122) conPeek) l = some r := by
  intro l r h
  unfold spPeek at h
  split at h
  · rw [stepPeek_eq]; exact h
  · cases h
theorem good9 : Go.Sy.Good Try.prog Om.none F14 z9 :=
  Good.loop (n := 1000) Try.checked.mixed good8 loPeek wfPeek (specL_of (sp := spPeek) (by kernel_rfl) (by kernel_rfl) (by kernel_rfl) hsPeek)
theorem hsTake : ∀ l r, spTake l = some r → stepV F14 (stepC Try.prog z9 32 1000 conTake) l = some r := by
  intro l r h
  unfold spTake at h
  split at h
  · rw [stepTake_eq, show F14 3 = F9 3 by kernel_rfl, show F14 9 = F9 9 by kernel_rfl, show F14 5 = F9 5 by kernel_rfl, show F14 11 = F9 11 by kernel_rfl]; exact h
  · cases h
theorem good10 : Go.Sy.Good Try.prog Om.none F14 z10 :=
  Good.call (n := 1000) Try.checked.mixed good9 wfTake (specC_of (sp := spTake) (by kernel_rfl) (by kernel_rfl) (by kernel_rfl) hsTake)
theorem hsRTake : ∀ l r, spRTake l = some r → stepV F14 (stepC Try.prog z10 33 1000 conRTake) l = some r := by
  intro l r h
  unfold spRTake at h
  split at h
  · rw [stepRTake_eq, show F14 12 = F10 12 by kernel_rfl, show F14 15 = F10 15 by kernel_rfl, show F14 14 = F10 14 by kernel_rfl, show F14 17 = F10 17 by kernel_rfl, show F14 18 = F10 18 by kernel_rfl, show F14 20 = F10 20 by kernel_rfl]; exact h
  · cases h
theorem good11 : Go.Sy.Good Try.prog Om.none F14 z11 :=
  Good.call (n := 1000) Try.checked.mixed good10 wfRTake (specC_of (sp := spRTake) (by kernel_rfl) (by kernel_rfl) (by kernel_rfl) hsRTake)
theorem hsRead : ∀ l r, spRead l = some r → stepV F14 (stepC Try.prog z11 30 1000 conRead) l = some r := by
  intro l r h
  unfold spRead at h
  split at h
  · rw [stepRead_eq, show F14 24 = F11 24 by kernel_rfl, show F14 26 = F11 26 by kernel_rfl]; exact h
  · cases h
theorem good12 : Go.Sy.Good Try.prog Om.none F14 z12 :=
  Good.call (n := 1000) Try.checked.mixed good11 wfRead (specC_of (sp := spRead) (by kernel_rfl) (by kernel_rfl) (by kernel_rfl) hsRead)
theorem hsRRead : ∀ l r, spRRead l = some r → stepV F14 (stepC Try.prog z12 31 1000 conRRead) l = some r := by
  intro l r h
  unfold spRRead at h
  split at h
  · rw [stepRRead_eq]; exact h
  · cases h
theorem good13 : Go.Sy.Good Try.prog Om.none F14 z13 :=
  Good.call (n := 1000) Try.checked.mixed good12 wfRRead (specC_of (sp := spRRead) (by kernel_rfl) (by kernel_rfl) (by kernel_rfl) hsRRead)
theorem hsMain : ∀ l r, spMain l = some r → stepV F14 (stepL Try.prog z13 6 1000 506 (loopAt Try.prog 6 506) conMain) l = some r := by
  intro l r h
  unfold spMain at h
  split at h
  · rw [stepMain_eq, show F14 33 = F13 33 by kernel_rfl, show F14 36 = F13 36 by kernel_rfl, show F14 35 = F13 35 by kernel_rfl, show F14 38 = F13 38 by kernel_rfl, show F14 21 = F13 21 by kernel_rfl, show F14 23 = F13 23 by kernel_rfl, show F14 27 = F13 27 by kernel_rfl, show F14 30 = F13 30 by kernel_rfl, show F14 29 = F13 29 by kernel_rfl, show F14 32 = F13 32 by kernel_rfl]; exact h
  · cases h
theorem good14 : Go.Sy.Good Try.prog Om.none F14 z14 :=
  Good.loop (n := 1000) Try.checked.mixed good13 loMain wfMain (specL_of (sp := spMain) (by kernel_rfl) (by kernel_rfl) (by kernel_rfl) hsMain)
theorem F_0 (d : D) : F14 0 d = .b (spAwake d.toL).isSome := by kernel_rfl
theorem F_1 (d : D) : F14 1 d = .i (match spAwake d.toL with | some (j, _) => (j : Int) - 1 | none => 0) := by kernel_rfl
theorem F_2 (d : D) : F14 2 d = .ls (match spAwake d.toL with | some (_, ys) => ys | none => []) := by kernel_rfl
theorem F_3 (d : D) : F14 3 d = .b (loopV spTakeA d.toL).isSome := by kernel_rfl
theorem F_4 (d : D) : F14 4 d = .i (match loopV spTakeA d.toL with | some (j, _) => (j : Int) - 1 | none => 0) := by kernel_rfl
theorem F_5 (d : D) : F14 5 d = .ls (match loopV spTakeA d.toL with | some (_, ys) => ys | none => []) := by kernel_rfl
theorem F_6 (d : D) : F14 6 d = .b (loopV spPush d.toL).isSome := by kernel_rfl
theorem F_7 (d : D) : F14 7 d = .i (match loopV spPush d.toL with | some (j, _) => (j : Int) - 1 | none => 0) := by kernel_rfl
theorem F_8 (d : D) : F14 8 d = .ls (match loopV spPush d.toL with | some (_, ys) => ys | none => []) := by kernel_rfl
theorem F_9 (d : D) : F14 9 d = .b (loopV spTakeB d.toL).isSome := by kernel_rfl
theorem F_10 (d : D) : F14 10 d = .i (match loopV spTakeB d.toL with | some (j, _) => (j : Int) - 1 | none => 0) := by kernel_rfl
theorem F_11 (d : D) : F14 11 d = .ls (match loopV spTakeB d.toL with | some (_, ys) => ys | none => []) := by kernel_rfl
theorem F_12 (d : D) : F14 12 d = .b (loopV spRTakeA d.toL).isSome := by kernel_rfl
theorem F_13 (d : D) : F14 13 d = .i (match loopV spRTakeA d.toL with | some (j, _) => (j : Int) - 1 | none => 0) := by kernel_rfl
theorem F_14 (d : D) : F14 14 d = .ls (match loopV spRTakeA d.toL with | some (_, ys) => ys | none => []) := by kernel_rfl
theorem F_15 (d : D) : F14 15 d = .b (loopV spRTakeB d.toL).isSome := by kernel_rfl
theorem F_16 (d : D) : F14 16 d = .i (match loopV spRTakeB d.toL with | some (j, _) => (j : Int) - 1 | none => 0) := by kernel_rfl
theorem F_17 (d : D) : F14 17 d = .ls (match loopV spRTakeB d.toL with | some (_, ys) => ys | none => []) := by kernel_rfl
theorem F_18 (d : D) : F14 18 d = .b (loopV spRTakeC d.toL).isSome := by kernel_rfl
theorem F_19 (d : D) : F14 19 d = .i (match loopV spRTakeC d.toL with | some (j, _) => (j : Int) - 1 | none => 0) := by kernel_rfl
theorem F_20 (d : D) : F14 20 d = .ls (match loopV spRTakeC d.toL with | some (_, ys) => ys | none => []) := by kernel_rfl
theorem F_21 (d : D) : F14 21 d = .b (loopV spRHeld d.toL).isSome := by kernel_rfl
theorem F_22 (d : D) : F14 22 d = .i (match loopV spRHeld d.toL with | some (j, _) => (j : Int) - 1 | none => 0) := by kernel_rfl
theorem F_23 (d : D) : F14 23 d = .ls (match loopV spRHeld d.toL with | some (_, ys) => ys | none => []) := by kernel_rfl
theorem F_24 (d : D) : F14 24 d = .b (loopV spPeek d.toL).isSome := by kernel_rfl
theorem F_25 (d : D) : F14 25 d = .i (match loopV spPeek d.toL with | some (j, _) => (j : Int) - 1 | none => 0) := by kernel_rfl
theorem F_26 (d : D) : F14 26 d = .ls (match loopV spPeek d.toL with | some (_, ys) => ys | none => []) := by kernel_rfl
theorem F_27 (d : D) : F14 27 d = .b (spTake d.toL).isSome := by kernel_rfl
theorem F_28 (d : D) : F14 28 d = .i (match spTake d.toL with | some (j, _) => (j : Int) - 1 | none => 0) := by kernel_rfl
theorem F_29 (d : D) : F14 29 d = .ls (match spTake d.toL with | some (_, ys) => ys | none => []) := by kernel_rfl
theorem F_30 (d : D) : F14 30 d = .b (spRTake d.toL).isSome := by kernel_rfl
theorem F_31 (d : D) : F14 31 d = .i (match spRTake d.toL with | some (j, _) => (j : Int) - 1 | none => 0) := by kernel_rfl
theorem F_32 (d : D) : F14 32 d = .ls (match spRTake d.toL with | some (_, ys) => ys | none => []) := by kernel_rfl
theorem F_33 (d : D) : F14 33 d = .b (spRead d.toL).isSome := by kernel_rfl
theorem F_34 (d : D) : F14 34 d = .i (match spRead d.toL with | some (j, _) => (j : Int) - 1 | none => 0) := by kernel_rfl
theorem F_35 (d : D) : F14 35 d = .ls (match spRead d.toL with | some (_, ys) => ys | none => []) := by kernel_rfl
theorem F_36 (d : D) : F14 36 d = .b (spRRead d.toL).isSome := by kernel_rfl
theorem F_37 (d : D) : F14 37 d = .i (match spRRead d.toL with | some (j, _) => (j : Int) - 1 | none => 0) := by kernel_rfl
theorem F_38 (d : D) : F14 38 d = .ls (match spRRead d.toL with | some (_, ys) => ys | none => []) := by kernel_rfl
theorem F_39 (d : D) : F14 39 d = .b (loopV spMain d.toL).isSome := by kernel_rfl
theorem F_40 (d : D) : F14 40 d = .i (match loopV spMain d.toL with | some (j, _) => (j : Int) - 1 | none => 0) := by kernel_rfl
theorem F_41 (d : D) : F14 41 d = .ls (match loopV spMain d.toL with | some (_, ys) => ys | none => []) := by kernel_rfl
end Go.Proofs.Ytbbippgnmllcoaa.seqStreams
