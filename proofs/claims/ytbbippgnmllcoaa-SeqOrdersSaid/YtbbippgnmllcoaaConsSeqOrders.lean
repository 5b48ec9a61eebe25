/- Contracts of functions that SeqOrders reaches: templates, their steps, and that they are so. Written by a program of this work. -/
import Derived.Test.YtbbippgnmllcoaaSyU
import Derived.Test.YtbbippgnmllcoaaChecked
set_option linter.unusedVariables false
set_option linter.unusedSimpArgs false
namespace Go.Proofs.Ytbbippgnmllcoaa.seqOrders
open Go.Sy
def z0 : Ext := Ext.none
def F0 : Nat → D → D := fun _ d => d
def conAwake : Con := ⟨0, ⟨⟨[],
    []⟩,
    [], [], []⟩,
  [],
  [(.ret, ⟨⟨[.bool (.lit (.b true))],
    []⟩,
    [], [], []⟩)]⟩
/-- One round of Awake. -/
def stepAwake  : Option (Nat × List D) :=
  (some (1, []))
set_option maxRecDepth 100000 in
theorem stepAwake_eq (F : Nat → D → D)  : stepV F (stepC Try.prog z0 10 1000 conAwake) [] = stepAwake  := by kernel_rfl
def spAwake : List D → Option (Nat × List D)
  | [] => stepAwake 
  | _ => none
def F1 : Nat → D → D := updF F0 0 fun d => spAwake d.toL
theorem wfAwake : conAwake.wf = true := by kernel_rfl
def z1 : Ext := z0.addCall 10 conAwake
def conTakeA : Con := ⟨3, ⟨⟨[.ptr 0 0, .int .i64 (.var 0), .str (.var 1), .top, .top, .top, .top, .int .i64 (.var 2), .int .i64 (.var 3), .top, .top, .top, .top, .top, .top, .top, .top, .top, .top, .top, .top, .top, .top, .top, .top, .top, .top, .top, .top, .top, .top, .top, .top, .top, .top, .top, .top, .top, .top, .top, .top, .top, .top, .top, .top, .top, .top, .top, .top, .top, .top, .top, .top, .top, .top, .top, .top, .top, .top, .top, .top, .top, .top, .top, .top, .top, .top, .top, .top, .top, .top, .top, .top, .top, .top, .top, .top, .top, .top, .top, .top, .top, .top, .top, .top, .top, .top, .top, .top, .top, .top, .top, .top, .top, .top, .top, .top, .top, .top, .top, .top, .top, .top, .top, .top, .top, .top, .top, .top, .top, .top, .top, .top, .top, .top, .top, .top, .top, .top, .top],
    [.row [.ptr 1 0, .hnd 2, .int .i64 (.var 4)] 69, .row [.int .i64 (.var 5), .int .i64 (.var 6), .int .i64 (.var 7), .asl (.var 8) 3 1 (.lit (.i 0)) (.var 9)] 74, .map (.var 10), .arr (.one (.int .u8)) (.var 11)]⟩,
    [.fixed, .fixed, .fixed, .fixed], [.i, .s, .i, .i, .i, .i, .i, .i, .b, .i, .l, .l], []⟩,
  [0, 1, 2, 4, 5, 6, 7, 8, 9, 11],
  [(.exit 0, ⟨⟨[.ptr 0 0, .top, .top, .top, .top, .top, .top, .int .i64 (.var 0), .top, .top, .top, .top, .top, .top, .top, .top, .top, .top, .top, .top, .top, .top, .top, .top, .top, .top, .top, .top, .top, .top, .top, .top, .top, .top, .top, .top, .top, .top, .top, .top, .top, .top, .top, .top, .top, .top, .top, .top, .top, .top, .top, .top, .top, .top, .top, .top, .top, .top, .top, .top, .top, .top, .top, .top, .top, .top, .top, .top, .top, .top, .top, .top, .top, .top, .top, .top, .top, .top, .top, .top, .top, .top, .top, .top, .top, .top, .top, .top, .top, .top, .top, .top, .top, .top, .top, .top, .top, .top, .top, .top, .top, .top, .top, .top, .top, .top, .top, .top, .top, .top, .top, .top, .top, .top, .top, .top, .top, .top, .top, .top],
    [.row [.ptr 1 0, .hnd 2, .int .i64 (.var 1)] 69, .row [.int .i64 (.var 2), .int .i64 (.var 3), .int .i64 (.var 4), .asl (.var 5) 3 1 (.lit (.i 0)) (.var 6)] 74, .map (.var 7), .arr (.one (.int .u8)) (.var 8)]⟩,
    [.fixed, .fixed, .fixed, .fixed], [.i, .i, .i, .i, .i, .b, .i, .l, .l], [some 2, some 4, some 5, some 6, some 7, some 8, some 9, none, some 11]⟩)]⟩
/-- One round of TakeA. -/
def stepTakeA (v0 : Int) (v1 : List UInt8) (v2 : Int) (v3 : Int) (v4 : Int) (v5 : Int) (v6 : Int) (v7 : Int) (v8 : Bool) (v9 : Int) (v10 : List D) (v11 : List D) : Option (Nat × List D) :=
  let x0 : Int := ((v1).length : Int)
  let x1 : Int := w64 (v0 + x0)
  let x2 : Int := zmin x1 v2
  let x3 : Bool := decide ((v3 : Int) < x2)
  let x4 : Bool := (mfind v3 v10).isSome
  let x5 : Bool := !x4
  let x6 : Int := w64 (v3 - v0)
  let x7 : Bool := decide ((x6 : Int) ≥ 0)
  let x8 : Bool := decide ((x6 : Int) < x0)
  let x9 : Bool := if x7 then x8 else false
  let x10 : Bool := if x5 then x9 else true
  let x11 : Int := w64 (v3 + 1)
  let x12 : Int := (((v1).getD (Int.toNat x6) 0).toNat : Int)
  let x13 : List D := mput v3 x12 v10
  let x14 : List D := if x5 then x13 else v10
  (if x3 then (if x10 then (some (0, [.i v0, .s v1, .i v2, .i x11, .i v4, .i v5, .i v6, .i v7, .b v8, .i v9, .ls x14, .ls v11])) else none) else (some (1, [.i v2, .i v4, .i v5, .i v6, .i v7, .b v8, .i v9, .ls v10, .ls v11])))
set_option maxRecDepth 100000 in
theorem stepTakeA_eq (F : Nat → D → D) (v0 : Int) (v1 : List UInt8) (v2 : Int) (v3 : Int) (v4 : Int) (v5 : Int) (v6 : Int) (v7 : Int) (v8 : Bool) (v9 : Int) (v10 : List D) (v11 : List D) : stepV F (stepL Try.prog z1 32 1000 122 (loopAt Try.prog 32 122) conTakeA) [.i v0, .s v1, .i v2, .i v3, .i v4, .i v5, .i v6, .i v7, .b v8, .i v9, .ls v10, .ls v11] = stepTakeA v0 v1 v2 v3 v4 v5 v6 v7 v8 v9 v10 v11 := by kernel_rfl
def spTakeA : List D → Option (Nat × List D)
  | [.i v0, .s v1, .i v2, .i v3, .i v4, .i v5, .i v6, .i v7, .b v8, .i v9, .ls v10, .ls v11] => stepTakeA v0 v1 v2 v3 v4 v5 v6 v7 v8 v9 v10 v11
  | _ => none
noncomputable def F2 : Nat → D → D := updF F1 3 fun d => loopV spTakeA d.toL
theorem wfTakeA : conTakeA.wf = true := by kernel_rfl
theorem loTakeA : loopOk Try.prog 32 122 = true := by kernel_rfl
def z2 : Ext := z1.addLoop 32 122 conTakeA
def conPush : Con := ⟨6, ⟨⟨[.ptr 0 0, .top, .top, .top, .top, .int .i64 (.var 0), .top, .top, .top, .top, .top, .top, .top, .top, .top, .top, .top, .top, .top, .top, .top, .top, .top, .top, .top, .top, .top, .top, .top, .top, .asl (.var 1) 1 1 (.lit (.i 0)) (.var 2), .int .i64 (.var 3), .int .i64 (.var 4), .top, .top, .top, .top, .top, .top, .top, .top, .top, .top, .top, .top, .top, .top, .top, .top, .top, .top, .top, .top, .top, .top, .top, .top, .top, .top, .top, .top, .top, .top, .top, .top, .top, .top, .top, .top],
    [.row [.int .i64 (.var 5), .int .i64 (.var 6), .int .i64 (.var 7), .asl (.var 8) 2 1 (.lit (.i 0)) (.var 9)] 74, .arr (.one (.int .u8)) (.var 10), .arr (.one (.int .u8)) (.var 11)]⟩,
    [.fixed, .fixed, .fixed], [.i, .b, .i, .i, .i, .i, .i, .i, .b, .i, .l, .l], []⟩,
  [0, 1, 2, 3, 5, 6, 7, 8, 9, 10],
  [(.exit 0, ⟨⟨[.ptr 0 0, .top, .top, .top, .top, .int .i64 (.var 0), .top, .top, .top, .top, .top, .top, .top, .top, .top, .top, .top, .top, .top, .top, .top, .top, .top, .top, .top, .top, .top, .top, .top, .top, .top, .top, .top, .top, .top, .top, .top, .top, .top, .top, .top, .top, .top, .top, .top, .top, .top, .top, .top, .top, .top, .top, .top, .top, .top, .top, .top, .top, .top, .top, .top, .top, .top, .top, .top, .top, .top, .top, .top],
    [.row [.int .i64 (.var 1), .int .i64 (.var 2), .int .i64 (.var 3), .asl (.var 4) 2 1 (.lit (.i 0)) (.var 5)] 74, .arr (.one (.int .u8)) (.var 6), .arr (.one (.int .u8)) (.var 7)]⟩,
    [.fixed, .fixed, .fixed], [.i, .i, .i, .i, .b, .i, .l, .l], [some 0, some 5, some 6, some 7, some 8, some 9, some 10, none]⟩)]⟩
/-- One round of Push. -/
def stepPush (v0 : Int) (v1 : Bool) (v2 : Int) (v3 : Int) (v4 : Int) (v5 : Int) (v6 : Int) (v7 : Int) (v8 : Bool) (v9 : Int) (v10 : List D) (v11 : List D) : Option (Nat × List D) :=
  let x0 : Bool := decide ((v4 : Int) < v3)
  let x1 : Bool := decide ((v4 : Int) ≥ 0)
  let x2 : Bool := decide ((v4 : Int) < v2)
  let x3 : Bool := if x1 then x2 else false
  let x4 : Int := ((v10).length : Int)
  let x5 : Bool := decide ((v4 : Int) < x4)
  let x6 : Bool := (v5 : Int) != 0
  let x7 : Int := w64 (v6 + v7)
  let x8 : Int := w64 (x7 + v4)
  let x9 : Int := Int.tmod x8 v5
  let x10 : Bool := decide ((x9 : Int) ≥ 0)
  let x11 : Bool := decide ((x9 : Int) < v9)
  let x12 : Bool := if x10 then x11 else false
  let x13 : Int := ((v11).length : Int)
  let x14 : Bool := decide ((x9 : Int) < x13)
  let x15 : Int := w64 (v4 + 1)
  let x16 : D := (v10).getD (Int.toNat v4) (D.i 0)
  let x17 : Int := (D.toI x16)
  let x18 : List D := (v11).set (Int.toNat x9) (D.i x17)
  (if x0 then (if x3 then (if x5 then (if x6 then (if x12 then (if x14 then (some (0, [.i v0, .b v1, .i v2, .i v3, .i x15, .i v5, .i v6, .i v7, .b v8, .i v9, .ls v10, .ls x18])) else none) else none) else none) else none) else none) else (some (1, [.i v0, .i v5, .i v6, .i v7, .b v8, .i v9, .ls v10, .ls v11])))
set_option maxRecDepth 100000 in
theorem stepPush_eq (F : Nat → D → D) (v0 : Int) (v1 : Bool) (v2 : Int) (v3 : Int) (v4 : Int) (v5 : Int) (v6 : Int) (v7 : Int) (v8 : Bool) (v9 : Int) (v10 : List D) (v11 : List D) : stepV F (stepL Try.prog z2 47 1000 250 (loopAt Try.prog 47 250) conPush) [.i v0, .b v1, .i v2, .i v3, .i v4, .i v5, .i v6, .i v7, .b v8, .i v9, .ls v10, .ls v11] = stepPush v0 v1 v2 v3 v4 v5 v6 v7 v8 v9 v10 v11 := by kernel_rfl
noncomputable def spPush : List D → Option (Nat × List D)
  | [.i v0, .b v1, .i v2, .i v3, .i v4, .i v5, .i v6, .i v7, .b v8, .i v9, .ls v10, .ls v11] => stepPush v0 v1 v2 v3 v4 v5 v6 v7 v8 v9 v10 v11
  | _ => none
noncomputable def F3 : Nat → D → D := updF F2 6 fun d => loopV spPush d.toL
theorem wfPush : conPush.wf = true := by kernel_rfl
theorem loPush : loopOk Try.prog 47 250 = true := by kernel_rfl
def z3 : Ext := z2.addLoop 47 250 conPush
def conTakeB : Con := ⟨9, ⟨⟨[.ptr 0 0, .top, .top, .top, .top, .top, .top, .int .i64 (.var 0), .top, .top, .top, .int .i64 (.var 1), .top, .top, .top, .top, .top, .top, .top, .top, .top, .top, .top, .top, .top, .top, .top, .top, .top, .top, .top, .top, .top, .top, .top, .top, .top, .top, .top, .top, .top, .top, .top, .top, .top, .top, .top, .top, .top, .top, .top, .top, .top, .top, .top, .top, .top, .top, .top, .top, .top, .top, .top, .top, .top, .top, .top, .top, .top, .top, .top, .top, .top, .top, .top, .top, .top, .top, .top, .top, .top, .top, .top, .top, .top, .top, .top, .top, .top, .top, .top, .top, .top, .top, .top, .top, .top, .top, .top, .top, .top, .top, .top, .top, .top, .top, .top, .top, .top, .top, .top, .top, .top, .top, .top, .top, .top, .top, .top, .top],
    [.row [.ptr 1 0, .hnd 2, .int .i64 (.var 2)] 69, .row [.int .i64 (.var 3), .int .i64 (.var 4), .int .i64 (.var 5), .asl (.var 6) 3 1 (.lit (.i 0)) (.var 7)] 74, .map (.var 8), .arr (.one (.int .u8)) (.var 9)]⟩,
    [.fixed, .fixed, .fixed, .mobile], [.i, .i, .i, .i, .i, .i, .b, .i, .l, .l], []⟩,
  [0, 1, 3, 4],
  [(.exit 2, ⟨⟨[.ptr 0 0, .top, .top, .top, .top, .top, .top, .top, .top, .top, .top, .int .i64 (.var 0), .top, .top, .top, .top, .top, .top, .top, .top, .top, .top, .top, .top, .top, .top, .top, .top, .top, .top, .top, .top, .top, .top, .top, .top, .top, .top, .top, .top, .top, .top, .top, .top, .top, .top, .top, .top, .top, .top, .top, .top, .top, .top, .top, .top, .top, .top, .top, .top, .top, .top, .top, .top, .top, .top, .top, .top, .top, .top, .top, .top, .top, .top, .top, .top, .top, .top, .top, .top, .top, .top, .top, .top, .top, .top, .top, .top, .top, .top, .top, .top, .top, .top, .top, .top, .top, .top, .top, .top, .top, .top, .top, .top, .top, .top, .top, .top, .top, .top, .top, .top, .top, .top, .top, .top, .top, .top, .top, .top],
    [.row [.ptr 1 0, .hnd 2, .int .i64 (.var 1)] 69, .row [.int .i64 (.var 2), .int .i64 (.var 3), .int .i64 (.var 4), .asl (.var 5) 3 1 (.lit (.i 0)) (.var 6)] 74, .map (.var 7), .arr (.one (.int .u8)) (.var 8)]⟩,
    [.fixed, .fixed, .fixed, .mobile], [.i, .i, .i, .i, .i, .b, .i, .l, .l], [some 1, none, some 3, some 4, none, none, none, none, none]⟩)]⟩
/-- One round of TakeB. -/
def stepTakeB (f6 f8 : D → D) (v0 : Int) (v1 : Int) (v2 : Int) (v3 : Int) (v4 : Int) (v5 : Int) (v6 : Bool) (v7 : Int) (v8 : List D) (v9 : List D) : Option (Nat × List D) :=
  let x0 : Bool := decide ((v2 : Int) < v0)
  let x1 : Bool := (mfind v2 v8).isSome
  let x2 : Bool := !x1
  let x3 : Int := w64 (v3 - v5)
  let x4 : Int := zmin 1 x3
  let x5 : Bool := decide ((x4 : Int) ≤ 0)
  let x6 : Bool := !v6
  let x7 : Bool := decide ((v3 : Int) ≥ 0)
  let x8 : Bool := decide ((v3 : Int) ≤ 1099511627776)
  let x9 : Bool := if x7 then x8 else false
  let x10 : Bool := if x6 then x9 else true
  let x11 : Bool := if x5 then true else x10
  let x12 : Bool := decide ((x4 : Int) ≥ 0)
  let x13 : Bool := decide ((x4 : Int) ≤ 1)
  let x14 : Bool := if x12 then x13 else false
  let x15 : Bool := if x6 then x14 else true
  let x16 : Bool := if x5 then true else x15
  let x17 : Int := (mfind v2 v8).getD 0
  let x18 : List D := (D.i x17) :: ([] : List D)
  let x19 : List D := List.replicate (Int.toNat v3) (D.i 0)
  let x20 : List D := (D.ls x19) :: ([] : List D)
  let x21 : List D := (D.ls x18) :: x20
  let x22 : List D := (D.i v3) :: x21
  let x23 : List D := (D.b true) :: x22
  let x24 : List D := (D.i v5) :: x23
  let x25 : List D := (D.i v4) :: x24
  let x26 : List D := (D.i v3) :: x25
  let x27 : List D := (D.i 0) :: x26
  let x28 : List D := (D.i x4) :: x27
  let x29 : List D := (D.i x4) :: x28
  let x30 : List D := (D.b true) :: x29
  let x31 : List D := (D.i x4) :: x30
  let x32 : D := f6 (D.ls x31)
  let x33 : Bool := (D.toB x32)
  let x34 : Bool := if x6 then x33 else true
  let x35 : Bool := if x5 then true else x34
  let x36 : Bool := if x6 then true else x14
  let x37 : Bool := if x5 then true else x36
  let x38 : List D := (D.ls v9) :: ([] : List D)
  let x39 : List D := (D.ls x18) :: x38
  let x40 : List D := (D.i v7) :: x39
  let x41 : List D := (D.b v6) :: x40
  let x42 : List D := (D.i v5) :: x41
  let x43 : List D := (D.i v4) :: x42
  let x44 : List D := (D.i v3) :: x43
  let x45 : List D := (D.i 0) :: x44
  let x46 : List D := (D.i x4) :: x45
  let x47 : List D := (D.i x4) :: x46
  let x48 : List D := (D.b true) :: x47
  let x49 : List D := (D.i x4) :: x48
  let x50 : D := f6 (D.ls x49)
  let x51 : Bool := (D.toB x50)
  let x52 : Bool := if x6 then true else x51
  let x53 : Bool := if x5 then true else x52
  let x54 : Int := w64 (v2 + 1)
  let x55 : List D := mdel v2 v8
  let x56 : Int := w64 (v5 + x4)
  let x57 : D := f8 (D.ls x31)
  let x58 : List D := (D.toL x57)
  let x59 : D := (x58).getD 7 (D.i 0)
  let x60 : List D := (D.toL x59)
  let x61 : D := f8 (D.ls x49)
  let x62 : List D := (D.toL x61)
  let x63 : D := (x62).getD 7 (D.i 0)
  let x64 : List D := (D.toL x63)
  (if x0 then (if x2 then (some (1, [.i v1, .i v2, .i v3, .i v4, .i v5, .b v6, .i v7, .ls v8, .ls v9])) else (if x11 then (if x16 then (if x35 then (if x37 then (if x53 then (if x5 then (some (0, [.i v0, .i v1, .i x54, .i v3, .i v4, .i v5, .b v6, .i v7, .ls x55, .ls v9])) else (if x6 then (some (0, [.i v0, .i v1, .i x54, .i v3, .i v4, .i x56, .b true, .i v3, .ls x55, .ls x60])) else (some (0, [.i v0, .i v1, .i x54, .i v3, .i v4, .i x56, .b v6, .i v7, .ls x55, .ls x64])))) else none) else none) else none) else none) else none)) else (some (1, [.i v1, .i v2, .i v3, .i v4, .i v5, .b v6, .i v7, .ls v8, .ls v9])))
set_option maxRecDepth 100000 in
theorem stepTakeB_eq (F : Nat → D → D) (v0 : Int) (v1 : Int) (v2 : Int) (v3 : Int) (v4 : Int) (v5 : Int) (v6 : Bool) (v7 : Int) (v8 : List D) (v9 : List D) : stepV F (stepL Try.prog z3 32 1000 252 (loopAt Try.prog 32 252) conTakeB) [.i v0, .i v1, .i v2, .i v3, .i v4, .i v5, .b v6, .i v7, .ls v8, .ls v9] = stepTakeB (F 6) (F 8) v0 v1 v2 v3 v4 v5 v6 v7 v8 v9 := by kernel_rfl
noncomputable def spTakeB : List D → Option (Nat × List D)
  | [.i v0, .i v1, .i v2, .i v3, .i v4, .i v5, .b v6, .i v7, .ls v8, .ls v9] => stepTakeB (F3 6) (F3 8) v0 v1 v2 v3 v4 v5 v6 v7 v8 v9
  | _ => none
noncomputable def F4 : Nat → D → D := updF F3 9 fun d => loopV spTakeB d.toL
theorem wfTakeB : conTakeB.wf = true := by kernel_rfl
theorem loTakeB : loopOk Try.prog 32 252 = true := by kernel_rfl
def z4 : Ext := z3.addLoop 32 252 conTakeB
def conTake : Con := ⟨12, ⟨⟨[.ptr 0 0, .int .i64 (.var 0), .str (.var 1)],
    [.row [.ptr 1 0, .hnd 2, .int .i64 (.var 2)] 69, .row [.int .i64 (.var 3), .int .i64 (.var 4), .int .i64 (.var 5), .asl (.var 6) 3 1 (.lit (.i 0)) (.var 7)] 74, .map (.var 8), .arr (.one (.int .u8)) (.var 9)]⟩,
    [.fixed, .fixed, .fixed, .mobile], [.i, .s, .i, .i, .i, .i, .b, .i, .l, .l], []⟩,
  [0, 1, 2, 3, 4, 5, 6, 7, 8, 9],
  [(.ret, ⟨⟨[.int .i64 (.var 0)],
    [.row [.ptr 1 0, .hnd 2, .int .i64 (.var 1)] 69, .row [.int .i64 (.var 2), .int .i64 (.var 3), .int .i64 (.var 4), .asl (.var 5) 4 1 (.lit (.i 0)) (.var 6)] 74, .map (.var 7), .dead, .arr (.one (.int .u8)) (.var 8)]⟩,
    [.fixed, .fixed, .fixed, .mobile, .mobile], [.i, .i, .i, .i, .i, .b, .i, .l, .l], [none, none, some 3, some 4, none, none, none, none, none]⟩)]⟩
/-- One round of Take. -/
def stepTake (f3 f9 f5 f11 : D → D) (v0 : Int) (v1 : List UInt8) (v2 : Int) (v3 : Int) (v4 : Int) (v5 : Int) (v6 : Bool) (v7 : Int) (v8 : List D) (v9 : List D) : Option (Nat × List D) :=
  let x0 : Bool := decide ((v0 : Int) < 0)
  let x1 : Bool := decide ((v0 : Int) > 1099511627776)
  let x2 : Bool := if x0 then true else x1
  let x3 : Int := w64 (v3 - v5)
  let x4 : Int := w64 (v2 + x3)
  let x5 : Int := zmax v0 v2
  let x6 : List D := (D.ls v9) :: ([] : List D)
  let x7 : List D := (D.ls v8) :: x6
  let x8 : List D := (D.i v7) :: x7
  let x9 : List D := (D.b v6) :: x8
  let x10 : List D := (D.i v5) :: x9
  let x11 : List D := (D.i v4) :: x10
  let x12 : List D := (D.i v3) :: x11
  let x13 : List D := (D.i v2) :: x12
  let x14 : List D := (D.i x5) :: x13
  let x15 : List D := (D.i x4) :: x14
  let x16 : List D := (D.s v1) :: x15
  let x17 : List D := (D.i v0) :: x16
  let x18 : D := f3 (D.ls x17)
  let x19 : Bool := (D.toB x18)
  let x20 : Bool := if x2 then true else x19
  let x21 : D := f5 (D.ls x17)
  let x22 : List D := (D.toL x21)
  let x23 : D := (x22).getD 7 (D.i 0)
  let x24 : List D := (D.toL x23)
  let x25 : List D := (D.ls x24) :: x6
  let x26 : List D := (D.i v7) :: x25
  let x27 : List D := (D.b v6) :: x26
  let x28 : List D := (D.i v5) :: x27
  let x29 : List D := (D.i v4) :: x28
  let x30 : List D := (D.i v3) :: x29
  let x31 : List D := (D.i v2) :: x30
  let x32 : List D := (D.i v2) :: x31
  let x33 : List D := (D.i x4) :: x32
  let x34 : D := f9 (D.ls x33)
  let x35 : Bool := (D.toB x34)
  let x36 : Bool := if x2 then true else x35
  let x37 : D := f11 (D.ls x33)
  let x38 : List D := (D.toL x37)
  let x39 : D := (x38).getD 1 (D.i 0)
  let x40 : Int := w64 ((D.toI x39) - v2)
  let x41 : Int := (D.toI x39)
  let x42 : D := (x38).getD 4 (D.i 0)
  let x43 : Int := (D.toI x42)
  let x44 : D := (x38).getD 5 (D.i 0)
  let x45 : Bool := (D.toB x44)
  let x46 : D := (x38).getD 6 (D.i 0)
  let x47 : Int := (D.toI x46)
  let x48 : D := (x38).getD 7 (D.i 0)
  let x49 : List D := (D.toL x48)
  let x50 : D := (x38).getD 8 (D.i 0)
  let x51 : List D := (D.toL x50)
  (if x20 then (if x36 then (if x2 then (some (1, [.i 0, .i v2, .i v3, .i v4, .i v5, .b v6, .i v7, .ls v8, .ls v9])) else (some (1, [.i x40, .i x41, .i v3, .i v4, .i x43, .b x45, .i x47, .ls x49, .ls x51]))) else none) else none)
set_option maxRecDepth 100000 in
theorem stepTake_eq (F : Nat → D → D) (v0 : Int) (v1 : List UInt8) (v2 : Int) (v3 : Int) (v4 : Int) (v5 : Int) (v6 : Bool) (v7 : Int) (v8 : List D) (v9 : List D) : stepV F (stepC Try.prog z4 32 1000 conTake) [.i v0, .s v1, .i v2, .i v3, .i v4, .i v5, .b v6, .i v7, .ls v8, .ls v9] = stepTake (F 3) (F 9) (F 5) (F 11) v0 v1 v2 v3 v4 v5 v6 v7 v8 v9 := by kernel_rfl
noncomputable def spTake : List D → Option (Nat × List D)
  | [.i v0, .s v1, .i v2, .i v3, .i v4, .i v5, .b v6, .i v7, .ls v8, .ls v9] => stepTake (F4 3) (F4 9) (F4 5) (F4 11) v0 v1 v2 v3 v4 v5 v6 v7 v8 v9
  | _ => none
noncomputable def F5 : Nat → D → D := updF F4 12 fun d => spTake d.toL
theorem wfTake : conTake.wf = true := by kernel_rfl
def z5 : Ext := z4.addCall 32 conTake
def conMain : Con := ⟨15, ⟨⟨[.str (.var 0), .rsl (.row [.bool, (.int .i64), .str]) (.var 1), .top, .top, .top, .bool (.lit (.b true)), .ptr 0 0, .ptr 1 0, .int .i64 (.var 2), .int .i64 (.var 3), .top, .top, .top, .top, .top, .top, .top, .top, .top, .top, .top, .top, .top, .top, .top, .top, .top, .top, .top, .top, .top, .top, .top, .top, .top, .top, .top, .top, .top, .top, .top, .top, .top, .top, .top, .top, .top, .top, .top, .top, .top, .top, .top, .top, .top, .top, .top, .top, .top, .top, .top, .top, .top, .top, .top, .top, .top, .top, .top, .top, .top, .top, .top, .top, .top, .top, .top, .top, .top, .top, .top, .top, .top, .top, .top, .top, .top, .top, .top, .tup [], .tup [], .tup [], .tup [], .tup [], .top, .top, .tup [], .tup [], .tup [], .tup [], .tup [], .top, .top, .tup [], .tup [], .tup [], .tup [], .tup [], .top, .top, .top, .top, .top, .tup [], .tup [], .tup [], .tup [], .top, .top, .tup [], .tup [], .tup [], .tup [], .tup [], .tup [], .top],
    [.row [.ptr 2 0, .hnd 3, .int .i64 (.var 4)] 69, .row [.ptr 4 0, .hnd 5, .int .i64 (.var 5)] 69, .row [.int .i64 (.lit (.i 2000)), .int .i64 (.lit (.i 0)), .int .i64 (.var 6), .asl (.var 7) 6 1 (.lit (.i 0)) (.var 8)] 74, .map (.var 9), .row [.int .i64 (.lit (.i 2000)), .int .i64 (.lit (.i 0)), .int .i64 (.var 10), .asl (.var 11) 7 1 (.lit (.i 0)) (.var 12)] 74, .map (.var 13), .arr (.one (.int .u8)) (.var 14), .arr (.one (.int .u8)) (.var 15)]⟩,
    [.fixed, .fixed, .fixed, .fixed, .fixed, .fixed, .mobile, .mobile], [.s, .l, .i, .i, .i, .i, .i, .b, .i, .l, .i, .b, .i, .l, .l, .l], []⟩,
  [0, 1, 2],
  [(.exit 0, ⟨⟨[.str (.var 0), .top, .top, .top, .top, .bool (.lit (.b true)), .ptr 0 0, .ptr 1 0, .top, .top, .top, .top, .top, .top, .top, .top, .top, .top, .top, .top, .top, .top, .top, .top, .top, .top, .top, .top, .top, .top, .top, .top, .top, .top, .top, .top, .top, .top, .top, .top, .top, .top, .top, .top, .top, .top, .top, .top, .top, .top, .top, .top, .top, .top, .top, .top, .top, .top, .top, .top, .top, .top, .top, .top, .top, .top, .top, .top, .top, .top, .top, .top, .top, .top, .top, .top, .top, .top, .top, .top, .top, .top, .top, .top, .top, .top, .top, .top, .top, .tup [], .tup [], .tup [], .tup [], .tup [], .top, .top, .tup [], .tup [], .tup [], .tup [], .tup [], .top, .top, .tup [], .tup [], .tup [], .tup [], .tup [], .top, .top, .top, .top, .top, .tup [], .tup [], .tup [], .tup [], .top, .top, .tup [], .tup [], .tup [], .tup [], .tup [], .tup [], .top],
    [.row [.ptr 2 0, .hnd 3, .int .i64 (.var 1)] 69, .row [.ptr 4 0, .hnd 5, .int .i64 (.var 2)] 69, .row [.int .i64 (.lit (.i 2000)), .int .i64 (.lit (.i 0)), .int .i64 (.var 3), .asl (.var 4) 6 1 (.lit (.i 0)) (.var 5)] 74, .map (.var 6), .row [.int .i64 (.lit (.i 2000)), .int .i64 (.lit (.i 0)), .int .i64 (.var 7), .asl (.var 8) 7 1 (.lit (.i 0)) (.var 9)] 74, .map (.var 10), .arr (.one (.int .u8)) (.var 11), .arr (.one (.int .u8)) (.var 12)]⟩,
    [.fixed, .fixed, .fixed, .fixed, .fixed, .fixed, .mobile, .mobile], [.s, .i, .i, .i, .b, .i, .l, .i, .b, .i, .l, .l, .l], [some 0, none, none, none, none, none, none, none, none, none, none, none, none]⟩)]⟩
/-- One round of Main. -/
def stepMain (f12 f14 : D → D) (v0 : List UInt8) (v1 : List D) (v2 : Int) (v3 : Int) (v4 : Int) (v5 : Int) (v6 : Int) (v7 : Bool) (v8 : Int) (v9 : List D) (v10 : Int) (v11 : Bool) (v12 : Int) (v13 : List D) (v14 : List D) (v15 : List D) : Option (Nat × List D) :=
  let x0 : Bool := decide ((v3 : Int) < v2)
  let x1 : Bool := decide ((v3 : Int) ≥ 0)
  let x2 : Int := ((v1).length : Int)
  let x3 : Bool := decide ((v3 : Int) < x2)
  let x4 : Bool := if x1 then x3 else false
  let x5 : Int := ((v0).length : Int)
  let x6 : Int := w64 (x5 + 1)
  let x7 : Bool := (x6 : Int) != 0
  let x8 : D := (v1).getD (Int.toNat v3) (D.i 0)
  let x9 : D := ((D.toL x8)).getD 1 (D.i 0)
  let x10 : Int := (D.toI x9)
  let x11 : Bool := decide ((x10 : Int) < 0)
  let x12 : Int := w64 (x10 + 1)
  let x13 : Int := w64 (0 - x12)
  let x14 : Int := if x11 then x13 else x10
  let x15 : Int := Int.tmod x14 x6
  let x16 : Int := w64 (x5 - x15)
  let x17 : Int := w64 (x16 + 1)
  let x18 : Bool := (x17 : Int) != 0
  let x19 : D := ((D.toL x8)).getD 2 (D.i 0)
  let x20 : List UInt8 := (D.toS x19)
  let x21 : Int := ((x20).length : Int)
  let x22 : Int := w64 (x21 * 13)
  let x23 : Bool := decide ((x22 : Int) < 0)
  let x24 : Int := w64 (x22 + 1)
  let x25 : Int := w64 (0 - x24)
  let x26 : Int := if x23 then x25 else x22
  let x27 : Int := Int.tmod x26 x17
  let x28 : Int := w64 (x15 + x27)
  let x29 : Bool := decide ((x28 : Int) ≥ 0)
  let x30 : Bool := decide ((x28 : Int) ≤ x5)
  let x31 : Bool := decide ((x15 : Int) ≥ 0)
  let x32 : Bool := decide ((x15 : Int) ≤ x28)
  let x33 : Bool := if x31 then x32 else false
  let x34 : Bool := if x30 then x33 else false
  let x35 : Bool := if x29 then x34 else false
  let x36 : List UInt8 := ((v0).drop (Int.toNat x15)).take (Int.toNat x28 - Int.toNat x15)
  let x37 : List D := (D.ls v14) :: ([] : List D)
  let x38 : List D := (D.ls v9) :: x37
  let x39 : List D := (D.i v8) :: x38
  let x40 : List D := (D.b v7) :: x39
  let x41 : List D := (D.i v6) :: x40
  let x42 : List D := (D.i 0) :: x41
  let x43 : List D := (D.i 2000) :: x42
  let x44 : List D := (D.i v4) :: x43
  let x45 : List D := (D.s x36) :: x44
  let x46 : List D := (D.i x15) :: x45
  let x47 : D := f12 (D.ls x46)
  let x48 : Bool := (D.toB x47)
  let x49 : Int := w64 (v2 - 1)
  let x50 : Int := w64 (x49 - v3)
  let x51 : Bool := decide ((x50 : Int) ≥ 0)
  let x52 : Bool := decide ((x50 : Int) < x2)
  let x53 : Bool := if x51 then x52 else false
  let x54 : D := (v1).getD (Int.toNat x50) (D.i 0)
  let x55 : D := ((D.toL x54)).getD 1 (D.i 0)
  let x56 : Int := (D.toI x55)
  let x57 : Bool := decide ((x56 : Int) < 0)
  let x58 : Int := w64 (x56 + 1)
  let x59 : Int := w64 (0 - x58)
  let x60 : Int := if x57 then x59 else x56
  let x61 : Int := Int.tmod x60 x6
  let x62 : Int := w64 (x5 - x61)
  let x63 : Int := w64 (x62 + 1)
  let x64 : Bool := (x63 : Int) != 0
  let x65 : D := ((D.toL x54)).getD 2 (D.i 0)
  let x66 : List UInt8 := (D.toS x65)
  let x67 : Int := ((x66).length : Int)
  let x68 : Int := w64 (x67 * 13)
  let x69 : Bool := decide ((x68 : Int) < 0)
  let x70 : Int := w64 (x68 + 1)
  let x71 : Int := w64 (0 - x70)
  let x72 : Int := if x69 then x71 else x68
  let x73 : Int := Int.tmod x72 x63
  let x74 : Int := w64 (x61 + x73)
  let x75 : Bool := decide ((x74 : Int) ≥ 0)
  let x76 : Bool := decide ((x74 : Int) ≤ x5)
  let x77 : Bool := decide ((x61 : Int) ≥ 0)
  let x78 : Bool := decide ((x61 : Int) ≤ x74)
  let x79 : Bool := if x77 then x78 else false
  let x80 : Bool := if x76 then x79 else false
  let x81 : Bool := if x75 then x80 else false
  let x82 : List UInt8 := ((v0).drop (Int.toNat x61)).take (Int.toNat x74 - Int.toNat x61)
  let x83 : List D := (D.ls v15) :: ([] : List D)
  let x84 : List D := (D.ls v13) :: x83
  let x85 : List D := (D.i v12) :: x84
  let x86 : List D := (D.b v11) :: x85
  let x87 : List D := (D.i v10) :: x86
  let x88 : List D := (D.i 0) :: x87
  let x89 : List D := (D.i 2000) :: x88
  let x90 : List D := (D.i v5) :: x89
  let x91 : List D := (D.s x82) :: x90
  let x92 : List D := (D.i x61) :: x91
  let x93 : D := f12 (D.ls x92)
  let x94 : Bool := (D.toB x93)
  let x95 : Int := w64 (v3 + 1)
  let x96 : D := f14 (D.ls x46)
  let x97 : List D := (D.toL x96)
  let x98 : D := (x97).getD 1 (D.i 0)
  let x99 : Int := (D.toI x98)
  let x100 : D := f14 (D.ls x92)
  let x101 : List D := (D.toL x100)
  let x102 : D := (x101).getD 1 (D.i 0)
  let x103 : Int := (D.toI x102)
  let x104 : D := (x97).getD 4 (D.i 0)
  let x105 : Int := (D.toI x104)
  let x106 : D := (x97).getD 5 (D.i 0)
  let x107 : Bool := (D.toB x106)
  let x108 : D := (x97).getD 6 (D.i 0)
  let x109 : Int := (D.toI x108)
  let x110 : D := (x97).getD 7 (D.i 0)
  let x111 : List D := (D.toL x110)
  let x112 : D := (x101).getD 4 (D.i 0)
  let x113 : Int := (D.toI x112)
  let x114 : D := (x101).getD 5 (D.i 0)
  let x115 : Bool := (D.toB x114)
  let x116 : D := (x101).getD 6 (D.i 0)
  let x117 : Int := (D.toI x116)
  let x118 : D := (x101).getD 7 (D.i 0)
  let x119 : List D := (D.toL x118)
  let x120 : D := (x97).getD 8 (D.i 0)
  let x121 : List D := (D.toL x120)
  let x122 : D := (x101).getD 8 (D.i 0)
  let x123 : List D := (D.toL x122)
  (if x0 then (if x4 then (if x7 then (if x18 then (if x35 then (if x48 then (if x4 then (if x53 then (if x7 then (if x64 then (if x81 then (if x94 then (some (0, [.s v0, .ls v1, .i v2, .i x95, .i x99, .i x103, .i x105, .b x107, .i x109, .ls x111, .i x113, .b x115, .i x117, .ls x119, .ls x121, .ls x123])) else none) else none) else none) else none) else none) else none) else none) else none) else none) else none) else none) else (some (1, [.s v0, .i v4, .i v5, .i v6, .b v7, .i v8, .ls v9, .i v10, .b v11, .i v12, .ls v13, .ls v14, .ls v15])))
set_option maxRecDepth 100000 in
theorem stepMain_eq (F : Nat → D → D) (v0 : List UInt8) (v1 : List D) (v2 : Int) (v3 : Int) (v4 : Int) (v5 : Int) (v6 : Int) (v7 : Bool) (v8 : Int) (v9 : List D) (v10 : Int) (v11 : Bool) (v12 : Int) (v13 : List D) (v14 : List D) (v15 : List D) : stepV F (stepL Try.prog z5 9 1000 4090 (loopAt Try.prog 9 4090) conMain) [.s v0, .ls v1, .i v2, .i v3, .i v4, .i v5, .i v6, .b v7, .i v8, .ls v9, .i v10, .b v11, .i v12, .ls v13, .ls v14, .ls v15] = stepMain (F 12) (F 14) v0 v1 v2 v3 v4 v5 v6 v7 v8 v9 v10 v11 v12 v13 v14 v15 := by kernel_rfl
noncomputable def spMain : List D → Option (Nat × List D)
  | [.s v0, .ls v1, .i v2, .i v3, .i v4, .i v5, .i v6, .b v7, .i v8, .ls v9, .i v10, .b v11, .i v12, .ls v13, .ls v14, .ls v15] => stepMain (F5 12) (F5 14) v0 v1 v2 v3 v4 v5 v6 v7 v8 v9 v10 v11 v12 v13 v14 v15
  | _ => none
noncomputable def F6 : Nat → D → D := updF F5 15 fun d => loopV spMain d.toL
theorem wfMain : conMain.wf = true := by kernel_rfl
theorem loMain : loopOk Try.prog 9 4090 = true := by kernel_rfl
def z6 : Ext := z5.addLoop 9 4090 conMain
def conPeek : Con := ⟨18, ⟨⟨[.ptr 0 0, .int .i64 (.var 0), .top, .top, .top, .top, .top, .asl (.var 1) 1 1 (.lit (.i 0)) (.var 2), .top, .top, .top, .top, .top, .top, .top, .top, .top, .top, .top, .top, .top, .top, .top, .top, .top, .top, .top, .top, .top, .top, .top, .int .i64 (.var 3), .int .i64 (.var 4), .top, .top, .top, .top, .top, .top, .top, .top, .top, .top, .top, .top, .top, .top, .top, .top, .top, .top, .top, .top, .top, .top, .top, .top, .top, .top],
    [.row [.int .i64 (.var 5), .int .i64 (.var 6), .int .i64 (.var 7), .asl (.var 8) 2 1 (.lit (.i 0)) (.var 9)] 74, .arr (.one (.int .u8)) (.var 10), .arr (.one (.int .u8)) (.var 11)]⟩,
    [.fixed, .fixed, .fixed], [.i, .b, .i, .i, .i, .i, .i, .i, .b, .i, .l, .l], []⟩,
  [0, 1, 2, 3, 5, 6, 7, 8, 9, 11],
  [(.exit 0, ⟨⟨[.top, .top, .top, .top, .top, .top, .top, .asl (.var 0) 1 1 (.lit (.i 0)) (.var 1), .top, .top, .top, .top, .top, .top, .top, .top, .top, .top, .top, .top, .top, .top, .top, .top, .top, .top, .top, .top, .top, .top, .top, .top, .top, .top, .top, .top, .top, .top, .top, .top, .top, .top, .top, .top, .top, .top, .top, .top, .top, .top, .top, .top, .top, .top, .top, .top, .top, .top, .top],
    [.row [.int .i64 (.var 3), .int .i64 (.var 4), .int .i64 (.var 5), .asl (.var 6) 2 1 (.lit (.i 0)) (.var 7)] 74, .arr (.one (.int .u8)) (.var 2), .arr (.one (.int .u8)) (.var 8)]⟩,
    [.fixed, .fixed, .fixed], [.b, .i, .l, .i, .i, .i, .b, .i, .l], [some 1, some 2, none, some 5, some 6, some 7, some 8, some 9, some 11]⟩)]⟩
/-- One round of Peek. -/
def stepPeek (v0 : Int) (v1 : Bool) (v2 : Int) (v3 : Int) (v4 : Int) (v5 : Int) (v6 : Int) (v7 : Int) (v8 : Bool) (v9 : Int) (v10 : List D) (v11 : List D) : Option (Nat × List D) :=
  let x0 : Bool := decide ((v4 : Int) < v3)
  let x1 : Bool := (v5 : Int) != 0
  let x2 : Int := w64 (v6 + v0)
  let x3 : Int := w64 (x2 + v4)
  let x4 : Int := Int.tmod x3 v5
  let x5 : Bool := decide ((x4 : Int) ≥ 0)
  let x6 : Bool := decide ((x4 : Int) < v9)
  let x7 : Bool := if x5 then x6 else false
  let x8 : Int := ((v11).length : Int)
  let x9 : Bool := decide ((x4 : Int) < x8)
  let x10 : Bool := decide ((v4 : Int) ≥ 0)
  let x11 : Bool := decide ((v4 : Int) < v2)
  let x12 : Bool := if x10 then x11 else false
  let x13 : Int := ((v10).length : Int)
  let x14 : Bool := decide ((v4 : Int) < x13)
  let x15 : Int := w64 (v4 + 1)
  let x16 : D := (v11).getD (Int.toNat x4) (D.i 0)
  let x17 : Int := (D.toI x16)
  let x18 : List D := (v10).set (Int.toNat v4) (D.i x17)
  (if x0 then (if x1 then (if x7 then (if x9 then (if x12 then (if x14 then (some (0, [.i v0, .b v1, .i v2, .i v3, .i x15, .i v5, .i v6, .i v7, .b v8, .i v9, .ls x18, .ls v11])) else none) else none) else none) else none) else none) else (some (1, [.b v1, .i v2, .ls v10, .i v5, .i v6, .i v7, .b v8, .i v9, .ls v11])))
set_option maxRecDepth 100000 in
theorem stepPeek_eq (F : Nat → D → D) (v0 : Int) (v1 : Bool) (v2 : Int) (v3 : Int) (v4 : Int) (v5 : Int) (v6 : Int) (v7 : Int) (v8 : Bool) (v9 : Int) (v10 : List D) (v11 : List D) : stepV F (stepL Try.prog z6 45 1000 122 (loopAt Try.prog 45 122) conPeek) [.i v0, .b v1, .i v2, .i v3, .i v4, .i v5, .i v6, .i v7, .b v8, .i v9, .ls v10, .ls v11] = stepPeek v0 v1 v2 v3 v4 v5 v6 v7 v8 v9 v10 v11 := by kernel_rfl
noncomputable def spPeek : List D → Option (Nat × List D)
  | [.i v0, .b v1, .i v2, .i v3, .i v4, .i v5, .i v6, .i v7, .b v8, .i v9, .ls v10, .ls v11] => stepPeek v0 v1 v2 v3 v4 v5 v6 v7 v8 v9 v10 v11
  | _ => none
noncomputable def F7 : Nat → D → D := updF F6 18 fun d => loopV spPeek d.toL
theorem wfPeek : conPeek.wf = true := by kernel_rfl
theorem loPeek : loopOk Try.prog 45 122 = true := by kernel_rfl
def z7 : Ext := z6.addLoop 45 122 conPeek
def conRead : Con := ⟨21, ⟨⟨[.ptr 0 0, .int .i64 (.var 0)],
    [.row [.ptr 1 0, .hnd 2, .int .i64 (.var 1)] 69, .row [.int .i64 (.var 2), .int .i64 (.var 3), .int .i64 (.var 4), .asl (.var 5) 3 1 (.lit (.i 0)) (.var 6)] 74, .map (.var 7), .arr (.one (.int .u8)) (.var 8)]⟩,
    [.fixed, .fixed, .fixed, .fixed], [.i, .i, .i, .i, .i, .b, .i, .l, .l], []⟩,
  [0, 1, 2, 3, 4, 5, 6, 7, 8],
  [(.ret, ⟨⟨[.str (.var 0)],
    [.row [.ptr 1 0, .hnd 2, .int .i64 (.var 1)] 69, .row [.int .i64 (.var 2), .int .i64 (.var 3), .int .i64 (.var 4), .asl (.var 5) 3 1 (.lit (.i 0)) (.var 6)] 74, .map (.var 7), .arr (.one (.int .u8)) (.var 8)]⟩,
    [.fixed, .fixed, .fixed, .fixed], [.s, .i, .i, .i, .i, .b, .i, .l, .l], [none, some 1, none, none, none, none, none, some 7, none]⟩)]⟩
/-- One round of Read. -/
def stepRead (f18 f20 : D → D) (v0 : Int) (v1 : Int) (v2 : Int) (v3 : Int) (v4 : Int) (v5 : Bool) (v6 : Int) (v7 : List D) (v8 : List D) : Option (Nat × List D) :=
  let x0 : Bool := decide ((v0 : Int) ≤ 0)
  let x1 : Bool := decide ((0 : Int) ≥ v4)
  let x2 : Bool := if x0 then true else x1
  let x3 : Int := w64 (v4 - 0)
  let x4 : Int := zmin v0 x3
  let x5 : Bool := decide ((x4 : Int) ≥ 0)
  let x6 : Bool := decide ((x4 : Int) ≤ 1099511627776)
  let x7 : Bool := if x5 then x6 else false
  let x8 : Bool := if x2 then true else x7
  let x9 : List D := List.replicate (Int.toNat x4) (D.i 0)
  let x10 : List D := (D.ls v8) :: ([] : List D)
  let x11 : List D := (D.ls x9) :: x10
  let x12 : List D := (D.i v6) :: x11
  let x13 : List D := (D.b v5) :: x12
  let x14 : List D := (D.i v4) :: x13
  let x15 : List D := (D.i v3) :: x14
  let x16 : List D := (D.i v2) :: x15
  let x17 : List D := (D.i 0) :: x16
  let x18 : List D := (D.i x4) :: x17
  let x19 : List D := (D.i x4) :: x18
  let x20 : List D := (D.b true) :: x19
  let x21 : List D := (D.i 0) :: x20
  let x22 : D := f18 (D.ls x21)
  let x23 : Bool := (D.toB x22)
  let x24 : Bool := if x2 then true else x23
  let x25 : Int := zmax v0 0
  let x26 : Int := zmin x25 v4
  let x27 : Bool := (x26 : Int) == 0
  let x28 : Bool := (v2 : Int) != 0
  let x29 : Bool := if x27 then true else x28
  let x30 : Bool := if x2 then x29 else true
  let x31 : Bool := if x2 then true else x29
  let x32 : D := f20 (D.ls x21)
  let x33 : List D := (D.toL x32)
  let x34 : D := (x33).getD 2 (D.i 0)
  let x35 : Int := (((D.toL x34)).length : Int)
  let x36 : Bool := decide ((x4 : Int) ≤ x35)
  let x37 : Bool := if x2 then true else x36
  let x38 : List D := (((D.toL x34)).drop (Int.toNat 0)).take (Int.toNat x4 - Int.toNat 0)
  let x39 : List UInt8 := strOfL x38
  let x40 : List UInt8 := if x2 then ([] : List UInt8) else x39
  let x41 : Int := if x2 then v2 else v2
  let x42 : Int := w64 (v3 + x26)
  let x43 : Int := Int.tmod x42 v2
  let x44 : Int := if x27 then v3 else x43
  let x45 : Int := if x2 then x44 else x44
  let x46 : Int := w64 (v4 - x26)
  let x47 : Int := if x27 then v4 else x46
  let x48 : Int := if x2 then x47 else x47
  let x49 : Bool := if x2 then v5 else v5
  let x50 : Int := if x2 then v6 else v6
  let x51 : List D := if x2 then v8 else v8
  (if x8 then (if x24 then (if x30 then (if x31 then (if x37 then (some (1, [.s x40, .i v1, .i x41, .i x45, .i x48, .b x49, .i x50, .ls v7, .ls x51])) else none) else none) else none) else none) else none)
set_option maxRecDepth 100000 in
theorem stepRead_eq (F : Nat → D → D) (v0 : Int) (v1 : Int) (v2 : Int) (v3 : Int) (v4 : Int) (v5 : Bool) (v6 : Int) (v7 : List D) (v8 : List D) : stepV F (stepC Try.prog z7 30 1000 conRead) [.i v0, .i v1, .i v2, .i v3, .i v4, .b v5, .i v6, .ls v7, .ls v8] = stepRead (F 18) (F 20) v0 v1 v2 v3 v4 v5 v6 v7 v8 := by kernel_rfl
noncomputable def spRead : List D → Option (Nat × List D)
  | [.i v0, .i v1, .i v2, .i v3, .i v4, .b v5, .i v6, .ls v7, .ls v8] => stepRead (F7 18) (F7 20) v0 v1 v2 v3 v4 v5 v6 v7 v8
  | _ => none
noncomputable def F8 : Nat → D → D := updF F7 21 fun d => spRead d.toL
theorem wfRead : conRead.wf = true := by kernel_rfl
def z8 : Ext := z7.addCall 30 conRead
theorem good0 : Go.Sy.Good Try.prog Om.none F8 z0 := Good.none
theorem hsAwake : ∀ l r, spAwake l = some r → stepV F8 (stepC Try.prog z0 10 1000 conAwake) l = some r := by
  intro l r h
  unfold spAwake at h
  split at h
  · rw [stepAwake_eq]; exact h
  · cases h
theorem good1 : Go.Sy.Good Try.prog Om.none F8 z1 :=
  Good.call (n := 1000) Try.checked.mixed good0 wfAwake (specC_of (sp := spAwake) (by kernel_rfl) (by kernel_rfl) (by kernel_rfl) hsAwake)
theorem hsTakeA : ∀ l r, spTakeA l = some r → stepV F8 (stepL Try.prog z1 32 1000 122 (loopAt Try.prog 32 122) conTakeA) l = some r := by
  intro l r h
  unfold spTakeA at h
  split at h
  · rw [stepTakeA_eq]; exact h
  · cases h
theorem good2 : Go.Sy.Good Try.prog Om.none F8 z2 :=
  Good.loop (n := 1000) Try.checked.mixed good1 loTakeA wfTakeA (specL_of (sp := spTakeA) (by kernel_rfl) (by kernel_rfl) (by kernel_rfl) hsTakeA)
theorem hsPush : ∀ l r, spPush l = some r → stepV F8 (stepL Try.prog z2 47 1000 250 (loopAt Try.prog 47 250) conPush) l = some r := by
  intro l r h
  unfold spPush at h
  split at h
  · rw [stepPush_eq]; exact h
  · cases h
theorem good3 : Go.Sy.Good Try.prog Om.none F8 z3 :=
  Good.loop (n := 1000) Try.checked.mixed good2 loPush wfPush (specL_of (sp := spPush) (by kernel_rfl) (by kernel_rfl) (by kernel_rfl) hsPush)
theorem hsTakeB : ∀ l r, spTakeB l = some r → stepV F8 (stepL Try.prog z3 32 1000 252 (loopAt Try.prog 32 252) conTakeB) l = some r := by
  intro l r h
  unfold spTakeB at h
  split at h
  · rw [stepTakeB_eq, show F8 6 = F3 6 by kernel_rfl, show F8 8 = F3 8 by kernel_rfl]; exact h
  · cases h
theorem good4 : Go.Sy.Good Try.prog Om.none F8 z4 :=
  Good.loop (n := 1000) Try.checked.mixed good3 loTakeB wfTakeB (specL_of (sp := spTakeB) (by kernel_rfl) (by kernel_rfl) (by kernel_rfl) hsTakeB)
theorem hsTake : ∀ l r, spTake l = some r → stepV F8 (stepC Try.prog z4 32 1000 conTake) l = some r := by
  intro l r h
  unfold spTake at h
  split at h
  · rw [stepTake_eq, show F8 3 = F4 3 by kernel_rfl, show F8 9 = F4 9 by kernel_rfl, show F8 5 = F4 5 by kernel_rfl, show F8 11 = F4 11 by kernel_rfl]; exact h
  · cases h
theorem good5 : Go.Sy.Good Try.prog Om.none F8 z5 :=
  Good.call (n := 1000) Try.checked.mixed good4 wfTake (specC_of (sp := spTake) (by kernel_rfl) (by kernel_rfl) (by kernel_rfl) hsTake)
theorem hsMain : ∀ l r, spMain l = some r → stepV F8 (stepL Try.prog z5 9 1000 4090 (loopAt Try.prog 9 4090) conMain) l = some r := by
  intro l r h
  unfold spMain at h
  split at h
  · rw [stepMain_eq, show F8 12 = F5 12 by kernel_rfl, show F8 14 = F5 14 by kernel_rfl]; exact h
  · cases h
theorem good6 : Go.Sy.Good Try.prog Om.none F8 z6 :=
  Good.loop (n := 1000) Try.checked.mixed good5 loMain wfMain (specL_of (sp := spMain) (by kernel_rfl) (by kernel_rfl) (by kernel_rfl) hsMain)
theorem hsPeek : ∀ l r, spPeek l = some r → stepV F8 (stepL Try.prog z6 45 1000 122 (loopAt Try.prog 45 122) conPeek) l = some r := by
  intro l r h
  unfold spPeek at h
  split at h
  · rw [stepPeek_eq]; exact h
  · cases h
theorem good7 : Go.Sy.Good Try.prog Om.none F8 z7 :=
  Good.loop (n := 1000) Try.checked.mixed good6 loPeek wfPeek (specL_of (sp := spPeek) (by kernel_rfl) (by kernel_rfl) (by kernel_rfl) hsPeek)
theorem hsRead : ∀ l r, spRead l = some r → stepV F8 (stepC Try.prog z7 30 1000 conRead) l = some r := by
  intro l r h
  unfold spRead at h
  split at h
  · rw [stepRead_eq, show F8 18 = F7 18 by kernel_rfl, show F8 20 = F7 20 by kernel_rfl]; exact h
  · cases h
theorem good8 : Go.Sy.Good Try.prog Om.none F8 z8 :=
  Good.call (n := 1000) Try.checked.mixed good7 wfRead (specC_of (sp := spRead) (by kernel_rfl) (by kernel_rfl) (by kernel_rfl) hsRead)
theorem F_0 (d : D) : F8 0 d = .b (spAwake d.toL).isSome := by kernel_rfl
theorem F_1 (d : D) : F8 1 d = .i (match spAwake d.toL with | some (j, _) => (j : Int) - 1 | none => 0) := by kernel_rfl
theorem F_2 (d : D) : F8 2 d = .ls (match spAwake d.toL with | some (_, ys) => ys | none => []) := by kernel_rfl
theorem F_3 (d : D) : F8 3 d = .b (loopV spTakeA d.toL).isSome := by kernel_rfl
theorem F_4 (d : D) : F8 4 d = .i (match loopV spTakeA d.toL with | some (j, _) => (j : Int) - 1 | none => 0) := by kernel_rfl
theorem F_5 (d : D) : F8 5 d = .ls (match loopV spTakeA d.toL with | some (_, ys) => ys | none => []) := by kernel_rfl
theorem F_6 (d : D) : F8 6 d = .b (loopV spPush d.toL).isSome := by kernel_rfl
theorem F_7 (d : D) : F8 7 d = .i (match loopV spPush d.toL with | some (j, _) => (j : Int) - 1 | none => 0) := by kernel_rfl
theorem F_8 (d : D) : F8 8 d = .ls (match loopV spPush d.toL with | some (_, ys) => ys | none => []) := by kernel_rfl
theorem F_9 (d : D) : F8 9 d = .b (loopV spTakeB d.toL).isSome := by kernel_rfl
theorem F_10 (d : D) : F8 10 d = .i (match loopV spTakeB d.toL with | some (j, _) => (j : Int) - 1 | none => 0) := by kernel_rfl
theorem F_11 (d : D) : F8 11 d = .ls (match loopV spTakeB d.toL with | some (_, ys) => ys | none => []) := by kernel_rfl
theorem F_12 (d : D) : F8 12 d = .b (spTake d.toL).isSome := by kernel_rfl
theorem F_13 (d : D) : F8 13 d = .i (match spTake d.toL with | some (j, _) => (j : Int) - 1 | none => 0) := by kernel_rfl
theorem F_14 (d : D) : F8 14 d = .ls (match spTake d.toL with | some (_, ys) => ys | none => []) := by kernel_rfl
theorem F_15 (d : D) : F8 15 d = .b (loopV spMain d.toL).isSome := by kernel_rfl
theorem F_16 (d : D) : F8 16 d = .i (match loopV spMain d.toL with | some (j, _) => (j : Int) - 1 | none => 0) := by kernel_rfl
theorem F_17 (d : D) : F8 17 d = .ls (match loopV spMain d.toL with | some (_, ys) => ys | none => []) := by kernel_rfl
theorem F_18 (d : D) : F8 18 d = .b (loopV spPeek d.toL).isSome := by kernel_rfl
theorem F_19 (d : D) : F8 19 d = .i (match loopV spPeek d.toL with | some (j, _) => (j : Int) - 1 | none => 0) := by kernel_rfl
theorem F_20 (d : D) : F8 20 d = .ls (match loopV spPeek d.toL with | some (_, ys) => ys | none => []) := by kernel_rfl
theorem F_21 (d : D) : F8 21 d = .b (spRead d.toL).isSome := by kernel_rfl
theorem F_22 (d : D) : F8 22 d = .i (match spRead d.toL with | some (j, _) => (j : Int) - 1 | none => 0) := by kernel_rfl
theorem F_23 (d : D) : F8 23 d = .ls (match spRead d.toL with | some (_, ys) => ys | none => []) := by kernel_rfl
end Go.Proofs.Ytbbippgnmllcoaa.seqOrders
