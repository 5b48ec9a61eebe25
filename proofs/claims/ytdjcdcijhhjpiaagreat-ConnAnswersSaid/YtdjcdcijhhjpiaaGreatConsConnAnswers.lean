/- Contracts of functions that ConnAnswers reaches: templates, their steps, and that they are so. Written by a program of this work. -/
import Derived.Test.YtdjcdcijhhjpiaaGreatSyU
import Derived.Test.YtdjcdcijhhjpiaaGreatChecked
set_option linter.unusedVariables false
set_option linter.unusedSimpArgs false
namespace Go.Proofs.YtdjcdcijhhjpiaaGreat.connAnswers
open Go.Sy
def z0 : Ext := Ext.none
def F0 : Nat → D → D := fun _ d => d
def conDial : Con := ⟨0, ⟨⟨[.int .i64 (.lit (.i 0)), .agg [.int .i64 (.lit (.i 1)), .int .i64 (.lit (.i 2)), .int .i64 (.lit (.i 1000)), .int .i64 (.lit (.i 8000)), .int .u32 (.lit (.i 100))]],
    []⟩,
    [], [], []⟩,
  [],
  [(.ret, ⟨⟨[.ptr 0 0],
    [.row [.int .u32 (.lit (.i 100)), .int .i64 (.lit (.i 8000)), .ptr 1 0, .int .i64 (.lit (.i 1)), .int .i64 (.lit (.i 0)), .int .i64 (.lit (.i 1)), .int .i64 (.lit (.i 1)), .int .i64 (.lit (.i 0)), .int .i64 (.lit (.i 1000)), .bool (.lit (.b false)), .bool (.lit (.b false)), .int .i64 (.lit (.i 0)), .int .i64 (.lit (.i 0)), .int .i64 (.lit (.i 1000)), .int .i64 (.lit (.i 0)), .int .i64 (.lit (.i 1000)), .int .i64 (.lit (.i 4000)), .int .i64 (.lit (.i 1073741823)), .int .i64 (.lit (.i 0)), .bool (.lit (.b false)), .int .i64 (.lit (.i 0)), .int .i64 (.lit (.i 0)), .int .i64 (.lit (.i 0)), .int .i64 (.lit (.i 1000)), .int .i64 (.lit (.i (-1))), .int .i64 (.lit (.i 0)), .int .u32 (.lit (.i 0)), .ptr 2 0, .int .i64 (.lit (.i (-1))), .bool (.lit (.b false)), .int .i64 (.lit (.i 0)), .int .i64 (.lit (.i (-1))), .int .i64 (.lit (.i 0)), .bool (.lit (.b false)), .int .i64 (.lit (.i 1)), .int .i64 (.lit (.i 2)), .int .i64 (.lit (.i 1000)), .int .i64 (.lit (.i 8000)), .int .u32 (.lit (.i 100)), .int .i64 (.lit (.i 0)), .int .i64 (.lit (.i 1)), .int .i64 (.lit (.i 0)), .int .i64 (.lit (.i (-1))), .asl (.lit (.b true)) 3 9 (.lit (.i 0)) (.lit (.i 1))] 56, .row [.int .i64 (.lit (.i 8000)), .int .i64 (.lit (.i 0)), .int .i64 (.lit (.i 0)), .snil] 93, .row [.ptr 4 0, .hnd 5, .int .i64 (.lit (.i 0))] 96, .arr (.row [(.int .i64), (.int .i64), (.int .u32), (.int .u32), (.int .i64), (.int .i64), (.int .i64), (.int .i64), .str]) (.lit (.ls [(.ls [(.i 1), (.i 2), (.i 100), (.i 0), (.i 2), (.i 8000), (.i 1000), (.i (-1)), (.s [])])])), .row [.int .i64 (.lit (.i 8000)), .int .i64 (.lit (.i 0)), .int .i64 (.lit (.i 0)), .snil] 93, .map (.lit (.ls []))]⟩,
    [.mobile, .mobile, .mobile, .mobile, .mobile, .mobile], [], []⟩)]⟩
/-- One round of Dial. -/
def stepDial  : Option (Nat × List D) :=
  (some (1, []))
set_option maxRecDepth 100000 in
theorem stepDial_eq (F : Nat → D → D)  : stepV F (stepC Tryz.prog z0 9 1000 conDial) [] = stepDial  := by kernel_rfl
def spDial : List D → Option (Nat × List D)
  | [] => stepDial 
  | _ => none
def F1 : Nat → D → D := updF F0 0 fun d => spDial d.toL
theorem wfDial : conDial.wf = true := by kernel_rfl
def z1 : Ext := z0.addCall 9 conDial
def conAnswer : Con := ⟨3, ⟨⟨[.int .i64 (.lit (.i 5)), .agg [.int .i64 (.lit (.i 2)), .int .i64 (.lit (.i 1)), .int .i64 (.lit (.i 500)), .int .i64 (.lit (.i 4000)), .int .u32 (.lit (.i 900))], .agg [.int .i64 (.lit (.i 1)), .int .i64 (.lit (.i 2)), .int .u32 (.lit (.i 100)), .int .u32 (.lit (.i 0)), .int .i64 (.lit (.i 2)), .int .i64 (.lit (.i 8000)), .int .i64 (.lit (.i 1000)), .int .i64 (.lit (.i (-1))), .str (.lit (.s []))]],
    []⟩,
    [], [], []⟩,
  [],
  [(.ret, ⟨⟨[.ptr 0 0],
    [.row [.int .u32 (.lit (.i 900)), .int .i64 (.lit (.i 4000)), .ptr 1 0, .int .i64 (.lit (.i 1)), .int .i64 (.lit (.i 0)), .int .i64 (.lit (.i 1)), .int .i64 (.lit (.i 1)), .int .i64 (.lit (.i 8000)), .int .i64 (.lit (.i 500)), .bool (.lit (.b false)), .bool (.lit (.b false)), .int .i64 (.lit (.i 0)), .int .i64 (.lit (.i 0)), .int .i64 (.lit (.i 1000)), .int .i64 (.lit (.i 0)), .int .i64 (.lit (.i 500)), .int .i64 (.lit (.i 2000)), .int .i64 (.lit (.i 1073741823)), .int .i64 (.lit (.i 0)), .bool (.lit (.b false)), .int .i64 (.lit (.i 0)), .int .i64 (.lit (.i 0)), .int .i64 (.lit (.i 5)), .int .i64 (.lit (.i 1005)), .int .i64 (.lit (.i (-1))), .int .i64 (.lit (.i 0)), .int .u32 (.lit (.i 100)), .ptr 2 0, .int .i64 (.lit (.i (-1))), .bool (.lit (.b false)), .int .i64 (.lit (.i 4001)), .int .i64 (.lit (.i (-1))), .int .i64 (.lit (.i 0)), .bool (.lit (.b false)), .int .i64 (.lit (.i 2)), .int .i64 (.lit (.i 1)), .int .i64 (.lit (.i 500)), .int .i64 (.lit (.i 4000)), .int .u32 (.lit (.i 900)), .int .i64 (.lit (.i 5)), .int .i64 (.lit (.i 2)), .int .i64 (.lit (.i 0)), .int .i64 (.lit (.i (-1))), .asl (.lit (.b true)) 3 9 (.lit (.i 0)) (.lit (.i 1))] 56, .row [.int .i64 (.lit (.i 4000)), .int .i64 (.lit (.i 0)), .int .i64 (.lit (.i 0)), .snil] 93, .row [.ptr 4 0, .hnd 5, .int .i64 (.lit (.i 0))] 96, .arr (.row [(.int .i64), (.int .i64), (.int .u32), (.int .u32), (.int .i64), (.int .i64), (.int .i64), (.int .i64), .str]) (.lit (.ls [(.ls [(.i 2), (.i 1), (.i 900), (.i 101), (.i 18), (.i 4000), (.i 500), (.i (-1)), (.s [])])])), .row [.int .i64 (.lit (.i 4000)), .int .i64 (.lit (.i 0)), .int .i64 (.lit (.i 0)), .snil] 93, .map (.lit (.ls []))]⟩,
    [.mobile, .mobile, .mobile, .mobile, .mobile, .mobile], [], []⟩)]⟩
/-- One round of Answer. -/
def stepAnswer  : Option (Nat × List D) :=
  (some (1, []))
set_option maxRecDepth 100000 in
theorem stepAnswer_eq (F : Nat → D → D)  : stepV F (stepC Tryz.prog z1 5 1000 conAnswer) [] = stepAnswer  := by kernel_rfl
def spAnswer : List D → Option (Nat × List D)
  | [] => stepAnswer 
  | _ => none
def F2 : Nat → D → D := updF F1 3 fun d => spAnswer d.toL
theorem wfAnswer : conAnswer.wf = true := by kernel_rfl
def z2 : Ext := z1.addCall 5 conAnswer
def conIn : Con := ⟨6, ⟨⟨[.ptr 0 0, .int .i64 (.lit (.i 10)), .agg [.int .i64 (.lit (.i 2)), .int .i64 (.lit (.i 1)), .int .u32 (.lit (.i 900)), .int .u32 (.lit (.i 101)), .int .i64 (.lit (.i 18)), .int .i64 (.lit (.i 4000)), .int .i64 (.lit (.i 500)), .int .i64 (.lit (.i (-1))), .str (.lit (.s []))]],
    [.row [.int .u32 (.lit (.i 100)), .int .i64 (.lit (.i 8000)), .ptr 1 0, .int .i64 (.lit (.i 1)), .int .i64 (.lit (.i 0)), .int .i64 (.lit (.i 1)), .int .i64 (.lit (.i 1)), .int .i64 (.lit (.i 0)), .int .i64 (.lit (.i 1000)), .bool (.lit (.b false)), .bool (.lit (.b false)), .int .i64 (.lit (.i 0)), .int .i64 (.lit (.i 0)), .int .i64 (.lit (.i 1000)), .int .i64 (.lit (.i 0)), .int .i64 (.lit (.i 1000)), .int .i64 (.lit (.i 4000)), .int .i64 (.lit (.i 1073741823)), .int .i64 (.lit (.i 0)), .bool (.lit (.b false)), .int .i64 (.lit (.i 0)), .int .i64 (.lit (.i 0)), .int .i64 (.lit (.i 0)), .int .i64 (.lit (.i 1000)), .int .i64 (.lit (.i (-1))), .int .i64 (.lit (.i 0)), .int .u32 (.lit (.i 0)), .ptr 2 0, .int .i64 (.lit (.i (-1))), .bool (.lit (.b false)), .int .i64 (.lit (.i 0)), .int .i64 (.lit (.i (-1))), .int .i64 (.lit (.i 0)), .bool (.lit (.b false)), .int .i64 (.lit (.i 1)), .int .i64 (.lit (.i 2)), .int .i64 (.lit (.i 1000)), .int .i64 (.lit (.i 8000)), .int .u32 (.lit (.i 100)), .int .i64 (.lit (.i 0)), .int .i64 (.lit (.i 1)), .int .i64 (.lit (.i 0)), .int .i64 (.lit (.i (-1))), .snil] 56, .row [.int .i64 (.lit (.i 8000)), .int .i64 (.lit (.i 0)), .int .i64 (.lit (.i 0)), .snil] 93, .row [.ptr 3 0, .hnd 4, .int .i64 (.lit (.i 0))] 96, .row [.int .i64 (.lit (.i 8000)), .int .i64 (.lit (.i 0)), .int .i64 (.lit (.i 0)), .snil] 93, .map (.lit (.ls []))]⟩,
    [.fixed, .fixed, .fixed, .fixed, .fixed], [], []⟩,
  [],
  [(.ret, ⟨⟨[.tup []],
    [.row [.int .u32 (.lit (.i 100)), .int .i64 (.lit (.i 8000)), .ptr 1 0, .int .i64 (.lit (.i 1)), .int .i64 (.lit (.i 1)), .int .i64 (.lit (.i 1)), .int .i64 (.lit (.i 1)), .int .i64 (.lit (.i 4000)), .int .i64 (.lit (.i 500)), .bool (.lit (.b false)), .bool (.lit (.b true)), .int .i64 (.lit (.i 80)), .int .i64 (.lit (.i 20)), .int .i64 (.lit (.i 1000)), .int .i64 (.lit (.i 0)), .int .i64 (.lit (.i 500)), .int .i64 (.lit (.i 2001)), .int .i64 (.lit (.i 1073741823)), .int .i64 (.lit (.i 0)), .bool (.lit (.b false)), .int .i64 (.lit (.i 0)), .int .i64 (.lit (.i (-1))), .int .i64 (.lit (.i 0)), .int .i64 (.lit (.i (-1))), .int .i64 (.lit (.i (-1))), .int .i64 (.lit (.i 0)), .int .u32 (.lit (.i 900)), .ptr 2 0, .int .i64 (.lit (.i (-1))), .bool (.lit (.b false)), .int .i64 (.lit (.i 8001)), .int .i64 (.lit (.i (-1))), .int .i64 (.lit (.i 0)), .bool (.lit (.b false)), .int .i64 (.lit (.i 1)), .int .i64 (.lit (.i 2)), .int .i64 (.lit (.i 1000)), .int .i64 (.lit (.i 8000)), .int .u32 (.lit (.i 100)), .int .i64 (.lit (.i 10)), .int .i64 (.lit (.i 3)), .int .i64 (.lit (.i 0)), .int .i64 (.lit (.i (-1))), .asl (.lit (.b true)) 5 9 (.lit (.i 0)) (.lit (.i 1))] 56, .row [.int .i64 (.lit (.i 8000)), .int .i64 (.lit (.i 0)), .int .i64 (.lit (.i 0)), .snil] 93, .row [.ptr 3 0, .hnd 4, .int .i64 (.lit (.i 0))] 96, .row [.int .i64 (.lit (.i 8000)), .int .i64 (.lit (.i 0)), .int .i64 (.lit (.i 0)), .snil] 93, .map (.lit (.ls [])), .arr (.row [(.int .i64), (.int .i64), (.int .u32), (.int .u32), (.int .i64), (.int .i64), (.int .i64), (.int .i64), .str]) (.lit (.ls [(.ls [(.i 1), (.i 2), (.i 101), (.i 901), (.i 16), (.i 8000), (.i 0), (.i (-1)), (.s [])])]))]⟩,
    [.fixed, .fixed, .fixed, .fixed, .fixed, .mobile], [], []⟩)]⟩
/-- One round of In. -/
def stepIn  : Option (Nat × List D) :=
  (some (1, []))
set_option maxRecDepth 100000 in
theorem stepIn_eq (F : Nat → D → D)  : stepV F (stepC Tryz.prog z2 11 1000 conIn) [] = stepIn  := by kernel_rfl
def spIn : List D → Option (Nat × List D)
  | [] => stepIn 
  | _ => none
def F3 : Nat → D → D := updF F2 6 fun d => spIn d.toL
theorem wfIn : conIn.wf = true := by kernel_rfl
def z3 : Ext := z2.addCall 11 conIn
def conAwake : Con := ⟨9, ⟨⟨[],
    []⟩,
    [], [], []⟩,
  [],
  [(.ret, ⟨⟨[.bool (.lit (.b true))],
    []⟩,
    [], [], []⟩)]⟩
/-- One round of Awake. -/
def stepAwake (f0 f3 f6 : D → D)  : Option (Nat × List D) :=
  let x0 : D := f0 (D.ls ([] : List D))
  let x1 : Bool := (D.toB x0)
  let x2 : D := f3 (D.ls ([] : List D))
  let x3 : Bool := (D.toB x2)
  let x4 : D := f6 (D.ls ([] : List D))
  let x5 : Bool := (D.toB x4)
  (if x1 then (if x3 then (if x5 then (some (1, [])) else none) else none) else none)
set_option maxRecDepth 100000 in
theorem stepAwake_eq (F : Nat → D → D)  : stepV F (stepC Tryz.prog z3 4 1000 conAwake) [] = stepAwake (F 0) (F 3) (F 6)  := by kernel_rfl
def spAwake : List D → Option (Nat × List D)
  | [] => stepAwake (F3 0) (F3 3) (F3 6) 
  | _ => none
def F4 : Nat → D → D := updF F3 9 fun d => spAwake d.toL
theorem wfAwake : conAwake.wf = true := by kernel_rfl
def z4 : Ext := z3.addCall 4 conAwake
def conSAnswer : Con := ⟨12, ⟨⟨[.int .i64 (.var 0), .agg [.int .i64 (.var 1), .int .i64 (.var 2), .int .i64 (.var 3), .int .i64 (.var 4), .int .u32 (.var 5)], .agg [.int .i64 (.var 6), .int .i64 (.var 7), .int .u32 (.var 8), .int .u32 (.var 9), .int .i64 (.var 10), .int .i64 (.var 11), .int .i64 (.var 12), .int .i64 (.var 13), .str (.var 14)]],
    []⟩,
    [], [.i, .i, .i, .i, .i, .i, .i, .i, .i, .i, .i, .i, .i, .i, .s], []⟩,
  [0, 1, 2, 3, 4, 5, 6, 7, 8, 9, 10, 11, 12, 13, 14],
  [(.ret, ⟨⟨[.nil],
    []⟩,
    [], [], []⟩),
  (.ret, ⟨⟨[.ptr 0 0],
    [.row [.int .u32 (.var 0), .int .i64 (.var 1), .ptr 1 0, .int .i64 (.lit (.i 1)), .int .i64 (.lit (.i 0)), .int .i64 (.lit (.i 1)), .int .i64 (.lit (.i 1)), .int .i64 (.var 2), .int .i64 (.var 3), .bool (.lit (.b false)), .bool (.lit (.b false)), .int .i64 (.lit (.i 0)), .int .i64 (.lit (.i 0)), .int .i64 (.lit (.i 1000)), .int .i64 (.lit (.i 0)), .int .i64 (.var 4), .int .i64 (.var 5), .int .i64 (.lit (.i 1073741823)), .int .i64 (.lit (.i 0)), .bool (.lit (.b false)), .int .i64 (.lit (.i 0)), .int .i64 (.lit (.i 0)), .int .i64 (.var 6), .int .i64 (.var 7), .int .i64 (.lit (.i (-1))), .int .i64 (.lit (.i 0)), .int .u32 (.var 8), .ptr 2 0, .int .i64 (.lit (.i (-1))), .bool (.lit (.b false)), .int .i64 (.var 9), .int .i64 (.lit (.i (-1))), .int .i64 (.lit (.i 0)), .bool (.lit (.b false)), .int .i64 (.var 10), .int .i64 (.var 11), .int .i64 (.var 12), .int .i64 (.var 1), .int .u32 (.var 0), .int .i64 (.var 6), .int .i64 (.lit (.i 2)), .int .i64 (.lit (.i 0)), .int .i64 (.lit (.i (-1))), .asl (.lit (.b true)) 3 9 (.lit (.i 0)) (.lit (.i 1))] 56, .row [.int .i64 (.var 13), .int .i64 (.lit (.i 0)), .int .i64 (.lit (.i 0)), .snil] 93, .row [.ptr 4 0, .hnd 5, .int .i64 (.lit (.i 0))] 96, .arr (.row [(.int .i64), (.int .i64), (.int .u32), (.int .u32), (.int .i64), (.int .i64), (.int .i64), (.int .i64), .str]) (.var 14), .row [.int .i64 (.var 13), .int .i64 (.lit (.i 0)), .int .i64 (.lit (.i 0)), .snil] 93, .map (.lit (.ls []))]⟩,
    [.mobile, .mobile, .mobile, .mobile, .mobile, .mobile], [.i, .i, .i, .i, .i, .i, .i, .i, .i, .i, .i, .i, .i, .i, .l], [some 5, none, some 11, none, none, none, none, none, some 8, none, some 1, some 2, none, none, none]⟩)]⟩
/-- One round of SAnswer. -/
def stepSAnswer (v0 : Int) (v1 : Int) (v2 : Int) (v3 : Int) (v4 : Int) (v5 : Int) (v6 : Int) (v7 : Int) (v8 : Int) (v9 : Int) (v10 : Int) (v11 : Int) (v12 : Int) (v13 : Int) (v14 : List UInt8) : Option (Nat × List D) :=
  let x0 : Int := Go.Sy.bits IntKind.i64 (fun a b => a &&& b) v10 2
  let x1 : Bool := (x0 : Int) != 2
  let x2 : Bool := if x1 then false else true
  let x3 : Bool := !x2
  let x4 : Int := Go.Sy.bits IntKind.i64 (fun a b => a &&& b) v10 20
  let x5 : Bool := (x4 : Int) != 0
  let x6 : Bool := if x3 then true else x5
  let x7 : Int := zmax v4 1
  let x8 : Int := zmin x7 65535
  let x9 : Int := zmax v3 1
  let x10 : Int := zmin x9 65495
  let x11 : Bool := (v12 : Int) == 0
  let x12 : Int := if x11 then 536 else v12
  let x13 : Int := zmin x10 x12
  let x14 : Int := zmax x13 1
  let x15 : Int := zmax x14 1
  let x16 : Int := zmin x15 65535
  let x17 : Int := w64 (4 * x16)
  let x18 : Int := w64 (2 * x16)
  let x19 : Int := zmax x18 4380
  let x20 : Int := zmin x17 x19
  let x21 : Int := zmax v0 0
  let x22 : Int := w64 (x21 + 1000)
  let x23 : Int := zmax x8 0
  let x24 : Int := zmin x23 65535
  let x25 : Int := w64 (x24 - 0)
  let x26 : Int := w64 (1 + x25)
  let x27 : Int := wu32 (v5 + 0)
  let x28 : Int := wu32 (v8 + 1)
  let x29 : List D := (D.i x10) :: ([(D.i (-1)), (D.s [])] : List D)
  let x30 : List D := (D.i x8) :: x29
  let x31 : List D := (D.i 18) :: x30
  let x32 : List D := (D.i x28) :: x31
  let x33 : List D := (D.i x27) :: x32
  let x34 : List D := (D.i v2) :: x33
  let x35 : List D := (D.i v1) :: x34
  let x36 : List D := (D.ls x35) :: ([] : List D)
  let x37 : List D := ([] : List D) ++ x36
  (if x6 then (some (1, [])) else (some (2, [.i v5, .i x8, .i v11, .i x14, .i x16, .i x20, .i x21, .i x22, .i v8, .i x26, .i v1, .i v2, .i x10, .i x24, .ls x37])))
set_option maxRecDepth 100000 in
theorem stepSAnswer_eq (F : Nat → D → D) (v0 : Int) (v1 : Int) (v2 : Int) (v3 : Int) (v4 : Int) (v5 : Int) (v6 : Int) (v7 : Int) (v8 : Int) (v9 : Int) (v10 : Int) (v11 : Int) (v12 : Int) (v13 : Int) (v14 : List UInt8) : stepV F (stepC Tryz.prog z4 5 1000 conSAnswer) [.i v0, .i v1, .i v2, .i v3, .i v4, .i v5, .i v6, .i v7, .i v8, .i v9, .i v10, .i v11, .i v12, .i v13, .s v14] = stepSAnswer v0 v1 v2 v3 v4 v5 v6 v7 v8 v9 v10 v11 v12 v13 v14 := by kernel_rfl
def spSAnswer : List D → Option (Nat × List D)
  | [.i v0, .i v1, .i v2, .i v3, .i v4, .i v5, .i v6, .i v7, .i v8, .i v9, .i v10, .i v11, .i v12, .i v13, .s v14] => stepSAnswer v0 v1 v2 v3 v4 v5 v6 v7 v8 v9 v10 v11 v12 v13 v14
  | _ => none
def F5 : Nat → D → D := updF F4 12 fun d => spSAnswer d.toL
theorem wfSAnswer : conSAnswer.wf = true := by kernel_rfl
def z5 : Ext := z4.addCall 5 conSAnswer
def conRAnswer : Con := ⟨15, ⟨⟨[.int .i64 (.var 0), .agg [.int .i64 (.var 1), .int .i64 (.var 2), .int .i64 (.var 3), .int .i64 (.var 4), .int .u32 (.var 5)], .agg [.int .i64 (.var 6), .int .i64 (.var 7), .int .u32 (.var 8), .int .u32 (.var 9), .int .i64 (.var 10), .int .i64 (.var 11), .int .i64 (.var 12), .int .i64 (.var 13), .str (.var 14)]],
    []⟩,
    [], [.i, .i, .i, .i, .i, .i, .i, .i, .i, .i, .i, .i, .i, .i, .s], []⟩,
  [0, 1, 2, 3, 4, 5, 6, 7, 8, 9, 10, 11, 12, 13, 14],
  [(.ret, ⟨⟨[.nil],
    []⟩,
    [], [], []⟩),
  (.ret, ⟨⟨[.ptr 0 0],
    [.row [.int .i64 (.var 0), .int .i64 (.var 1), .int .i64 (.var 2), .int .i64 (.var 3), .int .i64 (.var 4), .int .u32 (.var 5), .int .i64 (.lit (.i 2)), .int .i64 (.lit (.i 0)), .str (.lit (.s [])), .int .i64 (.lit (.i 1)), .int .i64 (.lit (.i 0)), .int .i64 (.lit (.i 1)), .int .i64 (.lit (.i 1)), .int .i64 (.var 6), .bool (.lit (.b false)), .int .i64 (.var 7), .bool (.lit (.b false)), .int .i64 (.lit (.i 0)), .int .i64 (.lit (.i 0)), .int .i64 (.lit (.i 1000)), .int .i64 (.lit (.i 0)), .int .i64 (.var 8), .int .i64 (.var 9), .int .i64 (.lit (.i 1073741823)), .int .i64 (.lit (.i 0)), .bool (.lit (.b false)), .int .i64 (.lit (.i 0)), .int .i64 (.lit (.i 0)), .int .i64 (.var 0), .int .u32 (.var 10), .ptr 1 0, .int .i64 (.lit (.i (-1))), .bool (.lit (.b false)), .int .i64 (.var 11), .int .i64 (.var 12), .int .i64 (.lit (.i (-1))), .int .i64 (.lit (.i (-1))), .int .i64 (.lit (.i (-1))), .int .i64 (.lit (.i 0)), .int .i64 (.lit (.i 0)), .bool (.lit (.b false)), .asl (.lit (.b true)) 2 9 (.lit (.i 0)) (.lit (.i 1))] 62, .row [.int .i64 (.var 13), .int .i64 (.lit (.i 0)), .str (.lit (.s [])), .asl (.lit (.b true)) 3 1 (.lit (.i 0)) (.var 13), .asl (.lit (.b true)) 4 1 (.lit (.i 0)) (.var 13)] 68, .arr (.row [(.int .i64), (.int .i64), (.int .u32), (.int .u32), (.int .i64), (.int .i64), (.int .i64), (.int .i64), .str]) (.var 14), .arr (.one .bool) (.var 15), .arr (.one (.int .u8)) (.var 16)]⟩,
    [.mobile, .mobile, .mobile, .mobile, .mobile], [.i, .i, .i, .i, .i, .i, .i, .i, .i, .i, .i, .i, .i, .i, .l, .l, .l], [none, some 1, some 2, none, none, some 5, some 11, none, none, none, some 8, none, none, none, none, none, none]⟩)]⟩
/-- One round of RAnswer. -/
def stepRAnswer (v0 : Int) (v1 : Int) (v2 : Int) (v3 : Int) (v4 : Int) (v5 : Int) (v6 : Int) (v7 : Int) (v8 : Int) (v9 : Int) (v10 : Int) (v11 : Int) (v12 : Int) (v13 : Int) (v14 : List UInt8) : Option (Nat × List D) :=
  let x0 : Int := Go.Sy.bits IntKind.i64 (fun a b => a &&& b) v10 2
  let x1 : Bool := (x0 : Int) == 0
  let x2 : Int := Go.Sy.bits IntKind.i64 (fun a b => a &&& b) v10 20
  let x3 : Bool := (x2 : Int) != 0
  let x4 : Bool := if x1 then true else x3
  let x5 : Bool := decide ((v4 : Int) < 1)
  let x6 : Bool := decide ((v4 : Int) > 65535)
  let x7 : Int := if x6 then 65535 else v4
  let x8 : Int := if x5 then 1 else x7
  let x9 : Bool := decide ((x8 : Int) < 0)
  let x10 : Bool := decide ((x8 : Int) > 65535)
  let x11 : Int := if x10 then 65535 else x8
  let x12 : Int := if x9 then 0 else x11
  let x13 : Bool := decide ((x12 : Int) ≥ 0)
  let x14 : Bool := decide ((x12 : Int) ≤ 1099511627776)
  let x15 : Bool := if x13 then x14 else false
  let x16 : Bool := if x4 then true else x15
  let x17 : Bool := decide ((0 : Int) > v0)
  let x18 : Int := if x17 then 0 else v0
  let x19 : Bool := decide ((v3 : Int) < 1)
  let x20 : Bool := decide ((v3 : Int) > 65495)
  let x21 : Int := if x20 then 65495 else v3
  let x22 : Int := if x19 then 1 else x21
  let x23 : Bool := (v12 : Int) == 0
  let x24 : Int := if x23 then 536 else v12
  let x25 : Bool := decide ((x22 : Int) < x24)
  let x26 : Int := if x25 then x22 else x24
  let x27 : Bool := decide ((x26 : Int) > 1)
  let x28 : Int := if x27 then x26 else 1
  let x29 : Bool := decide ((x28 : Int) < 1)
  let x30 : Bool := decide ((x28 : Int) > 65535)
  let x31 : Int := if x30 then 65535 else x28
  let x32 : Int := if x29 then 1 else x31
  let x33 : Int := w64 (4 * x32)
  let x34 : Bool := decide ((x33 : Int) < x32)
  let x35 : Int := w64 (2 * x32)
  let x36 : Bool := decide ((x35 : Int) < 4380)
  let x37 : Int := if x36 then 4380 else x35
  let x38 : Bool := decide ((x33 : Int) > x37)
  let x39 : Int := if x38 then x37 else x33
  let x40 : Int := if x34 then x32 else x39
  let x41 : Int := w64 (x12 - 0)
  let x42 : Int := w64 (1 + x41)
  let x43 : Int := w64 (x18 + 1000)
  let x44 : Int := w64 v5
  let x45 : Int := w64 (0 + x44)
  let x46 : Int := Int.tmod x45 4294967296
  let x47 : Bool := decide ((x46 : Int) < 0)
  let x48 : Int := w64 (x46 + 4294967296)
  let x49 : Int := if x47 then x48 else x46
  let x50 : Int := wu32 x49
  let x51 : Int := w64 v8
  let x52 : Int := w64 (1 + x51)
  let x53 : Int := Int.tmod x52 4294967296
  let x54 : Bool := decide ((x53 : Int) < 0)
  let x55 : Int := w64 (x53 + 4294967296)
  let x56 : Int := if x54 then x55 else x53
  let x57 : Int := wu32 x56
  let x58 : List D := (D.i x22) :: ([(D.i (-1)), (D.s [])] : List D)
  let x59 : List D := (D.i x8) :: x58
  let x60 : List D := (D.i 18) :: x59
  let x61 : List D := (D.i x57) :: x60
  let x62 : List D := (D.i x50) :: x61
  let x63 : List D := (D.i v2) :: x62
  let x64 : List D := (D.i v1) :: x63
  let x65 : List D := (D.ls x64) :: ([] : List D)
  let x66 : List D := ([] : List D) ++ x65
  let x67 : List D := List.replicate (Int.toNat x12) (D.b false)
  let x68 : List D := List.replicate (Int.toNat x12) (D.i 0)
  (if x16 then (if x16 then (if x4 then (some (1, [])) else (some (2, [.i x18, .i v1, .i v2, .i x22, .i x8, .i v5, .i v11, .i x28, .i x32, .i x40, .i v8, .i x42, .i x43, .i x12, .ls x66, .ls x67, .ls x68]))) else none) else none)
set_option maxRecDepth 100000 in
theorem stepRAnswer_eq (F : Nat → D → D) (v0 : Int) (v1 : Int) (v2 : Int) (v3 : Int) (v4 : Int) (v5 : Int) (v6 : Int) (v7 : Int) (v8 : Int) (v9 : Int) (v10 : Int) (v11 : Int) (v12 : Int) (v13 : Int) (v14 : List UInt8) : stepV F (stepC Tryz.prog z5 6 1000 conRAnswer) [.i v0, .i v1, .i v2, .i v3, .i v4, .i v5, .i v6, .i v7, .i v8, .i v9, .i v10, .i v11, .i v12, .i v13, .s v14] = stepRAnswer v0 v1 v2 v3 v4 v5 v6 v7 v8 v9 v10 v11 v12 v13 v14 := by kernel_rfl
def spRAnswer : List D → Option (Nat × List D)
  | [.i v0, .i v1, .i v2, .i v3, .i v4, .i v5, .i v6, .i v7, .i v8, .i v9, .i v10, .i v11, .i v12, .i v13, .s v14] => stepRAnswer v0 v1 v2 v3 v4 v5 v6 v7 v8 v9 v10 v11 v12 v13 v14
  | _ => none
def F6 : Nat → D → D := updF F5 15 fun d => spRAnswer d.toL
theorem wfRAnswer : conRAnswer.wf = true := by kernel_rfl
def z6 : Ext := z5.addCall 6 conRAnswer
def conIs : Con := ⟨18, ⟨⟨[.ptr 0 0],
    [.row [.ptr 1 0, .ptr 2 0, .int .i64 (.lit (.i 0))] 34, .row [.int .u32 (.var 0), .int .i64 (.var 1), .ptr 3 0, .int .i64 (.lit (.i 1)), .int .i64 (.lit (.i 0)), .int .i64 (.lit (.i 1)), .int .i64 (.lit (.i 1)), .int .i64 (.var 2), .int .i64 (.var 3), .bool (.lit (.b false)), .bool (.lit (.b false)), .int .i64 (.lit (.i 0)), .int .i64 (.lit (.i 0)), .int .i64 (.lit (.i 1000)), .int .i64 (.lit (.i 0)), .int .i64 (.var 4), .int .i64 (.var 5), .int .i64 (.lit (.i 1073741823)), .int .i64 (.lit (.i 0)), .bool (.lit (.b false)), .int .i64 (.lit (.i 0)), .int .i64 (.lit (.i 0)), .int .i64 (.var 6), .int .i64 (.var 7), .int .i64 (.lit (.i (-1))), .int .i64 (.lit (.i 0)), .int .u32 (.var 8), .ptr 4 0, .int .i64 (.lit (.i (-1))), .bool (.lit (.b false)), .int .i64 (.var 9), .int .i64 (.lit (.i (-1))), .int .i64 (.lit (.i 0)), .bool (.lit (.b false)), .int .i64 (.var 10), .int .i64 (.var 11), .int .i64 (.var 12), .int .i64 (.var 1), .int .u32 (.var 0), .int .i64 (.var 6), .int .i64 (.lit (.i 2)), .int .i64 (.lit (.i 0)), .int .i64 (.lit (.i (-1))), .asl (.lit (.b true)) 5 9 (.lit (.i 0)) (.lit (.i 1))] 56, .row [.int .i64 (.var 13), .int .i64 (.var 10), .int .i64 (.var 11), .int .i64 (.var 14), .int .i64 (.var 15), .int .u32 (.var 0), .int .i64 (.lit (.i 2)), .int .i64 (.lit (.i 0)), .str (.lit (.s [])), .int .i64 (.lit (.i 1)), .int .i64 (.lit (.i 0)), .int .i64 (.lit (.i 1)), .int .i64 (.lit (.i 1)), .int .i64 (.var 2), .bool (.lit (.b false)), .int .i64 (.var 16), .bool (.lit (.b false)), .int .i64 (.lit (.i 0)), .int .i64 (.lit (.i 0)), .int .i64 (.lit (.i 1000)), .int .i64 (.lit (.i 0)), .int .i64 (.var 17), .int .i64 (.var 18), .int .i64 (.lit (.i 1073741823)), .int .i64 (.lit (.i 0)), .bool (.lit (.b false)), .int .i64 (.lit (.i 0)), .int .i64 (.lit (.i 0)), .int .i64 (.var 13), .int .u32 (.var 8), .ptr 6 0, .int .i64 (.lit (.i (-1))), .bool (.lit (.b false)), .int .i64 (.var 19), .int .i64 (.var 20), .int .i64 (.lit (.i (-1))), .int .i64 (.lit (.i (-1))), .int .i64 (.lit (.i (-1))), .int .i64 (.lit (.i 0)), .int .i64 (.lit (.i 0)), .bool (.lit (.b false)), .asl (.lit (.b true)) 7 9 (.lit (.i 0)) (.lit (.i 1))] 62, .row [.int .i64 (.var 21), .int .i64 (.lit (.i 0)), .int .i64 (.lit (.i 0)), .snil] 93, .row [.ptr 8 0, .hnd 9, .int .i64 (.lit (.i 0))] 96, .arr (.row [(.int .i64), (.int .i64), (.int .u32), (.int .u32), (.int .i64), (.int .i64), (.int .i64), (.int .i64), .str]) (.var 22), .row [.int .i64 (.var 23), .int .i64 (.lit (.i 0)), .str (.lit (.s [])), .asl (.lit (.b true)) 10 1 (.lit (.i 0)) (.var 23), .asl (.lit (.b true)) 11 1 (.lit (.i 0)) (.var 23)] 68, .arr (.row [(.int .i64), (.int .i64), (.int .u32), (.int .u32), (.int .i64), (.int .i64), (.int .i64), (.int .i64), .str]) (.var 24), .row [.int .i64 (.var 21), .int .i64 (.lit (.i 0)), .int .i64 (.lit (.i 0)), .snil] 93, .map (.lit (.ls [])), .arr (.one .bool) (.var 25), .arr (.one (.int .u8)) (.var 26)]⟩,
    [.fixed, .fixed, .fixed, .fixed, .fixed, .fixed, .fixed, .fixed, .fixed, .fixed, .fixed, .fixed], [.i, .i, .i, .i, .i, .i, .i, .i, .i, .i, .i, .i, .i, .i, .i, .i, .i, .i, .i, .i, .i, .i, .l, .i, .l, .l, .l], []⟩,
  [0, 1, 2, 3, 4, 5, 6, 7, 8, 9, 10, 11, 12, 13, 14, 15, 16, 17, 18, 19, 20, 21, 22, 23, 24, 25, 26],
  [(.ret, ⟨⟨[.bool (.var 0)],
    [.row [.ptr 1 0, .ptr 2 0, .int .i64 (.lit (.i 0))] 34, .row [.int .u32 (.var 1), .int .i64 (.var 2), .ptr 3 0, .int .i64 (.lit (.i 1)), .int .i64 (.lit (.i 0)), .int .i64 (.lit (.i 1)), .int .i64 (.lit (.i 1)), .int .i64 (.var 3), .int .i64 (.var 4), .bool (.lit (.b false)), .bool (.lit (.b false)), .int .i64 (.lit (.i 0)), .int .i64 (.lit (.i 0)), .int .i64 (.lit (.i 1000)), .int .i64 (.lit (.i 0)), .int .i64 (.var 5), .int .i64 (.var 6), .int .i64 (.lit (.i 1073741823)), .int .i64 (.lit (.i 0)), .bool (.lit (.b false)), .int .i64 (.lit (.i 0)), .int .i64 (.lit (.i 0)), .int .i64 (.var 7), .int .i64 (.var 8), .int .i64 (.lit (.i (-1))), .int .i64 (.lit (.i 0)), .int .u32 (.var 9), .ptr 4 0, .int .i64 (.lit (.i (-1))), .bool (.lit (.b false)), .int .i64 (.var 10), .int .i64 (.lit (.i (-1))), .int .i64 (.lit (.i 0)), .bool (.lit (.b false)), .int .i64 (.var 11), .int .i64 (.var 12), .int .i64 (.var 13), .int .i64 (.var 2), .int .u32 (.var 1), .int .i64 (.var 7), .int .i64 (.lit (.i 2)), .int .i64 (.lit (.i 0)), .int .i64 (.lit (.i (-1))), .snil] 56, .row [.int .i64 (.var 14), .int .i64 (.var 11), .int .i64 (.var 12), .int .i64 (.var 15), .int .i64 (.var 16), .int .u32 (.var 1), .int .i64 (.lit (.i 2)), .int .i64 (.lit (.i 0)), .str (.lit (.s [])), .int .i64 (.lit (.i 1)), .int .i64 (.lit (.i 0)), .int .i64 (.lit (.i 1)), .int .i64 (.lit (.i 1)), .int .i64 (.var 3), .bool (.lit (.b false)), .int .i64 (.var 17), .bool (.lit (.b false)), .int .i64 (.lit (.i 0)), .int .i64 (.lit (.i 0)), .int .i64 (.lit (.i 1000)), .int .i64 (.lit (.i 0)), .int .i64 (.var 18), .int .i64 (.var 19), .int .i64 (.lit (.i 1073741823)), .int .i64 (.lit (.i 0)), .bool (.lit (.b false)), .int .i64 (.lit (.i 0)), .int .i64 (.lit (.i 0)), .int .i64 (.var 14), .int .u32 (.var 9), .ptr 6 0, .int .i64 (.lit (.i (-1))), .bool (.lit (.b false)), .int .i64 (.var 20), .int .i64 (.var 21), .int .i64 (.lit (.i (-1))), .int .i64 (.lit (.i (-1))), .int .i64 (.lit (.i (-1))), .int .i64 (.lit (.i 0)), .int .i64 (.lit (.i 0)), .bool (.lit (.b false)), .snil] 62, .row [.int .i64 (.var 22), .int .i64 (.lit (.i 0)), .int .i64 (.lit (.i 0)), .snil] 93, .row [.ptr 8 0, .hnd 9, .int .i64 (.lit (.i 0))] 96, .arr (.row [(.int .i64), (.int .i64), (.int .u32), (.int .u32), (.int .i64), (.int .i64), (.int .i64), (.int .i64), .str]) (.var 23), .row [.int .i64 (.var 24), .int .i64 (.lit (.i 0)), .str (.lit (.s [])), .asl (.lit (.b true)) 10 1 (.lit (.i 0)) (.var 24), .asl (.lit (.b true)) 11 1 (.lit (.i 0)) (.var 24)] 68, .arr (.row [(.int .i64), (.int .i64), (.int .u32), (.int .u32), (.int .i64), (.int .i64), (.int .i64), (.int .i64), .str]) (.var 25), .row [.int .i64 (.var 22), .int .i64 (.lit (.i 0)), .int .i64 (.lit (.i 0)), .snil] 93, .map (.lit (.ls [])), .arr (.one .bool) (.var 26), .arr (.one (.int .u8)) (.var 27)]⟩,
    [.fixed, .fixed, .fixed, .fixed, .fixed, .fixed, .fixed, .fixed, .fixed, .fixed, .fixed, .fixed], [.b, .i, .i, .i, .i, .i, .i, .i, .i, .i, .i, .i, .i, .i, .i, .i, .i, .i, .i, .i, .i, .i, .i, .l, .i, .l, .l, .l], [none, some 0, some 1, some 2, some 3, some 4, some 5, some 6, some 7, some 8, some 9, some 10, some 11, some 12, some 13, some 14, some 15, some 16, some 17, some 18, some 19, some 20, some 21, some 22, some 23, some 24, some 25, some 26]⟩)]⟩
/-- One round of Is. -/
def stepIs (v0 : Int) (v1 : Int) (v2 : Int) (v3 : Int) (v4 : Int) (v5 : Int) (v6 : Int) (v7 : Int) (v8 : Int) (v9 : Int) (v10 : Int) (v11 : Int) (v12 : Int) (v13 : Int) (v14 : Int) (v15 : Int) (v16 : Int) (v17 : Int) (v18 : Int) (v19 : Int) (v20 : Int) (v21 : Int) (v22 : List D) (v23 : Int) (v24 : List D) (v25 : List D) (v26 : List D) : Option (Nat × List D) :=
  let x0 : Int := ((v22).length : Int)
  let x1 : Bool := decide ((0 : Int) < x0)
  let x2 : Int := ((v24).length : Int)
  let x3 : Bool := decide ((0 : Int) < x2)
  let x4 : D := (v22).getD (Int.toNat 0) (D.i 0)
  let x5 : D := ((D.toL x4)).getD 0 (D.i 0)
  let x6 : Int := (D.toI x5)
  let x7 : D := (v24).getD (Int.toNat 0) (D.i 0)
  let x8 : D := ((D.toL x7)).getD 0 (D.i 0)
  let x9 : Int := (D.toI x8)
  let x10 : Bool := (x6 : Int) == x9
  let x11 : D := ((D.toL x4)).getD 1 (D.i 0)
  let x12 : Int := (D.toI x11)
  let x13 : D := ((D.toL x7)).getD 1 (D.i 0)
  let x14 : Int := (D.toI x13)
  let x15 : Bool := (x12 : Int) == x14
  let x16 : D := ((D.toL x4)).getD 2 (D.i 0)
  let x17 : Int := (D.toI x16)
  let x18 : D := ((D.toL x7)).getD 2 (D.i 0)
  let x19 : Int := (D.toI x18)
  let x20 : Bool := (x17 : Int) == x19
  let x21 : D := ((D.toL x4)).getD 3 (D.i 0)
  let x22 : Int := (D.toI x21)
  let x23 : D := ((D.toL x7)).getD 3 (D.i 0)
  let x24 : Int := (D.toI x23)
  let x25 : Bool := (x22 : Int) == x24
  let x26 : D := ((D.toL x4)).getD 4 (D.i 0)
  let x27 : Int := (D.toI x26)
  let x28 : D := ((D.toL x7)).getD 4 (D.i 0)
  let x29 : Int := (D.toI x28)
  let x30 : Bool := (x27 : Int) == x29
  let x31 : D := ((D.toL x4)).getD 5 (D.i 0)
  let x32 : Int := (D.toI x31)
  let x33 : D := ((D.toL x7)).getD 5 (D.i 0)
  let x34 : Int := (D.toI x33)
  let x35 : Bool := (x32 : Int) == x34
  let x36 : D := ((D.toL x4)).getD 6 (D.i 0)
  let x37 : Int := (D.toI x36)
  let x38 : D := ((D.toL x7)).getD 6 (D.i 0)
  let x39 : Int := (D.toI x38)
  let x40 : Bool := (x37 : Int) == x39
  let x41 : D := ((D.toL x4)).getD 7 (D.i 0)
  let x42 : Int := (D.toI x41)
  let x43 : D := ((D.toL x7)).getD 7 (D.i 0)
  let x44 : Int := (D.toI x43)
  let x45 : Bool := (x42 : Int) == x44
  let x46 : D := ((D.toL x4)).getD 8 (D.i 0)
  let x47 : List UInt8 := (D.toS x46)
  let x48 : D := ((D.toL x7)).getD 8 (D.i 0)
  let x49 : List UInt8 := (D.toS x48)
  let x50 : Bool := (x47 : List UInt8) == x49
  let x51 : Bool := if x45 then x50 else false
  let x52 : Bool := if x40 then x51 else false
  let x53 : Bool := if x35 then x52 else false
  let x54 : Bool := if x30 then x53 else false
  let x55 : Bool := if x25 then x54 else false
  let x56 : Bool := if x20 then x55 else false
  let x57 : Bool := if x15 then x56 else false
  let x58 : Bool := if x10 then x57 else false
  let x59 : Bool := !x58
  let x60 : Bool := if x59 then false else true
  let x61 : Bool := (v7 : Int) != (-1)
  let x62 : Int := if x61 then v7 else (-1)
  let x63 : Bool := (v20 : Int) != (-1)
  let x64 : Int := if x63 then v20 else (-1)
  let x65 : Bool := (x62 : Int) == x64
  let x66 : Int := w64 (v21 - 0)
  let x67 : Int := w64 (v15 - 0)
  let x68 : Bool := (x66 : Int) == x67
  let x69 : Bool := if x65 then x68 else false
  let x70 : Bool := if x60 then x69 else false
  (if x1 then (if x3 then (some (1, [.b x70, .i v0, .i v1, .i v2, .i v3, .i v4, .i v5, .i v6, .i v7, .i v8, .i v9, .i v10, .i v11, .i v12, .i v13, .i v14, .i v15, .i v16, .i v17, .i v18, .i v19, .i v20, .i v21, .ls v22, .i v23, .ls v24, .ls v25, .ls v26])) else none) else none)
set_option maxRecDepth 100000 in
theorem stepIs_eq (F : Nat → D → D) (v0 : Int) (v1 : Int) (v2 : Int) (v3 : Int) (v4 : Int) (v5 : Int) (v6 : Int) (v7 : Int) (v8 : Int) (v9 : Int) (v10 : Int) (v11 : Int) (v12 : Int) (v13 : Int) (v14 : Int) (v15 : Int) (v16 : Int) (v17 : Int) (v18 : Int) (v19 : Int) (v20 : Int) (v21 : Int) (v22 : List D) (v23 : Int) (v24 : List D) (v25 : List D) (v26 : List D) : stepV F (stepC Tryz.prog z6 7 1000 conIs) [.i v0, .i v1, .i v2, .i v3, .i v4, .i v5, .i v6, .i v7, .i v8, .i v9, .i v10, .i v11, .i v12, .i v13, .i v14, .i v15, .i v16, .i v17, .i v18, .i v19, .i v20, .i v21, .ls v22, .i v23, .ls v24, .ls v25, .ls v26] = stepIs v0 v1 v2 v3 v4 v5 v6 v7 v8 v9 v10 v11 v12 v13 v14 v15 v16 v17 v18 v19 v20 v21 v22 v23 v24 v25 v26 := by kernel_rfl
def spIs : List D → Option (Nat × List D)
  | [.i v0, .i v1, .i v2, .i v3, .i v4, .i v5, .i v6, .i v7, .i v8, .i v9, .i v10, .i v11, .i v12, .i v13, .i v14, .i v15, .i v16, .i v17, .i v18, .i v19, .i v20, .i v21, .ls v22, .i v23, .ls v24, .ls v25, .ls v26] => stepIs v0 v1 v2 v3 v4 v5 v6 v7 v8 v9 v10 v11 v12 v13 v14 v15 v16 v17 v18 v19 v20 v21 v22 v23 v24 v25 v26
  | _ => none
def F7 : Nat → D → D := updF F6 18 fun d => spIs d.toL
theorem wfIs : conIs.wf = true := by kernel_rfl
def z7 : Ext := z6.addCall 7 conIs
theorem good0 : Go.Sy.Good Tryz.prog Om.none F7 z0 := Good.none
theorem hsDial : ∀ l r, spDial l = some r → stepV F7 (stepC Tryz.prog z0 9 1000 conDial) l = some r := by
  intro l r h
  unfold spDial at h
  split at h
  · rw [stepDial_eq]; exact h
  · cases h
theorem good1 : Go.Sy.Good Tryz.prog Om.none F7 z1 :=
  Good.call (n := 1000) Tryz.checked.mixed good0 wfDial (specC_of (sp := spDial) (by kernel_rfl) (by kernel_rfl) (by kernel_rfl) hsDial)
theorem hsAnswer : ∀ l r, spAnswer l = some r → stepV F7 (stepC Tryz.prog z1 5 1000 conAnswer) l = some r := by
  intro l r h
  unfold spAnswer at h
  split at h
  · rw [stepAnswer_eq]; exact h
  · cases h
theorem good2 : Go.Sy.Good Tryz.prog Om.none F7 z2 :=
  Good.call (n := 1000) Tryz.checked.mixed good1 wfAnswer (specC_of (sp := spAnswer) (by kernel_rfl) (by kernel_rfl) (by kernel_rfl) hsAnswer)
theorem hsIn : ∀ l r, spIn l = some r → stepV F7 (stepC Tryz.prog z2 11 1000 conIn) l = some r := by
  intro l r h
  unfold spIn at h
  split at h
  · rw [stepIn_eq]; exact h
  · cases h
theorem good3 : Go.Sy.Good Tryz.prog Om.none F7 z3 :=
  Good.call (n := 1000) Tryz.checked.mixed good2 wfIn (specC_of (sp := spIn) (by kernel_rfl) (by kernel_rfl) (by kernel_rfl) hsIn)
theorem hsAwake : ∀ l r, spAwake l = some r → stepV F7 (stepC Tryz.prog z3 4 1000 conAwake) l = some r := by
  intro l r h
  unfold spAwake at h
  split at h
  · rw [stepAwake_eq, show F7 0 = F3 0 by kernel_rfl, show F7 3 = F3 3 by kernel_rfl, show F7 6 = F3 6 by kernel_rfl]; exact h
  · cases h
theorem good4 : Go.Sy.Good Tryz.prog Om.none F7 z4 :=
  Good.call (n := 1000) Tryz.checked.mixed good3 wfAwake (specC_of (sp := spAwake) (by kernel_rfl) (by kernel_rfl) (by kernel_rfl) hsAwake)
theorem hsSAnswer : ∀ l r, spSAnswer l = some r → stepV F7 (stepC Tryz.prog z4 5 1000 conSAnswer) l = some r := by
  intro l r h
  unfold spSAnswer at h
  split at h
  · rw [stepSAnswer_eq]; exact h
  · cases h
theorem good5 : Go.Sy.Good Tryz.prog Om.none F7 z5 :=
  Good.call (n := 1000) Tryz.checked.mixed good4 wfSAnswer (specC_of (sp := spSAnswer) (by kernel_rfl) (by kernel_rfl) (by kernel_rfl) hsSAnswer)
theorem hsRAnswer : ∀ l r, spRAnswer l = some r → stepV F7 (stepC Tryz.prog z5 6 1000 conRAnswer) l = some r := by
  intro l r h
  unfold spRAnswer at h
  split at h
  · rw [stepRAnswer_eq]; exact h
  · cases h
theorem good6 : Go.Sy.Good Tryz.prog Om.none F7 z6 :=
  Good.call (n := 1000) Tryz.checked.mixed good5 wfRAnswer (specC_of (sp := spRAnswer) (by kernel_rfl) (by kernel_rfl) (by kernel_rfl) hsRAnswer)
theorem hsIs : ∀ l r, spIs l = some r → stepV F7 (stepC Tryz.prog z6 7 1000 conIs) l = some r := by
  intro l r h
  unfold spIs at h
  split at h
  · rw [stepIs_eq]; exact h
  · cases h
theorem good7 : Go.Sy.Good Tryz.prog Om.none F7 z7 :=
  Good.call (n := 1000) Tryz.checked.mixed good6 wfIs (specC_of (sp := spIs) (by kernel_rfl) (by kernel_rfl) (by kernel_rfl) hsIs)
theorem F_0 (d : D) : F7 0 d = .b (spDial d.toL).isSome := by kernel_rfl
theorem F_1 (d : D) : F7 1 d = .i (match spDial d.toL with | some (j, _) => (j : Int) - 1 | none => 0) := by kernel_rfl
theorem F_2 (d : D) : F7 2 d = .ls (match spDial d.toL with | some (_, ys) => ys | none => []) := by kernel_rfl
theorem F_3 (d : D) : F7 3 d = .b (spAnswer d.toL).isSome := by kernel_rfl
theorem F_4 (d : D) : F7 4 d = .i (match spAnswer d.toL with | some (j, _) => (j : Int) - 1 | none => 0) := by kernel_rfl
theorem F_5 (d : D) : F7 5 d = .ls (match spAnswer d.toL with | some (_, ys) => ys | none => []) := by kernel_rfl
theorem F_6 (d : D) : F7 6 d = .b (spIn d.toL).isSome := by kernel_rfl
theorem F_7 (d : D) : F7 7 d = .i (match spIn d.toL with | some (j, _) => (j : Int) - 1 | none => 0) := by kernel_rfl
theorem F_8 (d : D) : F7 8 d = .ls (match spIn d.toL with | some (_, ys) => ys | none => []) := by kernel_rfl
theorem F_9 (d : D) : F7 9 d = .b (spAwake d.toL).isSome := by kernel_rfl
theorem F_10 (d : D) : F7 10 d = .i (match spAwake d.toL with | some (j, _) => (j : Int) - 1 | none => 0) := by kernel_rfl
theorem F_11 (d : D) : F7 11 d = .ls (match spAwake d.toL with | some (_, ys) => ys | none => []) := by kernel_rfl
theorem F_12 (d : D) : F7 12 d = .b (spSAnswer d.toL).isSome := by kernel_rfl
theorem F_13 (d : D) : F7 13 d = .i (match spSAnswer d.toL with | some (j, _) => (j : Int) - 1 | none => 0) := by kernel_rfl
theorem F_14 (d : D) : F7 14 d = .ls (match spSAnswer d.toL with | some (_, ys) => ys | none => []) := by kernel_rfl
theorem F_15 (d : D) : F7 15 d = .b (spRAnswer d.toL).isSome := by kernel_rfl
theorem F_16 (d : D) : F7 16 d = .i (match spRAnswer d.toL with | some (j, _) => (j : Int) - 1 | none => 0) := by kernel_rfl
theorem F_17 (d : D) : F7 17 d = .ls (match spRAnswer d.toL with | some (_, ys) => ys | none => []) := by kernel_rfl
theorem F_18 (d : D) : F7 18 d = .b (spIs d.toL).isSome := by kernel_rfl
theorem F_19 (d : D) : F7 19 d = .i (match spIs d.toL with | some (j, _) => (j : Int) - 1 | none => 0) := by kernel_rfl
theorem F_20 (d : D) : F7 20 d = .ls (match spIs d.toL with | some (_, ys) => ys | none => []) := by kernel_rfl
end Go.Proofs.YtdjcdcijhhjpiaaGreat.connAnswers
