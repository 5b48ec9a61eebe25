/-
  No cell of these rows narrows 'for every input' (looked for: loops, veiled, ifaces, maps, wideKeys, modest, calm, conditions, laid).
  DERIVED. THE GIVEN ROWS OF THIS SEAT. 7 by the template 'for every input the law returns true; each argument reads behind the call as it read before'; 0 by the template 'total and deterministic' (their statements: YtbbippgnmllcoaaTotals.lean).
  GIVEN WITH THE SEED: the statements are not yours to turn. If you find one false, say at which input.
  Laid BY PROGRAM, IN A SANDBOX (cutbox-rows.mjs): the forced cells as the released guide's own fill.sh prints them over the translation 0643b4de9b465d2c… (all of the seat's roots in one cut). By AI agents, Wed Nov 11 2026. No macro, syntax, notation, axiom, sorry.
-/
import Derived.Test.YtbbippgnmllcoaaChecked
import GoSem.Claim
import GoSem.ClaimJoined
import GoSem.ClaimMapViews
import Derived.JoinedTies
import Derived.KernelRfl
namespace Go.Proofs.Ytbbippgnmllcoaa
/- THE CELL 'sum', in the pinned program and in every row, IS THE sha256 OF THE DUMP (.gsa) THAT YtbbippgnmllcoaaProg.lean LOADS. Nothing in Lean hashes anything: it is a label: what it is worth is what the hold of that sum in a sandbox is worth. -/
noncomputable def Try.pinned : Pinned := { name := "ytbbippgnmllcoaa", sum := "0643b4de9b465d2c8659c10da93ef850a7008fd835691f2906e2093ba6f5f6b9", checked := Try.checked }
namespace Rows
def none {H : Type} : Left H := { results := [], args := [] }

/-- 'aditlaw17.SeqNumbers': WHATEVER THE INPUT: true; the input reads as it did. -/
def seqNumbersSpec : ChangeSpec := { name := "seqNumbers", fn := fun _ => fun
  | [d1, d2, d3] => { results := [.lit (.bool true)], args := [d1, d2, d3] }
  | _ => none }
def seqNumbersRow : OpenClaim := { program := "ytbbippgnmllcoaa", sum := "0643b4de9b465d2c8659c10da93ef850a7008fd835691f2906e2093ba6f5f6b9", func := "adit/aditlaw17.SeqNumbers", spec := "seqNumbers", apart := false }
def SeqNumbersSaid : Prop := seqNumbersRow.holds Try.pinned (OpenSpec.ofChange seqNumbersSpec)

/-- ITS FALSE NEIGHBOUR: 'it returns false'. Refute it at one input. -/
def seqNumbersWrong : ChangeSpec := { name := "seqNumbers", fn := fun _ => fun
  | [d1, d2, d3] => { results := [.lit (.bool false)], args := [d1, d2, d3] }
  | _ => none }
def SeqNumbersWrongFalsely : Prop := seqNumbersRow.holds Try.pinned (OpenSpec.ofChange seqNumbersWrong)

/-- 'aditlaw17.SeqBack': WHATEVER THE INPUT: true; the input reads as it did. -/
def seqBackSpec : ChangeSpec := { name := "seqBack", fn := fun _ => fun
  | [d1, d2, d3] => { results := [.lit (.bool true)], args := [d1, d2, d3] }
  | _ => none }
def seqBackRow : OpenClaim := { program := "ytbbippgnmllcoaa", sum := "0643b4de9b465d2c8659c10da93ef850a7008fd835691f2906e2093ba6f5f6b9", func := "adit/aditlaw17.SeqBack", spec := "seqBack", apart := false }
def SeqBackSaid : Prop := seqBackRow.holds Try.pinned (OpenSpec.ofChange seqBackSpec)

/-- ITS FALSE NEIGHBOUR: 'it returns false'. Refute it at one input. -/
def seqBackWrong : ChangeSpec := { name := "seqBack", fn := fun _ => fun
  | [d1, d2, d3] => { results := [.lit (.bool false)], args := [d1, d2, d3] }
  | _ => none }
def SeqBackWrongFalsely : Prop := seqBackRow.holds Try.pinned (OpenSpec.ofChange seqBackWrong)

/-- 'aditlaw17.SeqRings': WHATEVER THE INPUT: true; the input reads as it did. -/
def seqRingsSpec : ChangeSpec := { name := "seqRings", fn := fun _ => fun
  | [d1, d2] => { results := [.lit (.bool true)], args := [d1, d2] }
  | _ => none }
def seqRingsRow : OpenClaim := { program := "ytbbippgnmllcoaa", sum := "0643b4de9b465d2c8659c10da93ef850a7008fd835691f2906e2093ba6f5f6b9", func := "adit/aditlaw17.SeqRings", spec := "seqRings", apart := false }
def SeqRingsSaid : Prop := seqRingsRow.holds Try.pinned (OpenSpec.ofChange seqRingsSpec)

/-- ITS FALSE NEIGHBOUR: 'it returns false'. Refute it at one input. -/
def seqRingsWrong : ChangeSpec := { name := "seqRings", fn := fun _ => fun
  | [d1, d2] => { results := [.lit (.bool false)], args := [d1, d2] }
  | _ => none }
def SeqRingsWrongFalsely : Prop := seqRingsRow.holds Try.pinned (OpenSpec.ofChange seqRingsWrong)

/-- 'aditlaw17.SeqStreams': WHATEVER THE INPUT: true; the input reads as it did. -/
def seqStreamsSpec : ChangeSpec := { name := "seqStreams", fn := fun _ => fun
  | [d1, d2] => { results := [.lit (.bool true)], args := [d1, d2] }
  | _ => none }
def seqStreamsRow : OpenClaim := { program := "ytbbippgnmllcoaa", sum := "0643b4de9b465d2c8659c10da93ef850a7008fd835691f2906e2093ba6f5f6b9", func := "adit/aditlaw17.SeqStreams", spec := "seqStreams", apart := false }
def SeqStreamsSaid : Prop := seqStreamsRow.holds Try.pinned (OpenSpec.ofChange seqStreamsSpec)

/-- ITS FALSE NEIGHBOUR: 'it returns false'. Refute it at one input. -/
def seqStreamsWrong : ChangeSpec := { name := "seqStreams", fn := fun _ => fun
  | [d1, d2] => { results := [.lit (.bool false)], args := [d1, d2] }
  | _ => none }
def SeqStreamsWrongFalsely : Prop := seqStreamsRow.holds Try.pinned (OpenSpec.ofChange seqStreamsWrong)

/-- 'aditlaw17.SeqWhole': WHATEVER THE INPUT: true; the input reads as it did. -/
def seqWholeSpec : ChangeSpec := { name := "seqWhole", fn := fun _ => fun
  | [d1, d2, d3] => { results := [.lit (.bool true)], args := [d1, d2, d3] }
  | _ => none }
def seqWholeRow : OpenClaim := { program := "ytbbippgnmllcoaa", sum := "0643b4de9b465d2c8659c10da93ef850a7008fd835691f2906e2093ba6f5f6b9", func := "adit/aditlaw17.SeqWhole", spec := "seqWhole", apart := false }
def SeqWholeSaid : Prop := seqWholeRow.holds Try.pinned (OpenSpec.ofChange seqWholeSpec)

/-- ITS FALSE NEIGHBOUR: 'it returns false'. Refute it at one input. -/
def seqWholeWrong : ChangeSpec := { name := "seqWhole", fn := fun _ => fun
  | [d1, d2, d3] => { results := [.lit (.bool false)], args := [d1, d2, d3] }
  | _ => none }
def SeqWholeWrongFalsely : Prop := seqWholeRow.holds Try.pinned (OpenSpec.ofChange seqWholeWrong)

/-- 'aditlaw17.SeqNil': WHATEVER THE INPUT: true; the input reads as it did. -/
def seqNilSpec : ChangeSpec := { name := "seqNil", fn := fun _ => fun
  | [d1, d2] => { results := [.lit (.bool true)], args := [d1, d2] }
  | _ => none }
def seqNilRow : OpenClaim := { program := "ytbbippgnmllcoaa", sum := "0643b4de9b465d2c8659c10da93ef850a7008fd835691f2906e2093ba6f5f6b9", func := "adit/aditlaw17.SeqNil", spec := "seqNil", apart := false }
def SeqNilSaid : Prop := seqNilRow.holds Try.pinned (OpenSpec.ofChange seqNilSpec)

/-- ITS FALSE NEIGHBOUR: 'it returns false'. Refute it at one input. -/
def seqNilWrong : ChangeSpec := { name := "seqNil", fn := fun _ => fun
  | [d1, d2] => { results := [.lit (.bool false)], args := [d1, d2] }
  | _ => none }
def SeqNilWrongFalsely : Prop := seqNilRow.holds Try.pinned (OpenSpec.ofChange seqNilWrong)

/-- 'aditlaw17.SeqOrders': WHATEVER THE INPUT: true; the input reads as it did. -/
def seqOrdersSpec : ChangeSpec := { name := "seqOrders", fn := fun _ => fun
  | [d1, d2] => { results := [.lit (.bool true)], args := [d1, d2] }
  | _ => none }
def seqOrdersRow : OpenClaim := { program := "ytbbippgnmllcoaa", sum := "0643b4de9b465d2c8659c10da93ef850a7008fd835691f2906e2093ba6f5f6b9", func := "adit/aditlaw17.SeqOrders", spec := "seqOrders", apart := false }
def SeqOrdersSaid : Prop := seqOrdersRow.holds Try.pinned (OpenSpec.ofChange seqOrdersSpec)

/-- ITS FALSE NEIGHBOUR: 'it returns false'. Refute it at one input. -/
def seqOrdersWrong : ChangeSpec := { name := "seqOrders", fn := fun _ => fun
  | [d1, d2] => { results := [.lit (.bool false)], args := [d1, d2] }
  | _ => none }
def SeqOrdersWrongFalsely : Prop := seqOrdersRow.holds Try.pinned (OpenSpec.ofChange seqOrdersWrong)

/- THE SECOND FORM. 'bulk': how many values and letters a reading holds, each counted each time it is reached (what is shared counts as often as it is met; a slice's spare places count too). A statement '..UptoSaid' is the law's where the arguments, and the package variables that the reading takes, are together of bulk at most 1048576: NARROWER than '..Said'. Prove '..Said' where nothing that the law and all that it calls make is longer than what came in: it says more and counts as full. Else prove '..UptoSaid'. A law counts once. -/
mutual
def uptoBulk {H : Type} : DataW H → Nat
  | .lit (.string bytes) => bytes.length + 1
  | .lit _ => 1
  | .nil => 1
  | .ptr d => uptoBulk d + 1
  | .slice elems spare => uptoBulkAll elems + uptoBulkAll spare + 1
  | .agg parts => uptoBulkAll parts + 1
  | .iface _ d => uptoBulk d + 1
  | .map entries => uptoBulkEntries entries + 1
  | .held _ => 1
def uptoBulkAll {H : Type} : List (DataW H) → Nat
  | [] => 0
  | d :: r => uptoBulk d + uptoBulkAll r
def uptoBulkEntries {H : Type} : List (Lit × DataW H) → Nat
  | [] => 0
  | x :: r => uptoBulkEntry x + uptoBulkEntries r
def uptoBulkEntry {H : Type} : Lit × DataW H → Nat
  | (.string bytes, d) => bytes.length + uptoBulk d + 1
  | (_, d) => uptoBulk d + 1
 end
def uptoSmall : (H : Type) → List (DataW H) → Bool := fun _ ds => decide (uptoBulkAll ds ≤ 1048576)
def OpenSpec.upto (s : _root_.Go.ChangeSpec) : _root_.Go.OpenSpec := { _root_.Go.OpenSpec.ofChange s with cond := some uptoSmall }

/-- 'aditlaw17.SeqNumbers', WHERE WHAT IT READS IS OF BULK AT MOST 1048576: true; the input reads as it did. -/
def seqNumbersUptoRow : OpenClaim := { program := "ytbbippgnmllcoaa", sum := "0643b4de9b465d2c8659c10da93ef850a7008fd835691f2906e2093ba6f5f6b9", func := "adit/aditlaw17.SeqNumbers", spec := "seqNumbers", apart := false, narrowed := true }
def SeqNumbersUptoSaid : Prop := seqNumbersUptoRow.holds Try.pinned (OpenSpec.upto seqNumbersSpec)

/-- 'aditlaw17.SeqBack', WHERE WHAT IT READS IS OF BULK AT MOST 1048576: true; the input reads as it did. -/
def seqBackUptoRow : OpenClaim := { program := "ytbbippgnmllcoaa", sum := "0643b4de9b465d2c8659c10da93ef850a7008fd835691f2906e2093ba6f5f6b9", func := "adit/aditlaw17.SeqBack", spec := "seqBack", apart := false, narrowed := true }
def SeqBackUptoSaid : Prop := seqBackUptoRow.holds Try.pinned (OpenSpec.upto seqBackSpec)

/-- 'aditlaw17.SeqRings', WHERE WHAT IT READS IS OF BULK AT MOST 1048576: true; the input reads as it did. -/
def seqRingsUptoRow : OpenClaim := { program := "ytbbippgnmllcoaa", sum := "0643b4de9b465d2c8659c10da93ef850a7008fd835691f2906e2093ba6f5f6b9", func := "adit/aditlaw17.SeqRings", spec := "seqRings", apart := false, narrowed := true }
def SeqRingsUptoSaid : Prop := seqRingsUptoRow.holds Try.pinned (OpenSpec.upto seqRingsSpec)

/-- 'aditlaw17.SeqStreams', WHERE WHAT IT READS IS OF BULK AT MOST 1048576: true; the input reads as it did. -/
def seqStreamsUptoRow : OpenClaim := { program := "ytbbippgnmllcoaa", sum := "0643b4de9b465d2c8659c10da93ef850a7008fd835691f2906e2093ba6f5f6b9", func := "adit/aditlaw17.SeqStreams", spec := "seqStreams", apart := false, narrowed := true }
def SeqStreamsUptoSaid : Prop := seqStreamsUptoRow.holds Try.pinned (OpenSpec.upto seqStreamsSpec)

/-- 'aditlaw17.SeqWhole', WHERE WHAT IT READS IS OF BULK AT MOST 1048576: true; the input reads as it did. -/
def seqWholeUptoRow : OpenClaim := { program := "ytbbippgnmllcoaa", sum := "0643b4de9b465d2c8659c10da93ef850a7008fd835691f2906e2093ba6f5f6b9", func := "adit/aditlaw17.SeqWhole", spec := "seqWhole", apart := false, narrowed := true }
def SeqWholeUptoSaid : Prop := seqWholeUptoRow.holds Try.pinned (OpenSpec.upto seqWholeSpec)

/-- 'aditlaw17.SeqNil', WHERE WHAT IT READS IS OF BULK AT MOST 1048576: true; the input reads as it did. -/
def seqNilUptoRow : OpenClaim := { program := "ytbbippgnmllcoaa", sum := "0643b4de9b465d2c8659c10da93ef850a7008fd835691f2906e2093ba6f5f6b9", func := "adit/aditlaw17.SeqNil", spec := "seqNil", apart := false, narrowed := true }
def SeqNilUptoSaid : Prop := seqNilUptoRow.holds Try.pinned (OpenSpec.upto seqNilSpec)

/-- 'aditlaw17.SeqOrders', WHERE WHAT IT READS IS OF BULK AT MOST 1048576: true; the input reads as it did. -/
def seqOrdersUptoRow : OpenClaim := { program := "ytbbippgnmllcoaa", sum := "0643b4de9b465d2c8659c10da93ef850a7008fd835691f2906e2093ba6f5f6b9", func := "adit/aditlaw17.SeqOrders", spec := "seqOrders", apart := false, narrowed := true }
def SeqOrdersUptoSaid : Prop := seqOrdersUptoRow.holds Try.pinned (OpenSpec.upto seqOrdersSpec)

end Rows
end Go.Proofs.Ytbbippgnmllcoaa
