/-
  No cell of these rows narrows 'for every input' (looked for: loops, veiled, ifaces, maps, wideKeys, modest, calm, conditions, laid).
  DERIVED. THE GIVEN ROWS OF THIS SEAT. 5 by the template 'for every input the law returns true; each argument reads behind the call as it read before'; 0 by the template 'total and deterministic' (their statements: YtgjdhokafmmhcaaTotals.lean).
  GIVEN WITH THE SEED: the statements are not yours to turn. If you find one false, say at which input.
  Laid BY PROGRAM, IN A SANDBOX (cutbox-rows.mjs): the forced cells as the released guide's own fill.sh prints them over the translation 621efa6e73acfa1c… (all of the seat's roots in one cut). By AI agents, Wed Nov 11 2026. No macro, syntax, notation, axiom, sorry.
-/
import Derived.Test.YtgjdhokafmmhcaaChecked
import GoSem.Claim
import GoSem.ClaimJoined
import GoSem.ClaimMapViews
import Derived.JoinedTies
import Derived.KernelRfl
namespace Go.Proofs.Ytgjdhokafmmhcaa
/- THE CELL 'sum', in the pinned program and in every row, IS THE sha256 OF THE DUMP (.gsa) THAT YtgjdhokafmmhcaaProg.lean LOADS. Nothing in Lean hashes anything: it is a label: what it is worth is what the hold of that sum in a sandbox is worth. -/
noncomputable def Try.pinned : Pinned := { name := "ytgjdhokafmmhcaa", sum := "621efa6e73acfa1c3f8bbac3600f101dcd90141972404f28d563e83f798245f4", checked := Try.checked }
namespace Rows
def none {H : Type} : Left H := { results := [], args := [] }

/-- 'aditlaw19.CtlFits': WHATEVER THE INPUT: true; the input reads as it did. -/
def ctlFitsSpec : ChangeSpec := { name := "ctlFits", fn := fun _ => fun
  | [d1, d2] => { results := [.lit (.bool true)], args := [d1, d2] }
  | _ => none }
def ctlFitsRow : OpenClaim := { program := "ytgjdhokafmmhcaa", sum := "621efa6e73acfa1c3f8bbac3600f101dcd90141972404f28d563e83f798245f4", func := "adit/aditlaw19.CtlFits", spec := "ctlFits", unfollowed := true, recurses := true, apart := false }
def CtlFitsSaid : Prop := ctlFitsRow.holds Try.pinned (OpenSpec.ofChange ctlFitsSpec)

/-- ITS FALSE NEIGHBOUR: 'it returns false'. Refute it at one input. -/
def ctlFitsWrong : ChangeSpec := { name := "ctlFits", fn := fun _ => fun
  | [d1, d2] => { results := [.lit (.bool false)], args := [d1, d2] }
  | _ => none }
def CtlFitsWrongFalsely : Prop := ctlFitsRow.holds Try.pinned (OpenSpec.ofChange ctlFitsWrong)

/-- 'aditlaw19.CtlHalves': WHATEVER THE INPUT: true; the input reads as it did. -/
def ctlHalvesSpec : ChangeSpec := { name := "ctlHalves", fn := fun _ => fun
  | [d1, d2] => { results := [.lit (.bool true)], args := [d1, d2] }
  | _ => none }
def ctlHalvesRow : OpenClaim := { program := "ytgjdhokafmmhcaa", sum := "621efa6e73acfa1c3f8bbac3600f101dcd90141972404f28d563e83f798245f4", func := "adit/aditlaw19.CtlHalves", spec := "ctlHalves", unfollowed := true, recurses := true, apart := false }
def CtlHalvesSaid : Prop := ctlHalvesRow.holds Try.pinned (OpenSpec.ofChange ctlHalvesSpec)

/-- ITS FALSE NEIGHBOUR: 'it returns false'. Refute it at one input. -/
def ctlHalvesWrong : ChangeSpec := { name := "ctlHalves", fn := fun _ => fun
  | [d1, d2] => { results := [.lit (.bool false)], args := [d1, d2] }
  | _ => none }
def CtlHalvesWrongFalsely : Prop := ctlHalvesRow.holds Try.pinned (OpenSpec.ofChange ctlHalvesWrong)

/-- 'aditlaw19.CtlTimers': WHATEVER THE INPUT: true; the input reads as it did. -/
def ctlTimersSpec : ChangeSpec := { name := "ctlTimers", fn := fun _ => fun
  | [d1, d2] => { results := [.lit (.bool true)], args := [d1, d2] }
  | _ => none }
def ctlTimersRow : OpenClaim := { program := "ytgjdhokafmmhcaa", sum := "621efa6e73acfa1c3f8bbac3600f101dcd90141972404f28d563e83f798245f4", func := "adit/aditlaw19.CtlTimers", spec := "ctlTimers", unfollowed := true, recurses := true, apart := false }
def CtlTimersSaid : Prop := ctlTimersRow.holds Try.pinned (OpenSpec.ofChange ctlTimersSpec)

/-- ITS FALSE NEIGHBOUR: 'it returns false'. Refute it at one input. -/
def ctlTimersWrong : ChangeSpec := { name := "ctlTimers", fn := fun _ => fun
  | [d1, d2] => { results := [.lit (.bool false)], args := [d1, d2] }
  | _ => none }
def CtlTimersWrongFalsely : Prop := ctlTimersRow.holds Try.pinned (OpenSpec.ofChange ctlTimersWrong)

/-- 'aditlaw19.CtlWindows': WHATEVER THE INPUT: true; the input reads as it did. -/
def ctlWindowsSpec : ChangeSpec := { name := "ctlWindows", fn := fun _ => fun
  | [d1, d2] => { results := [.lit (.bool true)], args := [d1, d2] }
  | _ => none }
def ctlWindowsRow : OpenClaim := { program := "ytgjdhokafmmhcaa", sum := "621efa6e73acfa1c3f8bbac3600f101dcd90141972404f28d563e83f798245f4", func := "adit/aditlaw19.CtlWindows", spec := "ctlWindows", unfollowed := true, recurses := true, apart := false }
def CtlWindowsSaid : Prop := ctlWindowsRow.holds Try.pinned (OpenSpec.ofChange ctlWindowsSpec)

/-- ITS FALSE NEIGHBOUR: 'it returns false'. Refute it at one input. -/
def ctlWindowsWrong : ChangeSpec := { name := "ctlWindows", fn := fun _ => fun
  | [d1, d2] => { results := [.lit (.bool false)], args := [d1, d2] }
  | _ => none }
def CtlWindowsWrongFalsely : Prop := ctlWindowsRow.holds Try.pinned (OpenSpec.ofChange ctlWindowsWrong)

/-- 'aditlaw19.CtlBounds': WHATEVER THE INPUT: true; the input reads as it did. -/
def ctlBoundsSpec : ChangeSpec := { name := "ctlBounds", fn := fun _ => fun
  | [d1, d2] => { results := [.lit (.bool true)], args := [d1, d2] }
  | _ => none }
def ctlBoundsRow : OpenClaim := { program := "ytgjdhokafmmhcaa", sum := "621efa6e73acfa1c3f8bbac3600f101dcd90141972404f28d563e83f798245f4", func := "adit/aditlaw19.CtlBounds", spec := "ctlBounds", unfollowed := true, recurses := true, apart := false }
def CtlBoundsSaid : Prop := ctlBoundsRow.holds Try.pinned (OpenSpec.ofChange ctlBoundsSpec)

/-- ITS FALSE NEIGHBOUR: 'it returns false'. Refute it at one input. -/
def ctlBoundsWrong : ChangeSpec := { name := "ctlBounds", fn := fun _ => fun
  | [d1, d2] => { results := [.lit (.bool false)], args := [d1, d2] }
  | _ => none }
def CtlBoundsWrongFalsely : Prop := ctlBoundsRow.holds Try.pinned (OpenSpec.ofChange ctlBoundsWrong)

/- THE SECOND FORM. 'bulk': how many values and letters a reading holds, each counted each time it is reached (what is shared counts as often as it is met; a slice's spare places count too). A statement '..UptoSaid' is the law's where the arguments, and the package variables that the reading takes, are together of bulk at most 1048576: NARROWER than '..Said'. Prove '..Said' where nothing that the law and all that it calls make is longer than what came in: it says more and counts as full. Else prove '..UptoSaid'. A law counts once. -/
mutual
def uptoBulk {H : Type} : DataW H → Nat
  | .lit (.string bytes) => bytes.length + 1
  | .lit _ => 1
  | .nil => 1
  | .ptr d => uptoBulk d + 1
  | .slice elems spare => uptoBulkAll elems + uptoBulkAll spare + 1
  | .agg parts => uptoBulkAll parts + 1
  | .iface _ d => uptoBulk d + 1
  | .map entries => uptoBulkEntries entries + 1
  | .held _ => 1
def uptoBulkAll {H : Type} : List (DataW H) → Nat
  | [] => 0
  | d :: r => uptoBulk d + uptoBulkAll r
def uptoBulkEntries {H : Type} : List (Lit × DataW H) → Nat
  | [] => 0
  | x :: r => uptoBulkEntry x + uptoBulkEntries r
def uptoBulkEntry {H : Type} : Lit × DataW H → Nat
  | (.string bytes, d) => bytes.length + uptoBulk d + 1
  | (_, d) => uptoBulk d + 1
 end
def uptoSmall : (H : Type) → List (DataW H) → Bool := fun _ ds => decide (uptoBulkAll ds ≤ 1048576)
def OpenSpec.upto (s : _root_.Go.ChangeSpec) : _root_.Go.OpenSpec := { _root_.Go.OpenSpec.ofChange s with cond := some uptoSmall }

/-- 'aditlaw19.CtlFits', WHERE WHAT IT READS IS OF BULK AT MOST 1048576: true; the input reads as it did. -/
def ctlFitsUptoRow : OpenClaim := { program := "ytgjdhokafmmhcaa", sum := "621efa6e73acfa1c3f8bbac3600f101dcd90141972404f28d563e83f798245f4", func := "adit/aditlaw19.CtlFits", spec := "ctlFits", unfollowed := true, recurses := true, apart := false, narrowed := true }
def CtlFitsUptoSaid : Prop := ctlFitsUptoRow.holds Try.pinned (OpenSpec.upto ctlFitsSpec)

/-- 'aditlaw19.CtlHalves', WHERE WHAT IT READS IS OF BULK AT MOST 1048576: true; the input reads as it did. -/
def ctlHalvesUptoRow : OpenClaim := { program := "ytgjdhokafmmhcaa", sum := "621efa6e73acfa1c3f8bbac3600f101dcd90141972404f28d563e83f798245f4", func := "adit/aditlaw19.CtlHalves", spec := "ctlHalves", unfollowed := true, recurses := true, apart := false, narrowed := true }
def CtlHalvesUptoSaid : Prop := ctlHalvesUptoRow.holds Try.pinned (OpenSpec.upto ctlHalvesSpec)

/-- 'aditlaw19.CtlTimers', WHERE WHAT IT READS IS OF BULK AT MOST 1048576: true; the input reads as it did. -/
def ctlTimersUptoRow : OpenClaim := { program := "ytgjdhokafmmhcaa", sum := "621efa6e73acfa1c3f8bbac3600f101dcd90141972404f28d563e83f798245f4", func := "adit/aditlaw19.CtlTimers", spec := "ctlTimers", unfollowed := true, recurses := true, apart := false, narrowed := true }
def CtlTimersUptoSaid : Prop := ctlTimersUptoRow.holds Try.pinned (OpenSpec.upto ctlTimersSpec)

/-- 'aditlaw19.CtlWindows', WHERE WHAT IT READS IS OF BULK AT MOST 1048576: true; the input reads as it did. -/
def ctlWindowsUptoRow : OpenClaim := { program := "ytgjdhokafmmhcaa", sum := "621efa6e73acfa1c3f8bbac3600f101dcd90141972404f28d563e83f798245f4", func := "adit/aditlaw19.CtlWindows", spec := "ctlWindows", unfollowed := true, recurses := true, apart := false, narrowed := true }
def CtlWindowsUptoSaid : Prop := ctlWindowsUptoRow.holds Try.pinned (OpenSpec.upto ctlWindowsSpec)

/-- 'aditlaw19.CtlBounds', WHERE WHAT IT READS IS OF BULK AT MOST 1048576: true; the input reads as it did. -/
def ctlBoundsUptoRow : OpenClaim := { program := "ytgjdhokafmmhcaa", sum := "621efa6e73acfa1c3f8bbac3600f101dcd90141972404f28d563e83f798245f4", func := "adit/aditlaw19.CtlBounds", spec := "ctlBounds", unfollowed := true, recurses := true, apart := false, narrowed := true }
def CtlBoundsUptoSaid : Prop := ctlBoundsUptoRow.holds Try.pinned (OpenSpec.upto ctlBoundsSpec)

end Rows
end Go.Proofs.Ytgjdhokafmmhcaa
