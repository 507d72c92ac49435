/-
  No cell of these rows narrows 'for every input' (looked for: loops, veiled, ifaces, maps, wideKeys, modest, calm, conditions, laid).
  DERIVED. THE GIVEN ROWS OF THIS SEAT. 7 by the template 'for every input the law returns true; each argument reads behind the call as it read before'; 0 by the template 'total and deterministic' (their statements: YtipefepnkpoiaaaGreatTotals.lean).
  GIVEN WITH THE SEED: the statements are not yours to turn. If you find one false, say at which input.
  Laid BY PROGRAM, IN A SANDBOX (cutbox-rows.mjs): the forced cells as the released guide's own fill.sh prints them over the translation 98cc8b6c01cc01da… (all of the seat's roots in one cut). By AI agents, Wed Nov 11 2026. No macro, syntax, notation, axiom, sorry.
-/
import Derived.Test.YtipefepnkpoiaaaGreatChecked
import GoSem.Claim
import GoSem.ClaimJoined
import GoSem.ClaimMapViews
import Derived.JoinedTies
import Derived.KernelRfl
namespace Go.Proofs.YtipefepnkpoiaaaGreat
/- THE CELL 'sum', in the pinned program and in every row, IS THE sha256 OF THE DUMP (.gsa) THAT YtipefepnkpoiaaaGreatProg.lean LOADS. Nothing in Lean hashes anything: it is a label: what it is worth is what the hold of that sum in a sandbox is worth. -/
noncomputable def Tryz.pinned : Pinned := { name := "ytipefepnkpoiaaagreat", sum := "98cc8b6c01cc01da0d8fceaa846f370c78689bedfb6279067c55cc6296faebb6", checked := Tryz.checked }
namespace Rows
def none {H : Type} : Left H := { results := [], args := [] }

/-- 'camshaftlaw20.WholeRuns': WHATEVER THE INPUT: true; the input reads as it did. -/
def wholeRunsSpec : ChangeSpec := { name := "wholeRuns", fn := fun _ => fun
  | [d1, d2] => { results := [.lit (.bool true)], args := [d1, d2] }
  | _ => none }
def wholeRunsRow : OpenClaim := { program := "ytipefepnkpoiaaagreat", sum := "98cc8b6c01cc01da0d8fceaa846f370c78689bedfb6279067c55cc6296faebb6", func := "camshaft/camshaftlaw20.WholeRuns", spec := "wholeRuns", unfollowed := true, recurses := true, apart := false }
def WholeRunsSaid : Prop := wholeRunsRow.holds Tryz.pinned (OpenSpec.ofChange wholeRunsSpec)

/-- ITS FALSE NEIGHBOUR: 'it returns false'. Refute it at one input. -/
def wholeRunsWrong : ChangeSpec := { name := "wholeRuns", fn := fun _ => fun
  | [d1, d2] => { results := [.lit (.bool false)], args := [d1, d2] }
  | _ => none }
def WholeRunsWrongFalsely : Prop := wholeRunsRow.holds Tryz.pinned (OpenSpec.ofChange wholeRunsWrong)

/-- 'camshaftlaw20.WholeParts': WHATEVER THE INPUT: true; the input reads as it did. -/
def wholePartsSpec : ChangeSpec := { name := "wholeParts", fn := fun _ => fun
  | [d1, d2, d3] => { results := [.lit (.bool true)], args := [d1, d2, d3] }
  | _ => none }
def wholePartsRow : OpenClaim := { program := "ytipefepnkpoiaaagreat", sum := "98cc8b6c01cc01da0d8fceaa846f370c78689bedfb6279067c55cc6296faebb6", func := "camshaft/camshaftlaw20.WholeParts", spec := "wholeParts", unfollowed := true, recurses := true, apart := false }
def WholePartsSaid : Prop := wholePartsRow.holds Tryz.pinned (OpenSpec.ofChange wholePartsSpec)

/-- ITS FALSE NEIGHBOUR: 'it returns false'. Refute it at one input. -/
def wholePartsWrong : ChangeSpec := { name := "wholeParts", fn := fun _ => fun
  | [d1, d2, d3] => { results := [.lit (.bool false)], args := [d1, d2, d3] }
  | _ => none }
def WholePartsWrongFalsely : Prop := wholePartsRow.holds Tryz.pinned (OpenSpec.ofChange wholePartsWrong)

/-- 'camshaftlaw20.WholeVm': WHATEVER THE INPUT: true; the input reads as it did. -/
def wholeVmSpec : ChangeSpec := { name := "wholeVm", fn := fun _ => fun
  | [d1, d2] => { results := [.lit (.bool true)], args := [d1, d2] }
  | _ => none }
def wholeVmRow : OpenClaim := { program := "ytipefepnkpoiaaagreat", sum := "98cc8b6c01cc01da0d8fceaa846f370c78689bedfb6279067c55cc6296faebb6", func := "camshaft/camshaftlaw20.WholeVm", spec := "wholeVm", unfollowed := true, recurses := true, apart := false }
def WholeVmSaid : Prop := wholeVmRow.holds Tryz.pinned (OpenSpec.ofChange wholeVmSpec)

/-- ITS FALSE NEIGHBOUR: 'it returns false'. Refute it at one input. -/
def wholeVmWrong : ChangeSpec := { name := "wholeVm", fn := fun _ => fun
  | [d1, d2] => { results := [.lit (.bool false)], args := [d1, d2] }
  | _ => none }
def WholeVmWrongFalsely : Prop := wholeVmRow.holds Tryz.pinned (OpenSpec.ofChange wholeVmWrong)

/-- 'camshaftlaw20.WholeNil': WHATEVER THE INPUT: true; the input reads as it did. -/
def wholeNilSpec : ChangeSpec := { name := "wholeNil", fn := fun _ => fun
  | [d] => { results := [.lit (.bool true)], args := [d] }
  | _ => none }
def wholeNilRow : OpenClaim := { program := "ytipefepnkpoiaaagreat", sum := "98cc8b6c01cc01da0d8fceaa846f370c78689bedfb6279067c55cc6296faebb6", func := "camshaft/camshaftlaw20.WholeNil", spec := "wholeNil", unfollowed := true, recurses := true, apart := false }
def WholeNilSaid : Prop := wholeNilRow.holds Tryz.pinned (OpenSpec.ofChange wholeNilSpec)

/-- ITS FALSE NEIGHBOUR: 'it returns false'. Refute it at one input. -/
def wholeNilWrong : ChangeSpec := { name := "wholeNil", fn := fun _ => fun
  | [d] => { results := [.lit (.bool false)], args := [d] }
  | _ => none }
def WholeNilWrongFalsely : Prop := wholeNilRow.holds Tryz.pinned (OpenSpec.ofChange wholeNilWrong)

/-- 'camshaftlaw20.WholeStarts': WHATEVER THE INPUT: true; the input reads as it did. -/
def wholeStartsSpec : ChangeSpec := { name := "wholeStarts", fn := fun _ => fun
  | [d1, d2] => { results := [.lit (.bool true)], args := [d1, d2] }
  | _ => none }
def wholeStartsRow : OpenClaim := { program := "ytipefepnkpoiaaagreat", sum := "98cc8b6c01cc01da0d8fceaa846f370c78689bedfb6279067c55cc6296faebb6", func := "camshaft/camshaftlaw20.WholeStarts", spec := "wholeStarts", unfollowed := true, recurses := true, apart := false }
def WholeStartsSaid : Prop := wholeStartsRow.holds Tryz.pinned (OpenSpec.ofChange wholeStartsSpec)

/-- ITS FALSE NEIGHBOUR: 'it returns false'. Refute it at one input. -/
def wholeStartsWrong : ChangeSpec := { name := "wholeStarts", fn := fun _ => fun
  | [d1, d2] => { results := [.lit (.bool false)], args := [d1, d2] }
  | _ => none }
def WholeStartsWrongFalsely : Prop := wholeStartsRow.holds Tryz.pinned (OpenSpec.ofChange wholeStartsWrong)

/-- 'camshaftlaw20.WholeCopies': WHATEVER THE INPUT: true; the input reads as it did. -/
def wholeCopiesSpec : ChangeSpec := { name := "wholeCopies", fn := fun _ => fun
  | [d1, d2, d3] => { results := [.lit (.bool true)], args := [d1, d2, d3] }
  | _ => none }
def wholeCopiesRow : OpenClaim := { program := "ytipefepnkpoiaaagreat", sum := "98cc8b6c01cc01da0d8fceaa846f370c78689bedfb6279067c55cc6296faebb6", func := "camshaft/camshaftlaw20.WholeCopies", spec := "wholeCopies", unfollowed := true, recurses := true, apart := false }
def WholeCopiesSaid : Prop := wholeCopiesRow.holds Tryz.pinned (OpenSpec.ofChange wholeCopiesSpec)

/-- ITS FALSE NEIGHBOUR: 'it returns false'. Refute it at one input. -/
def wholeCopiesWrong : ChangeSpec := { name := "wholeCopies", fn := fun _ => fun
  | [d1, d2, d3] => { results := [.lit (.bool false)], args := [d1, d2, d3] }
  | _ => none }
def WholeCopiesWrongFalsely : Prop := wholeCopiesRow.holds Tryz.pinned (OpenSpec.ofChange wholeCopiesWrong)

/-- 'camshaftlaw20.WholeTwice': WHATEVER THE INPUT: true; the input reads as it did. -/
def wholeTwiceSpec : ChangeSpec := { name := "wholeTwice", fn := fun _ => fun
  | [d1, d2, d3] => { results := [.lit (.bool true)], args := [d1, d2, d3] }
  | _ => none }
def wholeTwiceRow : OpenClaim := { program := "ytipefepnkpoiaaagreat", sum := "98cc8b6c01cc01da0d8fceaa846f370c78689bedfb6279067c55cc6296faebb6", func := "camshaft/camshaftlaw20.WholeTwice", spec := "wholeTwice", unfollowed := true, recurses := true, apart := false }
def WholeTwiceSaid : Prop := wholeTwiceRow.holds Tryz.pinned (OpenSpec.ofChange wholeTwiceSpec)

/-- ITS FALSE NEIGHBOUR: 'it returns false'. Refute it at one input. -/
def wholeTwiceWrong : ChangeSpec := { name := "wholeTwice", fn := fun _ => fun
  | [d1, d2, d3] => { results := [.lit (.bool false)], args := [d1, d2, d3] }
  | _ => none }
def WholeTwiceWrongFalsely : Prop := wholeTwiceRow.holds Tryz.pinned (OpenSpec.ofChange wholeTwiceWrong)

/- THE SECOND FORM. 'bulk': how many values and letters a reading holds, each counted each time it is reached (what is shared counts as often as it is met; a slice's spare places count too). A statement '..UptoSaid' is the law's where the arguments, and the package variables that the reading takes, are together of bulk at most 1048576: NARROWER than '..Said'. Prove '..Said' where nothing that the law and all that it calls make is longer than what came in: it says more and counts as full. Else prove '..UptoSaid'. A law counts once. -/
mutual
def uptoBulk {H : Type} : DataW H → Nat
  | .lit (.string bytes) => bytes.length + 1
  | .lit _ => 1
  | .nil => 1
  | .ptr d => uptoBulk d + 1
  | .slice elems spare => uptoBulkAll elems + uptoBulkAll spare + 1
  | .agg parts => uptoBulkAll parts + 1
  | .iface _ d => uptoBulk d + 1
  | .map entries => uptoBulkEntries entries + 1
  | .held _ => 1
def uptoBulkAll {H : Type} : List (DataW H) → Nat
  | [] => 0
  | d :: r => uptoBulk d + uptoBulkAll r
def uptoBulkEntries {H : Type} : List (Lit × DataW H) → Nat
  | [] => 0
  | x :: r => uptoBulkEntry x + uptoBulkEntries r
def uptoBulkEntry {H : Type} : Lit × DataW H → Nat
  | (.string bytes, d) => bytes.length + uptoBulk d + 1
  | (_, d) => uptoBulk d + 1
 end
def uptoSmall : (H : Type) → List (DataW H) → Bool := fun _ ds => decide (uptoBulkAll ds ≤ 1048576)
def OpenSpec.upto (s : _root_.Go.ChangeSpec) : _root_.Go.OpenSpec := { _root_.Go.OpenSpec.ofChange s with cond := some uptoSmall }

/-- 'camshaftlaw20.WholeRuns', WHERE WHAT IT READS IS OF BULK AT MOST 1048576: true; the input reads as it did. -/
def wholeRunsUptoRow : OpenClaim := { program := "ytipefepnkpoiaaagreat", sum := "98cc8b6c01cc01da0d8fceaa846f370c78689bedfb6279067c55cc6296faebb6", func := "camshaft/camshaftlaw20.WholeRuns", spec := "wholeRuns", unfollowed := true, recurses := true, apart := false, narrowed := true }
def WholeRunsUptoSaid : Prop := wholeRunsUptoRow.holds Tryz.pinned (OpenSpec.upto wholeRunsSpec)

/-- 'camshaftlaw20.WholeParts', WHERE WHAT IT READS IS OF BULK AT MOST 1048576: true; the input reads as it did. -/
def wholePartsUptoRow : OpenClaim := { program := "ytipefepnkpoiaaagreat", sum := "98cc8b6c01cc01da0d8fceaa846f370c78689bedfb6279067c55cc6296faebb6", func := "camshaft/camshaftlaw20.WholeParts", spec := "wholeParts", unfollowed := true, recurses := true, apart := false, narrowed := true }
def WholePartsUptoSaid : Prop := wholePartsUptoRow.holds Tryz.pinned (OpenSpec.upto wholePartsSpec)

/-- 'camshaftlaw20.WholeVm', WHERE WHAT IT READS IS OF BULK AT MOST 1048576: true; the input reads as it did. -/
def wholeVmUptoRow : OpenClaim := { program := "ytipefepnkpoiaaagreat", sum := "98cc8b6c01cc01da0d8fceaa846f370c78689bedfb6279067c55cc6296faebb6", func := "camshaft/camshaftlaw20.WholeVm", spec := "wholeVm", unfollowed := true, recurses := true, apart := false, narrowed := true }
def WholeVmUptoSaid : Prop := wholeVmUptoRow.holds Tryz.pinned (OpenSpec.upto wholeVmSpec)

/-- 'camshaftlaw20.WholeNil', WHERE WHAT IT READS IS OF BULK AT MOST 1048576: true; the input reads as it did. -/
def wholeNilUptoRow : OpenClaim := { program := "ytipefepnkpoiaaagreat", sum := "98cc8b6c01cc01da0d8fceaa846f370c78689bedfb6279067c55cc6296faebb6", func := "camshaft/camshaftlaw20.WholeNil", spec := "wholeNil", unfollowed := true, recurses := true, apart := false, narrowed := true }
def WholeNilUptoSaid : Prop := wholeNilUptoRow.holds Tryz.pinned (OpenSpec.upto wholeNilSpec)

/-- 'camshaftlaw20.WholeStarts', WHERE WHAT IT READS IS OF BULK AT MOST 1048576: true; the input reads as it did. -/
def wholeStartsUptoRow : OpenClaim := { program := "ytipefepnkpoiaaagreat", sum := "98cc8b6c01cc01da0d8fceaa846f370c78689bedfb6279067c55cc6296faebb6", func := "camshaft/camshaftlaw20.WholeStarts", spec := "wholeStarts", unfollowed := true, recurses := true, apart := false, narrowed := true }
def WholeStartsUptoSaid : Prop := wholeStartsUptoRow.holds Tryz.pinned (OpenSpec.upto wholeStartsSpec)

/-- 'camshaftlaw20.WholeCopies', WHERE WHAT IT READS IS OF BULK AT MOST 1048576: true; the input reads as it did. -/
def wholeCopiesUptoRow : OpenClaim := { program := "ytipefepnkpoiaaagreat", sum := "98cc8b6c01cc01da0d8fceaa846f370c78689bedfb6279067c55cc6296faebb6", func := "camshaft/camshaftlaw20.WholeCopies", spec := "wholeCopies", unfollowed := true, recurses := true, apart := false, narrowed := true }
def WholeCopiesUptoSaid : Prop := wholeCopiesUptoRow.holds Tryz.pinned (OpenSpec.upto wholeCopiesSpec)

/-- 'camshaftlaw20.WholeTwice', WHERE WHAT IT READS IS OF BULK AT MOST 1048576: true; the input reads as it did. -/
def wholeTwiceUptoRow : OpenClaim := { program := "ytipefepnkpoiaaagreat", sum := "98cc8b6c01cc01da0d8fceaa846f370c78689bedfb6279067c55cc6296faebb6", func := "camshaft/camshaftlaw20.WholeTwice", spec := "wholeTwice", unfollowed := true, recurses := true, apart := false, narrowed := true }
def WholeTwiceUptoSaid : Prop := wholeTwiceUptoRow.holds Tryz.pinned (OpenSpec.upto wholeTwiceSpec)

end Rows
end Go.Proofs.YtipefepnkpoiaaaGreat
