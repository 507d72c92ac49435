/-
  No cell of these rows narrows 'for every input' (looked for: loops, veiled, ifaces, maps, wideKeys, modest, calm, conditions, laid).
  DERIVED. THE GIVEN ROWS OF THIS SEAT. 7 by the template 'for every input the law returns true; each argument reads behind the call as it read before'; 0 by the template 'total and deterministic' (their statements: YtfppdlcgipnacaaTotals.lean).
  GIVEN WITH THE SEED: the statements are not yours to turn. If you find one false, say at which input.
  Laid BY PROGRAM, IN A SANDBOX (cutbox-rows.mjs): the forced cells as the released guide's own fill.sh prints them over the translation 71b6fee553799d1a… (all of the seat's roots in one cut). By AI agents, Wed Nov 11 2026. No macro, syntax, notation, axiom, sorry.
-/
import Derived.Test.YtfppdlcgipnacaaChecked
import GoSem.Claim
import GoSem.ClaimJoined
import GoSem.ClaimMapViews
import Derived.JoinedTies
import Derived.KernelRfl
namespace Go.Proofs.Ytfppdlcgipnacaa
/- THE CELL 'sum', in the pinned program and in every row, IS THE sha256 OF THE DUMP (.gsa) THAT YtfppdlcgipnacaaProg.lean LOADS. Nothing in Lean hashes anything: it is a label: what it is worth is what the hold of that sum in a sandbox is worth. -/
noncomputable def Try.pinned : Pinned := { name := "ytfppdlcgipnacaa", sum := "71b6fee553799d1a4f97bc9f3577472646670aca7906eed9cc69ef8114d91286", checked := Try.checked }
namespace Rows
def none {H : Type} : Left H := { results := [], args := [] }

/-- 'camshaftlaw08.VmTyped': WHATEVER THE INPUT: true; the input reads as it did. -/
def vmTypedSpec : ChangeSpec := { name := "vmTyped", fn := fun _ => fun
  | [d1, d2, d3] => { results := [.lit (.bool true)], args := [d1, d2, d3] }
  | _ => none }
def vmTypedRow : OpenClaim := { program := "ytfppdlcgipnacaa", sum := "71b6fee553799d1a4f97bc9f3577472646670aca7906eed9cc69ef8114d91286", func := "camshaft/camshaftlaw08.VmTyped", spec := "vmTyped", unfollowed := true, recurses := true, apart := false }
def VmTypedSaid : Prop := vmTypedRow.holds Try.pinned (OpenSpec.ofChange vmTypedSpec)

/-- ITS FALSE NEIGHBOUR: 'it returns false'. Refute it at one input. -/
def vmTypedWrong : ChangeSpec := { name := "vmTyped", fn := fun _ => fun
  | [d1, d2, d3] => { results := [.lit (.bool false)], args := [d1, d2, d3] }
  | _ => none }
def VmTypedWrongFalsely : Prop := vmTypedRow.holds Try.pinned (OpenSpec.ofChange vmTypedWrong)

/-- 'camshaftlaw08.VmHeld': WHATEVER THE INPUT: true; the input reads as it did. -/
def vmHeldSpec : ChangeSpec := { name := "vmHeld", fn := fun _ => fun
  | [d1, d2, d3] => { results := [.lit (.bool true)], args := [d1, d2, d3] }
  | _ => none }
def vmHeldRow : OpenClaim := { program := "ytfppdlcgipnacaa", sum := "71b6fee553799d1a4f97bc9f3577472646670aca7906eed9cc69ef8114d91286", func := "camshaft/camshaftlaw08.VmHeld", spec := "vmHeld", unfollowed := true, recurses := true, apart := false }
def VmHeldSaid : Prop := vmHeldRow.holds Try.pinned (OpenSpec.ofChange vmHeldSpec)

/-- ITS FALSE NEIGHBOUR: 'it returns false'. Refute it at one input. -/
def vmHeldWrong : ChangeSpec := { name := "vmHeld", fn := fun _ => fun
  | [d1, d2, d3] => { results := [.lit (.bool false)], args := [d1, d2, d3] }
  | _ => none }
def VmHeldWrongFalsely : Prop := vmHeldRow.holds Try.pinned (OpenSpec.ofChange vmHeldWrong)

/-- 'camshaftlaw08.VmEnds': WHATEVER THE INPUT: true; the input reads as it did. -/
def vmEndsSpec : ChangeSpec := { name := "vmEnds", fn := fun _ => fun
  | [d1, d2, d3] => { results := [.lit (.bool true)], args := [d1, d2, d3] }
  | _ => none }
def vmEndsRow : OpenClaim := { program := "ytfppdlcgipnacaa", sum := "71b6fee553799d1a4f97bc9f3577472646670aca7906eed9cc69ef8114d91286", func := "camshaft/camshaftlaw08.VmEnds", spec := "vmEnds", unfollowed := true, recurses := true, apart := false }
def VmEndsSaid : Prop := vmEndsRow.holds Try.pinned (OpenSpec.ofChange vmEndsSpec)

/-- ITS FALSE NEIGHBOUR: 'it returns false'. Refute it at one input. -/
def vmEndsWrong : ChangeSpec := { name := "vmEnds", fn := fun _ => fun
  | [d1, d2, d3] => { results := [.lit (.bool false)], args := [d1, d2, d3] }
  | _ => none }
def VmEndsWrongFalsely : Prop := vmEndsRow.holds Try.pinned (OpenSpec.ofChange vmEndsWrong)

/-- 'camshaftlaw08.VmNil': WHATEVER THE INPUT: true; the input reads as it did. -/
def vmNilSpec : ChangeSpec := { name := "vmNil", fn := fun _ => fun
  | [d] => { results := [.lit (.bool true)], args := [d] }
  | _ => none }
def vmNilRow : OpenClaim := { program := "ytfppdlcgipnacaa", sum := "71b6fee553799d1a4f97bc9f3577472646670aca7906eed9cc69ef8114d91286", func := "camshaft/camshaftlaw08.VmNil", spec := "vmNil", unfollowed := true, recurses := true, apart := false }
def VmNilSaid : Prop := vmNilRow.holds Try.pinned (OpenSpec.ofChange vmNilSpec)

/-- ITS FALSE NEIGHBOUR: 'it returns false'. Refute it at one input. -/
def vmNilWrong : ChangeSpec := { name := "vmNil", fn := fun _ => fun
  | [d] => { results := [.lit (.bool false)], args := [d] }
  | _ => none }
def VmNilWrongFalsely : Prop := vmNilRow.holds Try.pinned (OpenSpec.ofChange vmNilWrong)

/-- 'camshaftlaw08.VmAgain': WHATEVER THE INPUT: true; the input reads as it did. -/
def vmAgainSpec : ChangeSpec := { name := "vmAgain", fn := fun _ => fun
  | [d1, d2, d3] => { results := [.lit (.bool true)], args := [d1, d2, d3] }
  | _ => none }
def vmAgainRow : OpenClaim := { program := "ytfppdlcgipnacaa", sum := "71b6fee553799d1a4f97bc9f3577472646670aca7906eed9cc69ef8114d91286", func := "camshaft/camshaftlaw08.VmAgain", spec := "vmAgain", unfollowed := true, recurses := true, apart := false }
def VmAgainSaid : Prop := vmAgainRow.holds Try.pinned (OpenSpec.ofChange vmAgainSpec)

/-- ITS FALSE NEIGHBOUR: 'it returns false'. Refute it at one input. -/
def vmAgainWrong : ChangeSpec := { name := "vmAgain", fn := fun _ => fun
  | [d1, d2, d3] => { results := [.lit (.bool false)], args := [d1, d2, d3] }
  | _ => none }
def VmAgainWrongFalsely : Prop := vmAgainRow.holds Try.pinned (OpenSpec.ofChange vmAgainWrong)

/-- 'camshaftlaw08.VmParts': WHATEVER THE INPUT: true; the input reads as it did. -/
def vmPartsSpec : ChangeSpec := { name := "vmParts", fn := fun _ => fun
  | [d1, d2, d3] => { results := [.lit (.bool true)], args := [d1, d2, d3] }
  | _ => none }
def vmPartsRow : OpenClaim := { program := "ytfppdlcgipnacaa", sum := "71b6fee553799d1a4f97bc9f3577472646670aca7906eed9cc69ef8114d91286", func := "camshaft/camshaftlaw08.VmParts", spec := "vmParts", unfollowed := true, recurses := true, apart := false }
def VmPartsSaid : Prop := vmPartsRow.holds Try.pinned (OpenSpec.ofChange vmPartsSpec)

/-- ITS FALSE NEIGHBOUR: 'it returns false'. Refute it at one input. -/
def vmPartsWrong : ChangeSpec := { name := "vmParts", fn := fun _ => fun
  | [d1, d2, d3] => { results := [.lit (.bool false)], args := [d1, d2, d3] }
  | _ => none }
def VmPartsWrongFalsely : Prop := vmPartsRow.holds Try.pinned (OpenSpec.ofChange vmPartsWrong)

/-- 'camshaftlaw09.CostRuns': WHATEVER THE INPUT: true; the input reads as it did. -/
def costRunsSpec : ChangeSpec := { name := "costRuns", fn := fun _ => fun
  | [d1, d2, d3] => { results := [.lit (.bool true)], args := [d1, d2, d3] }
  | _ => none }
def costRunsRow : OpenClaim := { program := "ytfppdlcgipnacaa", sum := "71b6fee553799d1a4f97bc9f3577472646670aca7906eed9cc69ef8114d91286", func := "camshaft/camshaftlaw09.CostRuns", spec := "costRuns", unfollowed := true, recurses := true, apart := false }
def CostRunsSaid : Prop := costRunsRow.holds Try.pinned (OpenSpec.ofChange costRunsSpec)

/-- ITS FALSE NEIGHBOUR: 'it returns false'. Refute it at one input. -/
def costRunsWrong : ChangeSpec := { name := "costRuns", fn := fun _ => fun
  | [d1, d2, d3] => { results := [.lit (.bool false)], args := [d1, d2, d3] }
  | _ => none }
def CostRunsWrongFalsely : Prop := costRunsRow.holds Try.pinned (OpenSpec.ofChange costRunsWrong)

/- THE SECOND FORM. 'bulk': how many values and letters a reading holds, each counted each time it is reached (what is shared counts as often as it is met; a slice's spare places count too). A statement '..UptoSaid' is the law's where the arguments, and the package variables that the reading takes, are together of bulk at most 1048576: NARROWER than '..Said'. Prove '..Said' where nothing that the law and all that it calls make is longer than what came in: it says more and counts as full. Else prove '..UptoSaid'. A law counts once. -/
mutual
def uptoBulk {H : Type} : DataW H → Nat
  | .lit (.string bytes) => bytes.length + 1
  | .lit _ => 1
  | .nil => 1
  | .ptr d => uptoBulk d + 1
  | .slice elems spare => uptoBulkAll elems + uptoBulkAll spare + 1
  | .agg parts => uptoBulkAll parts + 1
  | .iface _ d => uptoBulk d + 1
  | .map entries => uptoBulkEntries entries + 1
  | .held _ => 1
def uptoBulkAll {H : Type} : List (DataW H) → Nat
  | [] => 0
  | d :: r => uptoBulk d + uptoBulkAll r
def uptoBulkEntries {H : Type} : List (Lit × DataW H) → Nat
  | [] => 0
  | x :: r => uptoBulkEntry x + uptoBulkEntries r
def uptoBulkEntry {H : Type} : Lit × DataW H → Nat
  | (.string bytes, d) => bytes.length + uptoBulk d + 1
  | (_, d) => uptoBulk d + 1
 end
def uptoSmall : (H : Type) → List (DataW H) → Bool := fun _ ds => decide (uptoBulkAll ds ≤ 1048576)
def OpenSpec.upto (s : _root_.Go.ChangeSpec) : _root_.Go.OpenSpec := { _root_.Go.OpenSpec.ofChange s with cond := some uptoSmall }

/-- 'camshaftlaw08.VmTyped', WHERE WHAT IT READS IS OF BULK AT MOST 1048576: true; the input reads as it did. -/
def vmTypedUptoRow : OpenClaim := { program := "ytfppdlcgipnacaa", sum := "71b6fee553799d1a4f97bc9f3577472646670aca7906eed9cc69ef8114d91286", func := "camshaft/camshaftlaw08.VmTyped", spec := "vmTyped", unfollowed := true, recurses := true, apart := false, narrowed := true }
def VmTypedUptoSaid : Prop := vmTypedUptoRow.holds Try.pinned (OpenSpec.upto vmTypedSpec)

/-- 'camshaftlaw08.VmHeld', WHERE WHAT IT READS IS OF BULK AT MOST 1048576: true; the input reads as it did. -/
def vmHeldUptoRow : OpenClaim := { program := "ytfppdlcgipnacaa", sum := "71b6fee553799d1a4f97bc9f3577472646670aca7906eed9cc69ef8114d91286", func := "camshaft/camshaftlaw08.VmHeld", spec := "vmHeld", unfollowed := true, recurses := true, apart := false, narrowed := true }
def VmHeldUptoSaid : Prop := vmHeldUptoRow.holds Try.pinned (OpenSpec.upto vmHeldSpec)

/-- 'camshaftlaw08.VmEnds', WHERE WHAT IT READS IS OF BULK AT MOST 1048576: true; the input reads as it did. -/
def vmEndsUptoRow : OpenClaim := { program := "ytfppdlcgipnacaa", sum := "71b6fee553799d1a4f97bc9f3577472646670aca7906eed9cc69ef8114d91286", func := "camshaft/camshaftlaw08.VmEnds", spec := "vmEnds", unfollowed := true, recurses := true, apart := false, narrowed := true }
def VmEndsUptoSaid : Prop := vmEndsUptoRow.holds Try.pinned (OpenSpec.upto vmEndsSpec)

/-- 'camshaftlaw08.VmNil', WHERE WHAT IT READS IS OF BULK AT MOST 1048576: true; the input reads as it did. -/
def vmNilUptoRow : OpenClaim := { program := "ytfppdlcgipnacaa", sum := "71b6fee553799d1a4f97bc9f3577472646670aca7906eed9cc69ef8114d91286", func := "camshaft/camshaftlaw08.VmNil", spec := "vmNil", unfollowed := true, recurses := true, apart := false, narrowed := true }
def VmNilUptoSaid : Prop := vmNilUptoRow.holds Try.pinned (OpenSpec.upto vmNilSpec)

/-- 'camshaftlaw08.VmAgain', WHERE WHAT IT READS IS OF BULK AT MOST 1048576: true; the input reads as it did. -/
def vmAgainUptoRow : OpenClaim := { program := "ytfppdlcgipnacaa", sum := "71b6fee553799d1a4f97bc9f3577472646670aca7906eed9cc69ef8114d91286", func := "camshaft/camshaftlaw08.VmAgain", spec := "vmAgain", unfollowed := true, recurses := true, apart := false, narrowed := true }
def VmAgainUptoSaid : Prop := vmAgainUptoRow.holds Try.pinned (OpenSpec.upto vmAgainSpec)

/-- 'camshaftlaw08.VmParts', WHERE WHAT IT READS IS OF BULK AT MOST 1048576: true; the input reads as it did. -/
def vmPartsUptoRow : OpenClaim := { program := "ytfppdlcgipnacaa", sum := "71b6fee553799d1a4f97bc9f3577472646670aca7906eed9cc69ef8114d91286", func := "camshaft/camshaftlaw08.VmParts", spec := "vmParts", unfollowed := true, recurses := true, apart := false, narrowed := true }
def VmPartsUptoSaid : Prop := vmPartsUptoRow.holds Try.pinned (OpenSpec.upto vmPartsSpec)

/-- 'camshaftlaw09.CostRuns', WHERE WHAT IT READS IS OF BULK AT MOST 1048576: true; the input reads as it did. -/
def costRunsUptoRow : OpenClaim := { program := "ytfppdlcgipnacaa", sum := "71b6fee553799d1a4f97bc9f3577472646670aca7906eed9cc69ef8114d91286", func := "camshaft/camshaftlaw09.CostRuns", spec := "costRuns", unfollowed := true, recurses := true, apart := false, narrowed := true }
def CostRunsUptoSaid : Prop := costRunsUptoRow.holds Try.pinned (OpenSpec.upto costRunsSpec)

end Rows
end Go.Proofs.Ytfppdlcgipnacaa
