/-
  No cell of these rows narrows 'for every input' (looked for: loops, veiled, ifaces, maps, wideKeys, modest, calm, conditions, laid).
  DERIVED. THE GIVEN ROWS OF THIS SEAT. 6 by the template 'for every input the law returns true; each argument reads behind the call as it read before'; 0 by the template 'total and deterministic' (their statements: YtmacohlmfghffaaTotals.lean).
  GIVEN WITH THE SEED: the statements are not yours to turn. If you find one false, say at which input.
  Laid BY PROGRAM, IN A SANDBOX (cutbox-rows.mjs): the forced cells as the released guide's own fill.sh prints them over the translation 650a69bc08914fdf… (all of the seat's roots in one cut). By AI agents, Wed Nov 11 2026. No macro, syntax, notation, axiom, sorry.
-/
import Derived.Test.YtmacohlmfghffaaChecked
import GoSem.Claim
import GoSem.ClaimJoined
import GoSem.ClaimMapViews
import Derived.JoinedTies
import Derived.KernelRfl
namespace Go.Proofs.Ytmacohlmfghffaa
/- THE CELL 'sum', in the pinned program and in every row, IS THE sha256 OF THE DUMP (.gsa) THAT YtmacohlmfghffaaProg.lean LOADS. Nothing in Lean hashes anything: it is a label: what it is worth is what the hold of that sum in a sandbox is worth. -/
noncomputable def Try.pinned : Pinned := { name := "ytmacohlmfghffaa", sum := "650a69bc08914fdf027c3ab31432a70fe9242278a2a371aa5761ddb039aba4a0", checked := Try.checked }
namespace Rows
def none {H : Type} : Left H := { results := [], args := [] }

/-- 'camshaftlaw12.CheckTells': WHATEVER THE INPUT: true; the input reads as it did. -/
def checkTellsSpec : ChangeSpec := { name := "checkTells", fn := fun _ => fun
  | [d1, d2] => { results := [.lit (.bool true)], args := [d1, d2] }
  | _ => none }
def checkTellsRow : OpenClaim := { program := "ytmacohlmfghffaa", sum := "650a69bc08914fdf027c3ab31432a70fe9242278a2a371aa5761ddb039aba4a0", func := "camshaft/camshaftlaw12.CheckTells", spec := "checkTells", unfollowed := true, recurses := true, apart := false }
def CheckTellsSaid : Prop := checkTellsRow.holds Try.pinned (OpenSpec.ofChange checkTellsSpec)

/-- ITS FALSE NEIGHBOUR: 'it returns false'. Refute it at one input. -/
def checkTellsWrong : ChangeSpec := { name := "checkTells", fn := fun _ => fun
  | [d1, d2] => { results := [.lit (.bool false)], args := [d1, d2] }
  | _ => none }
def CheckTellsWrongFalsely : Prop := checkTellsRow.holds Try.pinned (OpenSpec.ofChange checkTellsWrong)

/-- 'camshaftlaw12.CheckParts': WHATEVER THE INPUT: true; the input reads as it did. -/
def checkPartsSpec : ChangeSpec := { name := "checkParts", fn := fun _ => fun
  | [d] => { results := [.lit (.bool true)], args := [d] }
  | _ => none }
def checkPartsRow : OpenClaim := { program := "ytmacohlmfghffaa", sum := "650a69bc08914fdf027c3ab31432a70fe9242278a2a371aa5761ddb039aba4a0", func := "camshaft/camshaftlaw12.CheckParts", spec := "checkParts", unfollowed := true, recurses := true, apart := false }
def CheckPartsSaid : Prop := checkPartsRow.holds Try.pinned (OpenSpec.ofChange checkPartsSpec)

/-- ITS FALSE NEIGHBOUR: 'it returns false'. Refute it at one input. -/
def checkPartsWrong : ChangeSpec := { name := "checkParts", fn := fun _ => fun
  | [d] => { results := [.lit (.bool false)], args := [d] }
  | _ => none }
def CheckPartsWrongFalsely : Prop := checkPartsRow.holds Try.pinned (OpenSpec.ofChange checkPartsWrong)

/-- 'camshaftlaw12.CheckLocked': WHATEVER THE INPUT: true; the input reads as it did. -/
def checkLockedSpec : ChangeSpec := { name := "checkLocked", fn := fun _ => fun
  | [d1, d2] => { results := [.lit (.bool true)], args := [d1, d2] }
  | _ => none }
def checkLockedRow : OpenClaim := { program := "ytmacohlmfghffaa", sum := "650a69bc08914fdf027c3ab31432a70fe9242278a2a371aa5761ddb039aba4a0", func := "camshaft/camshaftlaw12.CheckLocked", spec := "checkLocked", unfollowed := true, recurses := true, apart := false }
def CheckLockedSaid : Prop := checkLockedRow.holds Try.pinned (OpenSpec.ofChange checkLockedSpec)

/-- ITS FALSE NEIGHBOUR: 'it returns false'. Refute it at one input. -/
def checkLockedWrong : ChangeSpec := { name := "checkLocked", fn := fun _ => fun
  | [d1, d2] => { results := [.lit (.bool false)], args := [d1, d2] }
  | _ => none }
def CheckLockedWrongFalsely : Prop := checkLockedRow.holds Try.pinned (OpenSpec.ofChange checkLockedWrong)

/-- 'camshaftlaw12.CheckTimes': WHATEVER THE INPUT: true; the input reads as it did. -/
def checkTimesSpec : ChangeSpec := { name := "checkTimes", fn := fun _ => fun
  | [d1, d2, d3] => { results := [.lit (.bool true)], args := [d1, d2, d3] }
  | _ => none }
def checkTimesRow : OpenClaim := { program := "ytmacohlmfghffaa", sum := "650a69bc08914fdf027c3ab31432a70fe9242278a2a371aa5761ddb039aba4a0", func := "camshaft/camshaftlaw12.CheckTimes", spec := "checkTimes", unfollowed := true, recurses := true, apart := false }
def CheckTimesSaid : Prop := checkTimesRow.holds Try.pinned (OpenSpec.ofChange checkTimesSpec)

/-- ITS FALSE NEIGHBOUR: 'it returns false'. Refute it at one input. -/
def checkTimesWrong : ChangeSpec := { name := "checkTimes", fn := fun _ => fun
  | [d1, d2, d3] => { results := [.lit (.bool false)], args := [d1, d2, d3] }
  | _ => none }
def CheckTimesWrongFalsely : Prop := checkTimesRow.holds Try.pinned (OpenSpec.ofChange checkTimesWrong)

/-- 'camshaftlaw12.CheckMore': WHATEVER THE INPUT: true; the input reads as it did. -/
def checkMoreSpec : ChangeSpec := { name := "checkMore", fn := fun _ => fun
  | [d1, d2, d3] => { results := [.lit (.bool true)], args := [d1, d2, d3] }
  | _ => none }
def checkMoreRow : OpenClaim := { program := "ytmacohlmfghffaa", sum := "650a69bc08914fdf027c3ab31432a70fe9242278a2a371aa5761ddb039aba4a0", func := "camshaft/camshaftlaw12.CheckMore", spec := "checkMore", unfollowed := true, recurses := true, apart := false }
def CheckMoreSaid : Prop := checkMoreRow.holds Try.pinned (OpenSpec.ofChange checkMoreSpec)

/-- ITS FALSE NEIGHBOUR: 'it returns false'. Refute it at one input. -/
def checkMoreWrong : ChangeSpec := { name := "checkMore", fn := fun _ => fun
  | [d1, d2, d3] => { results := [.lit (.bool false)], args := [d1, d2, d3] }
  | _ => none }
def CheckMoreWrongFalsely : Prop := checkMoreRow.holds Try.pinned (OpenSpec.ofChange checkMoreWrong)

/-- 'camshaftlaw12.CheckEmpty': WHATEVER THE INPUT: true; the input reads as it did. -/
def checkEmptySpec : ChangeSpec := { name := "checkEmpty", fn := fun _ => fun
  | [d1, d2] => { results := [.lit (.bool true)], args := [d1, d2] }
  | _ => none }
def checkEmptyRow : OpenClaim := { program := "ytmacohlmfghffaa", sum := "650a69bc08914fdf027c3ab31432a70fe9242278a2a371aa5761ddb039aba4a0", func := "camshaft/camshaftlaw12.CheckEmpty", spec := "checkEmpty", unfollowed := true, recurses := true, apart := false }
def CheckEmptySaid : Prop := checkEmptyRow.holds Try.pinned (OpenSpec.ofChange checkEmptySpec)

/-- ITS FALSE NEIGHBOUR: 'it returns false'. Refute it at one input. -/
def checkEmptyWrong : ChangeSpec := { name := "checkEmpty", fn := fun _ => fun
  | [d1, d2] => { results := [.lit (.bool false)], args := [d1, d2] }
  | _ => none }
def CheckEmptyWrongFalsely : Prop := checkEmptyRow.holds Try.pinned (OpenSpec.ofChange checkEmptyWrong)

/- THE SECOND FORM. 'bulk': how many values and letters a reading holds, each counted each time it is reached (what is shared counts as often as it is met; a slice's spare places count too). A statement '..UptoSaid' is the law's where the arguments, and the package variables that the reading takes, are together of bulk at most 1048576: NARROWER than '..Said'. Prove '..Said' where nothing that the law and all that it calls make is longer than what came in: it says more and counts as full. Else prove '..UptoSaid'. A law counts once. -/
mutual
def uptoBulk {H : Type} : DataW H → Nat
  | .lit (.string bytes) => bytes.length + 1
  | .lit _ => 1
  | .nil => 1
  | .ptr d => uptoBulk d + 1
  | .slice elems spare => uptoBulkAll elems + uptoBulkAll spare + 1
  | .agg parts => uptoBulkAll parts + 1
  | .iface _ d => uptoBulk d + 1
  | .map entries => uptoBulkEntries entries + 1
  | .held _ => 1
def uptoBulkAll {H : Type} : List (DataW H) → Nat
  | [] => 0
  | d :: r => uptoBulk d + uptoBulkAll r
def uptoBulkEntries {H : Type} : List (Lit × DataW H) → Nat
  | [] => 0
  | x :: r => uptoBulkEntry x + uptoBulkEntries r
def uptoBulkEntry {H : Type} : Lit × DataW H → Nat
  | (.string bytes, d) => bytes.length + uptoBulk d + 1
  | (_, d) => uptoBulk d + 1
 end
def uptoSmall : (H : Type) → List (DataW H) → Bool := fun _ ds => decide (uptoBulkAll ds ≤ 1048576)
def OpenSpec.upto (s : _root_.Go.ChangeSpec) : _root_.Go.OpenSpec := { _root_.Go.OpenSpec.ofChange s with cond := some uptoSmall }

/-- 'camshaftlaw12.CheckTells', WHERE WHAT IT READS IS OF BULK AT MOST 1048576: true; the input reads as it did. -/
def checkTellsUptoRow : OpenClaim := { program := "ytmacohlmfghffaa", sum := "650a69bc08914fdf027c3ab31432a70fe9242278a2a371aa5761ddb039aba4a0", func := "camshaft/camshaftlaw12.CheckTells", spec := "checkTells", unfollowed := true, recurses := true, apart := false, narrowed := true }
def CheckTellsUptoSaid : Prop := checkTellsUptoRow.holds Try.pinned (OpenSpec.upto checkTellsSpec)

/-- 'camshaftlaw12.CheckParts', WHERE WHAT IT READS IS OF BULK AT MOST 1048576: true; the input reads as it did. -/
def checkPartsUptoRow : OpenClaim := { program := "ytmacohlmfghffaa", sum := "650a69bc08914fdf027c3ab31432a70fe9242278a2a371aa5761ddb039aba4a0", func := "camshaft/camshaftlaw12.CheckParts", spec := "checkParts", unfollowed := true, recurses := true, apart := false, narrowed := true }
def CheckPartsUptoSaid : Prop := checkPartsUptoRow.holds Try.pinned (OpenSpec.upto checkPartsSpec)

/-- 'camshaftlaw12.CheckLocked', WHERE WHAT IT READS IS OF BULK AT MOST 1048576: true; the input reads as it did. -/
def checkLockedUptoRow : OpenClaim := { program := "ytmacohlmfghffaa", sum := "650a69bc08914fdf027c3ab31432a70fe9242278a2a371aa5761ddb039aba4a0", func := "camshaft/camshaftlaw12.CheckLocked", spec := "checkLocked", unfollowed := true, recurses := true, apart := false, narrowed := true }
def CheckLockedUptoSaid : Prop := checkLockedUptoRow.holds Try.pinned (OpenSpec.upto checkLockedSpec)

/-- 'camshaftlaw12.CheckTimes', WHERE WHAT IT READS IS OF BULK AT MOST 1048576: true; the input reads as it did. -/
def checkTimesUptoRow : OpenClaim := { program := "ytmacohlmfghffaa", sum := "650a69bc08914fdf027c3ab31432a70fe9242278a2a371aa5761ddb039aba4a0", func := "camshaft/camshaftlaw12.CheckTimes", spec := "checkTimes", unfollowed := true, recurses := true, apart := false, narrowed := true }
def CheckTimesUptoSaid : Prop := checkTimesUptoRow.holds Try.pinned (OpenSpec.upto checkTimesSpec)

/-- 'camshaftlaw12.CheckMore', WHERE WHAT IT READS IS OF BULK AT MOST 1048576: true; the input reads as it did. -/
def checkMoreUptoRow : OpenClaim := { program := "ytmacohlmfghffaa", sum := "650a69bc08914fdf027c3ab31432a70fe9242278a2a371aa5761ddb039aba4a0", func := "camshaft/camshaftlaw12.CheckMore", spec := "checkMore", unfollowed := true, recurses := true, apart := false, narrowed := true }
def CheckMoreUptoSaid : Prop := checkMoreUptoRow.holds Try.pinned (OpenSpec.upto checkMoreSpec)

/-- 'camshaftlaw12.CheckEmpty', WHERE WHAT IT READS IS OF BULK AT MOST 1048576: true; the input reads as it did. -/
def checkEmptyUptoRow : OpenClaim := { program := "ytmacohlmfghffaa", sum := "650a69bc08914fdf027c3ab31432a70fe9242278a2a371aa5761ddb039aba4a0", func := "camshaft/camshaftlaw12.CheckEmpty", spec := "checkEmpty", unfollowed := true, recurses := true, apart := false, narrowed := true }
def CheckEmptyUptoSaid : Prop := checkEmptyUptoRow.holds Try.pinned (OpenSpec.upto checkEmptySpec)

end Rows
end Go.Proofs.Ytmacohlmfghffaa
