/-
  No cell of these rows narrows 'for every input' (looked for: loops, veiled, ifaces, maps, wideKeys, modest, calm, conditions, laid).
  DERIVED. THE GIVEN ROWS OF THIS SEAT. 2 by the template 'for every input the law returns true; each argument reads behind the call as it read before'; 0 by the template 'total and deterministic' (their statements: YtmacohlmfghffaaGreatTotals.lean).
  GIVEN WITH THE SEED: the statements are not yours to turn. If you find one false, say at which input.
  Laid BY PROGRAM, IN A SANDBOX (cutbox-rows.mjs): the forced cells as the released guide's own fill.sh prints them over the translation 7a2edb5645bac106… (all of the seat's roots in one cut). By AI agents, Wed Nov 11 2026. No macro, syntax, notation, axiom, sorry.
-/
import Derived.Test.YtmacohlmfghffaaGreatChecked
import GoSem.Claim
import GoSem.ClaimJoined
import GoSem.ClaimMapViews
import Derived.JoinedTies
import Derived.KernelRfl
namespace Go.Proofs.YtmacohlmfghffaaGreat
/- THE CELL 'sum', in the pinned program and in every row, IS THE sha256 OF THE DUMP (.gsa) THAT YtmacohlmfghffaaGreatProg.lean LOADS. Nothing in Lean hashes anything: it is a label: what it is worth is what the hold of that sum in a sandbox is worth. -/
noncomputable def Tryz.pinned : Pinned := { name := "ytmacohlmfghffaagreat", sum := "7a2edb5645bac1069d0e05f7eb474d05ff01043318eb90da02c3c1a96a767eea", checked := Tryz.checked }
namespace Rows
def none {H : Type} : Left H := { results := [], args := [] }

/-- 'camshafttop.TopText': WHATEVER THE INPUT: true; the input reads as it did. -/
def topTextSpec : ChangeSpec := { name := "topText", fn := fun _ => fun
  | [d] => { results := [.lit (.bool true)], args := [d] }
  | _ => none }
def topTextRow : OpenClaim := { program := "ytmacohlmfghffaagreat", sum := "7a2edb5645bac1069d0e05f7eb474d05ff01043318eb90da02c3c1a96a767eea", func := "camshaft/camshafttop.TopText", spec := "topText", unfollowed := true, recurses := true, plainKeys := false, apart := false }
def TopTextSaid : Prop := topTextRow.holds Tryz.pinned (OpenSpec.ofChange topTextSpec)

/-- ITS FALSE NEIGHBOUR: 'it returns false'. Refute it at one input. -/
def topTextWrong : ChangeSpec := { name := "topText", fn := fun _ => fun
  | [d] => { results := [.lit (.bool false)], args := [d] }
  | _ => none }
def TopTextWrongFalsely : Prop := topTextRow.holds Tryz.pinned (OpenSpec.ofChange topTextWrong)

/-- 'camshaftlaw12.CheckRuns': WHATEVER THE INPUT: true; the input reads as it did. -/
def checkRunsSpec : ChangeSpec := { name := "checkRuns", fn := fun _ => fun
  | [d1, d2, d3] => { results := [.lit (.bool true)], args := [d1, d2, d3] }
  | _ => none }
def checkRunsRow : OpenClaim := { program := "ytmacohlmfghffaagreat", sum := "7a2edb5645bac1069d0e05f7eb474d05ff01043318eb90da02c3c1a96a767eea", func := "camshaft/camshaftlaw12.CheckRuns", spec := "checkRuns", unfollowed := true, recurses := true, plainKeys := false, apart := false }
def CheckRunsSaid : Prop := checkRunsRow.holds Tryz.pinned (OpenSpec.ofChange checkRunsSpec)

/-- ITS FALSE NEIGHBOUR: 'it returns false'. Refute it at one input. -/
def checkRunsWrong : ChangeSpec := { name := "checkRuns", fn := fun _ => fun
  | [d1, d2, d3] => { results := [.lit (.bool false)], args := [d1, d2, d3] }
  | _ => none }
def CheckRunsWrongFalsely : Prop := checkRunsRow.holds Tryz.pinned (OpenSpec.ofChange checkRunsWrong)

/- THE SECOND FORM. 'bulk': how many values and letters a reading holds, each counted each time it is reached (what is shared counts as often as it is met; a slice's spare places count too). A statement '..UptoSaid' is the law's where the arguments, and the package variables that the reading takes, are together of bulk at most 1048576: NARROWER than '..Said'. Prove '..Said' where nothing that the law and all that it calls make is longer than what came in: it says more and counts as full. Else prove '..UptoSaid'. A law counts once. -/
mutual
def uptoBulk {H : Type} : DataW H → Nat
  | .lit (.string bytes) => bytes.length + 1
  | .lit _ => 1
  | .nil => 1
  | .ptr d => uptoBulk d + 1
  | .slice elems spare => uptoBulkAll elems + uptoBulkAll spare + 1
  | .agg parts => uptoBulkAll parts + 1
  | .iface _ d => uptoBulk d + 1
  | .map entries => uptoBulkEntries entries + 1
  | .held _ => 1
def uptoBulkAll {H : Type} : List (DataW H) → Nat
  | [] => 0
  | d :: r => uptoBulk d + uptoBulkAll r
def uptoBulkEntries {H : Type} : List (Lit × DataW H) → Nat
  | [] => 0
  | x :: r => uptoBulkEntry x + uptoBulkEntries r
def uptoBulkEntry {H : Type} : Lit × DataW H → Nat
  | (.string bytes, d) => bytes.length + uptoBulk d + 1
  | (_, d) => uptoBulk d + 1
 end
def uptoSmall : (H : Type) → List (DataW H) → Bool := fun _ ds => decide (uptoBulkAll ds ≤ 1048576)
def OpenSpec.upto (s : _root_.Go.ChangeSpec) : _root_.Go.OpenSpec := { _root_.Go.OpenSpec.ofChange s with cond := some uptoSmall }

/-- 'camshafttop.TopText', WHERE WHAT IT READS IS OF BULK AT MOST 1048576: true; the input reads as it did. -/
def topTextUptoRow : OpenClaim := { program := "ytmacohlmfghffaagreat", sum := "7a2edb5645bac1069d0e05f7eb474d05ff01043318eb90da02c3c1a96a767eea", func := "camshaft/camshafttop.TopText", spec := "topText", unfollowed := true, recurses := true, plainKeys := false, apart := false, narrowed := true }
def TopTextUptoSaid : Prop := topTextUptoRow.holds Tryz.pinned (OpenSpec.upto topTextSpec)

/-- 'camshaftlaw12.CheckRuns', WHERE WHAT IT READS IS OF BULK AT MOST 1048576: true; the input reads as it did. -/
def checkRunsUptoRow : OpenClaim := { program := "ytmacohlmfghffaagreat", sum := "7a2edb5645bac1069d0e05f7eb474d05ff01043318eb90da02c3c1a96a767eea", func := "camshaft/camshaftlaw12.CheckRuns", spec := "checkRuns", unfollowed := true, recurses := true, plainKeys := false, apart := false, narrowed := true }
def CheckRunsUptoSaid : Prop := checkRunsUptoRow.holds Tryz.pinned (OpenSpec.upto checkRunsSpec)

end Rows
end Go.Proofs.YtmacohlmfghffaaGreat
