/-
  No cell of these rows narrows 'for every input' (looked for: loops, veiled, ifaces, maps, wideKeys, modest, calm, conditions, laid).
  DERIVED. THE GIVEN ROWS OF THIS SEAT. 9 by the template 'for every input the law returns true; each argument reads behind the call as it read before'; 0 by the template 'total and deterministic' (their statements: YtofeifhecboinaaGreatTotals.lean).
  GIVEN WITH THE SEED: the statements are not yours to turn. If you find one false, say at which input.
  Laid BY PROGRAM, IN A SANDBOX (cutbox-rows.mjs): the forced cells as the released guide's own fill.sh prints them over the translation aa2408ced2845dd8… (all of the seat's roots in one cut). By AI agents, Wed Nov 11 2026. No macro, syntax, notation, axiom, sorry.
-/
import Derived.Test.YtofeifhecboinaaGreatChecked
import GoSem.Claim
import GoSem.ClaimJoined
import GoSem.ClaimMapViews
import Derived.JoinedTies
import Derived.KernelRfl
namespace Go.Proofs.YtofeifhecboinaaGreat
/- THE CELL 'sum', in the pinned program and in every row, IS THE sha256 OF THE DUMP (.gsa) THAT YtofeifhecboinaaGreatProg.lean LOADS. Nothing in Lean hashes anything: it is a label: what it is worth is what the hold of that sum in a sandbox is worth. -/
noncomputable def Tryz.pinned : Pinned := { name := "ytofeifhecboinaagreat", sum := "aa2408ced2845dd86a1d9ab99438a3facab10ba75d188eddeef71f2112d2bcc0", checked := Tryz.checked }
namespace Rows
def none {H : Type} : Left H := { results := [], args := [] }

/-- 'camshaftlaw18.InstSteps': WHATEVER THE INPUT: true; the input reads as it did. -/
def instStepsSpec : ChangeSpec := { name := "instSteps", fn := fun _ => fun
  | [d1, d2, d3] => { results := [.lit (.bool true)], args := [d1, d2, d3] }
  | _ => none }
def instStepsRow : OpenClaim := { program := "ytofeifhecboinaagreat", sum := "aa2408ced2845dd86a1d9ab99438a3facab10ba75d188eddeef71f2112d2bcc0", func := "camshaft/camshaftlaw18.InstSteps", spec := "instSteps", unfollowed := true, recurses := true, apart := false }
def InstStepsSaid : Prop := instStepsRow.holds Tryz.pinned (OpenSpec.ofChange instStepsSpec)

/-- ITS FALSE NEIGHBOUR: 'it returns false'. Refute it at one input. -/
def instStepsWrong : ChangeSpec := { name := "instSteps", fn := fun _ => fun
  | [d1, d2, d3] => { results := [.lit (.bool false)], args := [d1, d2, d3] }
  | _ => none }
def InstStepsWrongFalsely : Prop := instStepsRow.holds Tryz.pinned (OpenSpec.ofChange instStepsWrong)

/-- 'camshaftlaw18.InstUses': WHATEVER THE INPUT: true; the input reads as it did. -/
def instUsesSpec : ChangeSpec := { name := "instUses", fn := fun _ => fun
  | [d1, d2, d3] => { results := [.lit (.bool true)], args := [d1, d2, d3] }
  | _ => none }
def instUsesRow : OpenClaim := { program := "ytofeifhecboinaagreat", sum := "aa2408ced2845dd86a1d9ab99438a3facab10ba75d188eddeef71f2112d2bcc0", func := "camshaft/camshaftlaw18.InstUses", spec := "instUses", unfollowed := true, recurses := true, apart := false }
def InstUsesSaid : Prop := instUsesRow.holds Tryz.pinned (OpenSpec.ofChange instUsesSpec)

/-- ITS FALSE NEIGHBOUR: 'it returns false'. Refute it at one input. -/
def instUsesWrong : ChangeSpec := { name := "instUses", fn := fun _ => fun
  | [d1, d2, d3] => { results := [.lit (.bool false)], args := [d1, d2, d3] }
  | _ => none }
def InstUsesWrongFalsely : Prop := instUsesRow.holds Tryz.pinned (OpenSpec.ofChange instUsesWrong)

/-- 'camshaftlaw18.InstTwice': WHATEVER THE INPUT: true; the input reads as it did. -/
def instTwiceSpec : ChangeSpec := { name := "instTwice", fn := fun _ => fun
  | [d1, d2, d3] => { results := [.lit (.bool true)], args := [d1, d2, d3] }
  | _ => none }
def instTwiceRow : OpenClaim := { program := "ytofeifhecboinaagreat", sum := "aa2408ced2845dd86a1d9ab99438a3facab10ba75d188eddeef71f2112d2bcc0", func := "camshaft/camshaftlaw18.InstTwice", spec := "instTwice", unfollowed := true, recurses := true, apart := false }
def InstTwiceSaid : Prop := instTwiceRow.holds Tryz.pinned (OpenSpec.ofChange instTwiceSpec)

/-- ITS FALSE NEIGHBOUR: 'it returns false'. Refute it at one input. -/
def instTwiceWrong : ChangeSpec := { name := "instTwice", fn := fun _ => fun
  | [d1, d2, d3] => { results := [.lit (.bool false)], args := [d1, d2, d3] }
  | _ => none }
def InstTwiceWrongFalsely : Prop := instTwiceRow.holds Tryz.pinned (OpenSpec.ofChange instTwiceWrong)

/-- 'camshaftlaw15.AdmitJudges': WHATEVER THE INPUT: true; the input reads as it did. -/
def admitJudgesSpec : ChangeSpec := { name := "admitJudges", fn := fun _ => fun
  | [d] => { results := [.lit (.bool true)], args := [d] }
  | _ => none }
def admitJudgesRow : OpenClaim := { program := "ytofeifhecboinaagreat", sum := "aa2408ced2845dd86a1d9ab99438a3facab10ba75d188eddeef71f2112d2bcc0", func := "camshaft/camshaftlaw15.AdmitJudges", spec := "admitJudges", unfollowed := true, recurses := true, apart := false }
def AdmitJudgesSaid : Prop := admitJudgesRow.holds Tryz.pinned (OpenSpec.ofChange admitJudgesSpec)

/-- ITS FALSE NEIGHBOUR: 'it returns false'. Refute it at one input. -/
def admitJudgesWrong : ChangeSpec := { name := "admitJudges", fn := fun _ => fun
  | [d] => { results := [.lit (.bool false)], args := [d] }
  | _ => none }
def AdmitJudgesWrongFalsely : Prop := admitJudgesRow.holds Tryz.pinned (OpenSpec.ofChange admitJudgesWrong)

/-- 'camshaftlaw15.AdmitLoads': WHATEVER THE INPUT: true; the input reads as it did. -/
def admitLoadsSpec : ChangeSpec := { name := "admitLoads", fn := fun _ => fun
  | [d1, d2] => { results := [.lit (.bool true)], args := [d1, d2] }
  | _ => none }
def admitLoadsRow : OpenClaim := { program := "ytofeifhecboinaagreat", sum := "aa2408ced2845dd86a1d9ab99438a3facab10ba75d188eddeef71f2112d2bcc0", func := "camshaft/camshaftlaw15.AdmitLoads", spec := "admitLoads", unfollowed := true, recurses := true, apart := false }
def AdmitLoadsSaid : Prop := admitLoadsRow.holds Tryz.pinned (OpenSpec.ofChange admitLoadsSpec)

/-- ITS FALSE NEIGHBOUR: 'it returns false'. Refute it at one input. -/
def admitLoadsWrong : ChangeSpec := { name := "admitLoads", fn := fun _ => fun
  | [d1, d2] => { results := [.lit (.bool false)], args := [d1, d2] }
  | _ => none }
def AdmitLoadsWrongFalsely : Prop := admitLoadsRow.holds Tryz.pinned (OpenSpec.ofChange admitLoadsWrong)

/-- 'camshaftlaw15.AdmitTimes': WHATEVER THE INPUT: true; the input reads as it did. -/
def admitTimesSpec : ChangeSpec := { name := "admitTimes", fn := fun _ => fun
  | [d] => { results := [.lit (.bool true)], args := [d] }
  | _ => none }
def admitTimesRow : OpenClaim := { program := "ytofeifhecboinaagreat", sum := "aa2408ced2845dd86a1d9ab99438a3facab10ba75d188eddeef71f2112d2bcc0", func := "camshaft/camshaftlaw15.AdmitTimes", spec := "admitTimes", unfollowed := true, recurses := true, apart := false }
def AdmitTimesSaid : Prop := admitTimesRow.holds Tryz.pinned (OpenSpec.ofChange admitTimesSpec)

/-- ITS FALSE NEIGHBOUR: 'it returns false'. Refute it at one input. -/
def admitTimesWrong : ChangeSpec := { name := "admitTimes", fn := fun _ => fun
  | [d] => { results := [.lit (.bool false)], args := [d] }
  | _ => none }
def AdmitTimesWrongFalsely : Prop := admitTimesRow.holds Tryz.pinned (OpenSpec.ofChange admitTimesWrong)

/-- 'camshaftlaw15.AdmitWider': WHATEVER THE INPUT: true; the input reads as it did. -/
def admitWiderSpec : ChangeSpec := { name := "admitWider", fn := fun _ => fun
  | [d1, d2] => { results := [.lit (.bool true)], args := [d1, d2] }
  | _ => none }
def admitWiderRow : OpenClaim := { program := "ytofeifhecboinaagreat", sum := "aa2408ced2845dd86a1d9ab99438a3facab10ba75d188eddeef71f2112d2bcc0", func := "camshaft/camshaftlaw15.AdmitWider", spec := "admitWider", unfollowed := true, recurses := true, apart := false }
def AdmitWiderSaid : Prop := admitWiderRow.holds Tryz.pinned (OpenSpec.ofChange admitWiderSpec)

/-- ITS FALSE NEIGHBOUR: 'it returns false'. Refute it at one input. -/
def admitWiderWrong : ChangeSpec := { name := "admitWider", fn := fun _ => fun
  | [d1, d2] => { results := [.lit (.bool false)], args := [d1, d2] }
  | _ => none }
def AdmitWiderWrongFalsely : Prop := admitWiderRow.holds Tryz.pinned (OpenSpec.ofChange admitWiderWrong)

/-- 'camshaftlaw15.AdmitFewer': WHATEVER THE INPUT: true; the input reads as it did. -/
def admitFewerSpec : ChangeSpec := { name := "admitFewer", fn := fun _ => fun
  | [d] => { results := [.lit (.bool true)], args := [d] }
  | _ => none }
def admitFewerRow : OpenClaim := { program := "ytofeifhecboinaagreat", sum := "aa2408ced2845dd86a1d9ab99438a3facab10ba75d188eddeef71f2112d2bcc0", func := "camshaft/camshaftlaw15.AdmitFewer", spec := "admitFewer", unfollowed := true, recurses := true, apart := false }
def AdmitFewerSaid : Prop := admitFewerRow.holds Tryz.pinned (OpenSpec.ofChange admitFewerSpec)

/-- ITS FALSE NEIGHBOUR: 'it returns false'. Refute it at one input. -/
def admitFewerWrong : ChangeSpec := { name := "admitFewer", fn := fun _ => fun
  | [d] => { results := [.lit (.bool false)], args := [d] }
  | _ => none }
def AdmitFewerWrongFalsely : Prop := admitFewerRow.holds Tryz.pinned (OpenSpec.ofChange admitFewerWrong)

/-- 'camshaftlaw15.AdmitBlocks': WHATEVER THE INPUT: true; the input reads as it did. -/
def admitBlocksSpec : ChangeSpec := { name := "admitBlocks", fn := fun _ => fun
  | [d] => { results := [.lit (.bool true)], args := [d] }
  | _ => none }
def admitBlocksRow : OpenClaim := { program := "ytofeifhecboinaagreat", sum := "aa2408ced2845dd86a1d9ab99438a3facab10ba75d188eddeef71f2112d2bcc0", func := "camshaft/camshaftlaw15.AdmitBlocks", spec := "admitBlocks", unfollowed := true, recurses := true, apart := false }
def AdmitBlocksSaid : Prop := admitBlocksRow.holds Tryz.pinned (OpenSpec.ofChange admitBlocksSpec)

/-- ITS FALSE NEIGHBOUR: 'it returns false'. Refute it at one input. -/
def admitBlocksWrong : ChangeSpec := { name := "admitBlocks", fn := fun _ => fun
  | [d] => { results := [.lit (.bool false)], args := [d] }
  | _ => none }
def AdmitBlocksWrongFalsely : Prop := admitBlocksRow.holds Tryz.pinned (OpenSpec.ofChange admitBlocksWrong)

/- THE SECOND FORM. 'bulk': how many values and letters a reading holds, each counted each time it is reached (what is shared counts as often as it is met; a slice's spare places count too). A statement '..UptoSaid' is the law's where the arguments, and the package variables that the reading takes, are together of bulk at most 1048576: NARROWER than '..Said'. Prove '..Said' where nothing that the law and all that it calls make is longer than what came in: it says more and counts as full. Else prove '..UptoSaid'. A law counts once. -/
mutual
def uptoBulk {H : Type} : DataW H → Nat
  | .lit (.string bytes) => bytes.length + 1
  | .lit _ => 1
  | .nil => 1
  | .ptr d => uptoBulk d + 1
  | .slice elems spare => uptoBulkAll elems + uptoBulkAll spare + 1
  | .agg parts => uptoBulkAll parts + 1
  | .iface _ d => uptoBulk d + 1
  | .map entries => uptoBulkEntries entries + 1
  | .held _ => 1
def uptoBulkAll {H : Type} : List (DataW H) → Nat
  | [] => 0
  | d :: r => uptoBulk d + uptoBulkAll r
def uptoBulkEntries {H : Type} : List (Lit × DataW H) → Nat
  | [] => 0
  | x :: r => uptoBulkEntry x + uptoBulkEntries r
def uptoBulkEntry {H : Type} : Lit × DataW H → Nat
  | (.string bytes, d) => bytes.length + uptoBulk d + 1
  | (_, d) => uptoBulk d + 1
 end
def uptoSmall : (H : Type) → List (DataW H) → Bool := fun _ ds => decide (uptoBulkAll ds ≤ 1048576)
def OpenSpec.upto (s : _root_.Go.ChangeSpec) : _root_.Go.OpenSpec := { _root_.Go.OpenSpec.ofChange s with cond := some uptoSmall }

/-- 'camshaftlaw18.InstSteps', WHERE WHAT IT READS IS OF BULK AT MOST 1048576: true; the input reads as it did. -/
def instStepsUptoRow : OpenClaim := { program := "ytofeifhecboinaagreat", sum := "aa2408ced2845dd86a1d9ab99438a3facab10ba75d188eddeef71f2112d2bcc0", func := "camshaft/camshaftlaw18.InstSteps", spec := "instSteps", unfollowed := true, recurses := true, apart := false, narrowed := true }
def InstStepsUptoSaid : Prop := instStepsUptoRow.holds Tryz.pinned (OpenSpec.upto instStepsSpec)

/-- 'camshaftlaw18.InstUses', WHERE WHAT IT READS IS OF BULK AT MOST 1048576: true; the input reads as it did. -/
def instUsesUptoRow : OpenClaim := { program := "ytofeifhecboinaagreat", sum := "aa2408ced2845dd86a1d9ab99438a3facab10ba75d188eddeef71f2112d2bcc0", func := "camshaft/camshaftlaw18.InstUses", spec := "instUses", unfollowed := true, recurses := true, apart := false, narrowed := true }
def InstUsesUptoSaid : Prop := instUsesUptoRow.holds Tryz.pinned (OpenSpec.upto instUsesSpec)

/-- 'camshaftlaw18.InstTwice', WHERE WHAT IT READS IS OF BULK AT MOST 1048576: true; the input reads as it did. -/
def instTwiceUptoRow : OpenClaim := { program := "ytofeifhecboinaagreat", sum := "aa2408ced2845dd86a1d9ab99438a3facab10ba75d188eddeef71f2112d2bcc0", func := "camshaft/camshaftlaw18.InstTwice", spec := "instTwice", unfollowed := true, recurses := true, apart := false, narrowed := true }
def InstTwiceUptoSaid : Prop := instTwiceUptoRow.holds Tryz.pinned (OpenSpec.upto instTwiceSpec)

/-- 'camshaftlaw15.AdmitJudges', WHERE WHAT IT READS IS OF BULK AT MOST 1048576: true; the input reads as it did. -/
def admitJudgesUptoRow : OpenClaim := { program := "ytofeifhecboinaagreat", sum := "aa2408ced2845dd86a1d9ab99438a3facab10ba75d188eddeef71f2112d2bcc0", func := "camshaft/camshaftlaw15.AdmitJudges", spec := "admitJudges", unfollowed := true, recurses := true, apart := false, narrowed := true }
def AdmitJudgesUptoSaid : Prop := admitJudgesUptoRow.holds Tryz.pinned (OpenSpec.upto admitJudgesSpec)

/-- 'camshaftlaw15.AdmitLoads', WHERE WHAT IT READS IS OF BULK AT MOST 1048576: true; the input reads as it did. -/
def admitLoadsUptoRow : OpenClaim := { program := "ytofeifhecboinaagreat", sum := "aa2408ced2845dd86a1d9ab99438a3facab10ba75d188eddeef71f2112d2bcc0", func := "camshaft/camshaftlaw15.AdmitLoads", spec := "admitLoads", unfollowed := true, recurses := true, apart := false, narrowed := true }
def AdmitLoadsUptoSaid : Prop := admitLoadsUptoRow.holds Tryz.pinned (OpenSpec.upto admitLoadsSpec)

/-- 'camshaftlaw15.AdmitTimes', WHERE WHAT IT READS IS OF BULK AT MOST 1048576: true; the input reads as it did. -/
def admitTimesUptoRow : OpenClaim := { program := "ytofeifhecboinaagreat", sum := "aa2408ced2845dd86a1d9ab99438a3facab10ba75d188eddeef71f2112d2bcc0", func := "camshaft/camshaftlaw15.AdmitTimes", spec := "admitTimes", unfollowed := true, recurses := true, apart := false, narrowed := true }
def AdmitTimesUptoSaid : Prop := admitTimesUptoRow.holds Tryz.pinned (OpenSpec.upto admitTimesSpec)

/-- 'camshaftlaw15.AdmitWider', WHERE WHAT IT READS IS OF BULK AT MOST 1048576: true; the input reads as it did. -/
def admitWiderUptoRow : OpenClaim := { program := "ytofeifhecboinaagreat", sum := "aa2408ced2845dd86a1d9ab99438a3facab10ba75d188eddeef71f2112d2bcc0", func := "camshaft/camshaftlaw15.AdmitWider", spec := "admitWider", unfollowed := true, recurses := true, apart := false, narrowed := true }
def AdmitWiderUptoSaid : Prop := admitWiderUptoRow.holds Tryz.pinned (OpenSpec.upto admitWiderSpec)

/-- 'camshaftlaw15.AdmitFewer', WHERE WHAT IT READS IS OF BULK AT MOST 1048576: true; the input reads as it did. -/
def admitFewerUptoRow : OpenClaim := { program := "ytofeifhecboinaagreat", sum := "aa2408ced2845dd86a1d9ab99438a3facab10ba75d188eddeef71f2112d2bcc0", func := "camshaft/camshaftlaw15.AdmitFewer", spec := "admitFewer", unfollowed := true, recurses := true, apart := false, narrowed := true }
def AdmitFewerUptoSaid : Prop := admitFewerUptoRow.holds Tryz.pinned (OpenSpec.upto admitFewerSpec)

/-- 'camshaftlaw15.AdmitBlocks', WHERE WHAT IT READS IS OF BULK AT MOST 1048576: true; the input reads as it did. -/
def admitBlocksUptoRow : OpenClaim := { program := "ytofeifhecboinaagreat", sum := "aa2408ced2845dd86a1d9ab99438a3facab10ba75d188eddeef71f2112d2bcc0", func := "camshaft/camshaftlaw15.AdmitBlocks", spec := "admitBlocks", unfollowed := true, recurses := true, apart := false, narrowed := true }
def AdmitBlocksUptoSaid : Prop := admitBlocksUptoRow.holds Tryz.pinned (OpenSpec.upto admitBlocksSpec)

end Rows
end Go.Proofs.YtofeifhecboinaaGreat
