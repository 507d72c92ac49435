/- What opens each parameter's type: whatever reads as data is a value of the kind. -/
import Derived.Test.YtehmolbalfefjaaQx0
import Derived.Test.YtehmolbalfefjaaHArr
namespace Go.Proofs.Ytehmolbalfefjaa.Q
open Go.RowKit Go.Proofs.YtehmolbalfefjaaW.PrintWords Go.Proofs.YtehmolbalfefjaaW.PrintLast Go.Proofs.YtehmolbalfefjaaW.PrintMore Go.Proofs.YtehmolbalfefjaaH
def ok3 (n : Int) : Prop := (Lit.int .i64 n).wf = true
theorem op3 : Opens Try.prog 3 (Kd.int .i64) ok3 := Opens.int Try.underlying3 (by kernel_rfl)
def ok30 (l : List Int) : Prop := l.length ≤ maxLen ∧ ∀ x, x ∈ l → ok3 x
theorem op30 : Opens Try.prog 30 (Kd.slice 3 (Kd.int .i64)) ok30 := Opens.slice Try.underlying30 (by kernel_rfl) op3
instance : Inhabited S37 := ⟨z37⟩
def ok37 (x : S37) : Prop := ok3 x.f0 ∧ ok30 x.f1 ∧ ok30 x.f2
theorem op37 : Opens Try.prog 37 k37 ok37 := Opens.struct Try.underlying37 (by kernel_rfl) (OpensF.cons rfl op3 (OpensF.cons rfl op30 (OpensF.one rfl op30))) (fun x : S37 => (x.f0, x.f1, x.f2)) (fun a => ⟨a.1, a.2.1, a.2.2⟩) (fun _ => rfl)
def ok22 (l : List S37) : Prop := l.length ≤ maxLen ∧ ∀ x, x ∈ l → ok37 x
theorem op22 : Opens Try.prog 22 (Kd.slice 37 k37) ok22 := Opens.slice Try.underlying22 (by kernel_rfl) op37
def ok33 (l : List Int) : Prop := ∀ x, x ∈ l → ok3 x
theorem op33 : Opens Try.prog 33 (Kd.arr 3 (Kd.int .i64) (by decide)) ok33 := Opens.array Try.underlying33 (by kernel_rfl) (by decide) op3
def ok5 (n : Int) : Prop := (Lit.int .u8 n).wf = true
theorem op5 : Opens Try.prog 5 (Kd.int .u8) ok5 := Opens.int Try.underlying5 (by kernel_rfl)
def ok39 (l : List Int) : Prop := ∀ x, x ∈ l → ok5 x
theorem op39 : Opens Try.prog 39 (Kd.arr 3 (Kd.int .u8) (by decide)) ok39 := Opens.array Try.underlying39 (by kernel_rfl) (by decide) op5
end Go.Proofs.Ytehmolbalfefjaa.Q
