/- CeilAlone: for every input the call returns true, and each argument reads afterwards as it read before. No condition. -/
import Derived.Test.YtehmolbalfefjaaRows
import Derived.Test.YtehmolbalfefjaaQCeilAlone
import Derived.Test.YtehmolbalfefjaaQRows
import Derived.WalkKit
import Derived.ProofKit
import Derived.OpenShut
import Derived.ShutString
import Derived.ChangeOld
import Derived.Below
import Derived.SizedLaws
import Derived.Test.YtehmolbalfefjaaWSized
namespace Go.Proofs.Ytehmolbalfefjaa.ceilAlone
open Go.ChangeShapes Go.WideShapes Go.ChangeAt Go.RowKit
open Go.ChangeMaps (open_string shut_string)
open Go.Proofs.Ytehmolbalfefjaa.Q Go.Proofs.YtehmolbalfefjaaH
set_option linter.unusedVariables false
theorem own : ownKnob Try.prog.godebug = none := by kernel_rfl
theorem laidOut : laidOutB Try.prog = true := by kernel_rfl
set_option maxRecDepth 100000 in
theorem lifted (os : Os) (started : os.Started) (H : Type) (enc : TypeId × Value → H) :
    ReturnsInHanded {} Try.checked os 9 .any (Rows.ceilAloneSpec.pre6 enc Try.prog Try.f9 Rows.ceilAloneRow.domain false) (Rows.ceilAloneSpec.post enc Try.prog Try.f9 false true false false) := by
  refine returnsInHanded_of_change_sized (C := Try.checked) own started (by kernel_rfl) Try.func9
    (ChangeSpec.witness6 (enc := enc) (C := Try.checked) false ⟨#[], #[.agg #[.int .i64 0, .slice none 0 0, .slice none 0 0], .agg #[.int .u8 0, .int .u8 0, .int .u8 0]], []⟩ 8 (by kernel_rfl) (by kernel_rfl) (by kernel_rfl) (by kernel_rfl)) ?_
  intro W base args ds gs before hval0 hW hcnd hsz0 _
  have hval : ∀ (j : Nat) t v, Try.f9.params[j]? = some t → args[j]? = some v → Value.okWide Try.prog W .any base t v := hval0
  have hW' := hW
  obtain ⟨p, q, hA0, hV, rfl, hfz, hnd⟩ := hW
  have hA : DataW.TrodAll enc Try.prog W 0 (fun _ => true) true Try.f9.params.toList args.toList ds p := hA0
  rw [Try.params9] at hA hval
  obtain ⟨v0, vs0, d0, ds0, p0, q0, hargs, rfl, rfl, h0, r0⟩ := trodAll_cons hA
  obtain ⟨v1, vs1, d1, ds1, p1, q1, rfl, rfl, rfl, h1, r1⟩ := trodAll_cons r0
  obtain ⟨rfl, rfl, rfl⟩ := trodAll_nil r1
  obtain rfl : args = #[v0, v1] := by cases args; simp_all
  obtain ⟨rfl, rfl⟩ := trodVars_none hV
  have k0 := h0
  have lt0 : ∀ x ∈ p0, x.block < W.heap.size := by obtain ⟨m, hm⟩ := k0; exact DataW.trod_lt m _ _ _ hm
  obtain ⟨a0, hk0, ho0⟩ := op37.arg h0
  obtain ⟨cs0, rfl, _⟩ := okWide_struct Try.underlying37 (hval 0 37 v0 rfl rfl)
  obtain ⟨A0_1, c0_1, A0_2, c0_2, e0, hc0_1, hr0_1, hc0_2, hr0_2⟩ := k37_open hk0
  obtain rfl : cs0 = #[.int .i64 a0.f0, .slice A0_1 a0.f1.length c0_1, .slice A0_2 a0.f2.length c0_2] := Array.ext' (show cs0.toList = _ from e0)
  have k1 := h1
  have lt1 : ∀ x ∈ p1, x.block < W.heap.size := by obtain ⟨m, hm⟩ := k1; exact DataW.trod_lt m _ _ _ hm
  obtain ⟨l1, hk1, ho1⟩ := op39.arg h1
  obtain ⟨cs1, rfl, _⟩ := okWide_array Try.underlying39 (hval 1 39 v1 rfl rfl)
  have e1 : cs1.toList = (l1).map (Value.int .u8) := arr_ints hk1
  obtain ⟨x1_0, x1_1, x1_2, rfl⟩ := list_len3 hk1.1
  obtain rfl : cs1 = #[.int .u8 x1_0, .int .u8 x1_1, .int .u8 x1_2] := by cases cs1; simpa using e1
  refine (camshaftlaw13_CeilAlone_walk (a0.f0) _ _ (a0.f1) _ _ (a0.f2) x1_0 x1_1 x1_2 W hr0_1 hc0_1 hr0_2 hc0_2 ho0 ho1).mono fun e W' hE => ?_
  obtain ⟨he, bel⟩ := hE
  subst he
  exact ⟨_, rfl, _, _, _, [], _, [], hW', trodAll_mk1 (shut_bool Try.underlying4 _), ⟨_, _, (Below.trod laidOut (by kernel_rfl) (of_decide_eq_true (by kernel_rfl)) k0 bel lt0), ⟨_, _, (Below.trod laidOut (by kernel_rfl) (of_decide_eq_true (by kernel_rfl)) k1 bel lt1), rfl, rfl⟩, rfl⟩, rfl, bel.frame _, fun h => by cases h⟩
theorem over : Rows.ceilAloneRow.holds Try.pinned (OpenSpec.ofChange Rows.ceilAloneSpec) :=
  OpenClaim.holds_of_wide 9 Try.f9 rfl rfl rfl rfl rfl rfl rfl ⟨rfl, rfl, rfl, rfl, rfl⟩ rfl rfl rfl rfl rfl (by kernel_rfl) Try.func9 (by kernel_rfl)
    (of_decide_eq_true (by kernel_rfl)) (by unfold Func.isWrapper; first | (rw [if_pos (by decide +kernel)]; kernel_rfl) | (rw [if_neg (by decide +kernel)]; exact ⟨rfl, rfl⟩))
    (fun os started H enc _ => lifted os started H enc)
theorem proved : Rows.CeilAloneSaid := over
#print axioms proved
end Go.Proofs.Ytehmolbalfefjaa.ceilAlone
namespace Go.Proofs.Ytehmolbalfefjaa
/-- The row, under a short name, for the claim. -/
theorem ceilAlone_holds : Rows.CeilAloneSaid := ceilAlone.proved
end Go.Proofs.Ytehmolbalfefjaa
