/- Layer 13: contracts out of what comes in the end. -/
import Derived.Test.YtehmolbalfefjaaQCeil3
namespace Go.Proofs.Ytehmolbalfefjaa.Q
open Go.RowKit Go.Proofs.YtehmolbalfefjaaW.PrintWords Go.Proofs.YtehmolbalfefjaaW.PrintLast Go.Proofs.YtehmolbalfefjaaW.PrintMore Go.Proofs.YtehmolbalfefjaaH
attribute [local go_sem] max2_int min2_int max_two min_two max_three min_three max_four min_four
set_option linter.unusedVariables false
theorem known_calls (w : World) : Calls Try.prog 16 #[] w fun e w' => e = .returned (.bool true) ∧ Below w.heap.size w w' := by
  obtain ⟨K, h⟩ := known_ev
  exact camshaftlaw13_known.calls K true w (h K (Nat.le_refl _))
/-- A contract out of what comes in the end. -/
theorem active_calls (prio held : Int) (A : Option Addr) (cap : Nat) (c : List Int) (w : World) (hr : Kd.C (Kd.int .i64) w A c.length c) (hc : c.length ≤ cap) (hm : c.length ≤ 1000) : Calls Try.prog 25 #[.int .i64 prio, .int .i64 held, .slice A c.length cap] w fun e w' => e = .returned (.int .i64 (actFrom held 0 c prio)) ∧ Below w.heap.size w w' := by
  obtain ⟨K, h⟩ := active_ev prio held c hm
  exact ceil_Active.calls K prio held A cap c _ w hr hc (h K (Nat.le_refl _))
theorem ractive_calls (prio held : Int) (A : Option Addr) (cap : Nat) (c : List Int) (w : World) (hr : Kd.C (Kd.int .i64) w A c.length c) (hc : c.length ≤ cap) (hm : c.length ≤ 1000) (h0 : -9223372036854775808 ≤ held) (h1 : held < 9223372036854775808) : Calls Try.prog 26 #[.int .i64 prio, .int .i64 held, .slice A c.length cap] w fun e w' => e = .returned (.int .i64 (actFrom held 0 c prio)) ∧ Below w.heap.size w w' := by
  obtain ⟨K, h⟩ := ractive_ev prio held c hm h0 h1
  exact camshaftref13_Active.calls K prio held A cap c _ w hr hc (h K (Nat.le_refl _))
theorem take_rd (xs : List Int) (i : Int) (h0 : 0 ≤ i) (h1 : i < xs.length) : xs.take (i + 1).toNat = xs.take i.toNat ++ [rd xs i] := by
  have h : i.toNat < xs.length := by omega
  rw [show (i + 1).toNat = i.toNat + 1 from by omega, List.take_succ_eq_append_getElem h]
  simp [rd, List.getD_eq_getElem?_getD, List.getElem?_eq_getElem h]
end Go.Proofs.Ytehmolbalfefjaa.Q
