/- CeilLifts: the walk of the statement. -/
import Derived.Test.YtehmolbalfefjaaQCeilCalls
import Derived.Test.YtehmolbalfefjaaQRows
namespace Go.Proofs.Ytehmolbalfefjaa.Q
open Go.RowKit Go.Proofs.YtehmolbalfefjaaW.PrintWords Go.Proofs.YtehmolbalfefjaaW.PrintLast Go.Proofs.YtehmolbalfefjaaW.PrintMore Go.Proofs.YtehmolbalfefjaaH
attribute [local go_sem] max2_int min2_int max_two min_two max_three min_three max_four min_four
set_option linter.unusedVariables false
set_option maxHeartbeats 4000000 in
set_option maxRecDepth 100000 in
theorem camshaftlaw13_CeilLifts_walk (x0 x1 x2 : Int) (A : Option Addr) (cap : Nat) (c : List Int) (w : World) (hr : Kd.C (Kd.int .i64) w A c.length c) (hc : c.length ≤ cap) (hx : ok33 [x0, x1, x2]) (_ : ok30 c) :
    Calls Try.prog 4 #[.agg #[.int .i64 x0, .int .i64 x1, .int .i64 x2], .slice A c.length cap] w fun e w' => e = .returned (.bool true) ∧ Below w.heap.size w w' := by
  have hu33 := Try.underlying33
  obtain ⟨hb0, hb1⟩ := wf_i64 (hx x1 (by simp))
  have HR := Aside0.mk hr
  have HC := Aside0.mk hc
  clear hr hc
  by_cases hm : c.length > 100
  · have d1 : decide (100 < (c.length : Int)) = true := decide_eq_true (by omega)
    have d2 : decide (100 < c.length) = true := decide_eq_true hm
    go_enter Try.func4, Try.ntmps4
    go_wp2_with (go_at_call 16; refine (known_calls _).mono ?_; rintro e w1 ⟨rfl, hb1⟩; have HB1 := Aside0.mk hb1; clear hb1)
    go_ret
    exact ⟨rfl, (below_alloc (Below.refl _ _) _).trans (HB1.out.mono (by simp))⟩
  · have d1 : decide (100 < (c.length : Int)) = false := decide_eq_false (by omega)
    have d2 : decide (100 < c.length) = false := decide_eq_false hm
    go_enter Try.func4, Try.ntmps4
    go_wp2_with fail
    refine (active_calls _ _ _ _ _ _ (Kd.C_alloc HR.out _) HC.out (by omega)).mono ?_
    rintro e w1 ⟨rfl, hb1⟩
    have HB1 : Aside0 (Below w.heap.size w w1) := ⟨(below_alloc (Below.refl _ _) _).trans (hb1.mono (by simp))⟩
    clear hb1
    generalize hn : actFrom x1 0 c x0 = n at *
    have HN := Aside0.mk hn
    clear hn
    have hnx : x0 ≤ n := by rw [← HN.out]; exact actFrom_ge _ _ _ _
    go_wp2_with fail
    have HF : Aside0 (∀ W, Below w.heap.size w W → Calls Try.prog 25 #[.int .i64 x0, .int .i64 (Go.bits .or .i64 x1 x2), .slice A c.length cap] W fun e w' => e = .returned (.int .i64 (actFrom (Go.bits .or .i64 x1 x2) 0 c x0)) ∧ Below W.heap.size W w') := ⟨fun W hW => active_calls _ _ _ _ _ _ (Kd.C_below HR.out hW) HC.out (by omega)⟩
    have HM : Aside0 (n ≤ actFrom (Go.bits .or .i64 x1 x2) 0 c x0 ∧ actFrom (Go.bits .or .i64 x1 x2) 0 c x0 ≤ mostOf x0 c) := ⟨by rw [← HN.out]; exact actFrom_mono _ _ _ _ _ _ (by omega) (fun j hj h => bitOn_or x1 x2 j hj h) (Int.le_refl _), actFrom_most _ _ _ _ _ (Int.le_refl _)⟩
    generalize Go.bits .or .i64 x1 x2 = held at *
    generalize actFrom held 0 c x0 = m at *
    refine (HF.out _ HB1.out).mono ?_
    rintro e w2 ⟨rfl, hb2⟩
    have HB2 : Aside0 (Below w.heap.size w w2) := ⟨below_then HB1.out HB1.out.size hb2⟩
    have hnm := HM.out.1
    clear hb2 HB1 HF
    go_wp2
    go_loopg [10, 11] c.length (fun q v10 v11 W => ∃ (i y : Int), v10 = .int .i64 y ∧ v11 = .int .i64 i ∧ Aside0 (0 ≤ i ∧ i + q = c.length) ∧ Aside0 (y = mostOf x0 (c.take i.toNat)) ∧ Aside0 (W = w2))
    case atStart => exact ⟨0, x0, rfl, rfl, ⟨by omega⟩, ⟨by simp [mostOf]⟩, ⟨rfl⟩⟩
    case round =>
      obtain ⟨i, y, rfl, rfl, HQ, HY, HW⟩ := hrel
      have hw2 := HW.out
      subst hw2
      obtain ⟨h0, hq0⟩ := HQ.out
      cases gk with
      | zero =>
        have hd : decide ((i : Int) < (c.length : Int)) = false := decide_eq_false (by omega)
        have HY2 : Aside0 (y = mostOf x0 c) := ⟨by have := HY.out; rwa [List.take_of_length_le (by omega)] at this⟩
        have hmy : m ≤ y := by rw [HY2.out]; exact HM.out.2
        clear hq0
        go_wp2_with fail
        refine (ractive_calls _ _ _ _ _ _ (Kd.C_below HR.out HB2.out) HC.out (by omega) hb0 hb1).mono ?_
        rintro e w3 ⟨rfl, hb3⟩
        rw [HN.out]
        have HB3 : Aside0 (Below w.heap.size w w3) := ⟨below_then HB2.out HB2.out.size hb3⟩
        clear hb3
        go_wp2_with fail
        refine (active_calls _ _ _ _ _ _ (Kd.C_below HR.out HB3.out) HC.out (by omega)).mono ?_
        rintro e w4 ⟨rfl, hb4⟩
        rw [actFrom_zero c 0 x0 (by omega)]
        have HB4 : Aside0 (Below w.heap.size w w4) := ⟨below_then HB3.out HB3.out.size hb4⟩
        clear hb4
        go_wp2_with (go_at_call 16; refine (known_calls _).mono ?_; rintro e w5 ⟨rfl, hb5⟩; have HB5 : Aside0 (Below w.heap.size w w5) := ⟨below_then HB4.out HB4.out.size hb5⟩; clear hb5)
        go_ret
        exact ⟨by simp, HB5.out⟩
      | succ q =>
        have hlt : i < c.length := by omega
        have hd : decide ((i : Int) < (c.length : Int)) = true := decide_eq_true (by omega)
        obtain ⟨ad, rfl, hy1⟩ := Kd.at_int HR.out i h0 hlt
        replace hy1 := (HB2.out.cell (World.block_lt_of_cell? w _ hy1)).trans hy1
        have hi : i < 101 := by omega
        have HQ2 : Aside0 (i + 1 + q = c.length) := ⟨by omega⟩
        have HY2 : Aside0 (mx y (rd c i) = mostOf x0 (c.take (i + 1).toNat)) := ⟨by rw [take_rd c i h0 hlt, HY.out]; simp [mostOf]⟩
        clear hq0 HQ
        go_wp2
        all_goals go_roundg q
        all_goals first | (case measure => omega) | skip
        all_goals exact ⟨i + 1, mx y (rd c i), by first | rfl | (unfold mx; split <;> first | rfl | (exfalso; omega) | (congr 1; omega)), by first | rfl | simp, ⟨by have := HQ2.out; omega⟩, HY2, ⟨rfl⟩⟩
end Go.Proofs.Ytehmolbalfefjaa.Q
