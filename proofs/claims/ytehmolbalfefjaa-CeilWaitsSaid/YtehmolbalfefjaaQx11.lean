-- by myprint.py (NOTES.md): the machine side, out of Lean's own print of the program
import Derived.Test.YtehmolbalfefjaaQx0
import Derived.Test.YtehmolbalfefjaaQx1
import Derived.Test.YtehmolbalfefjaaQx4
import Derived.Test.YtehmolbalfefjaaQx6
namespace Go.Proofs.Ytehmolbalfefjaa.Q
open Go.RowKit Go.Proofs.YtehmolbalfefjaaW.PrintWords Go.Proofs.YtehmolbalfefjaaW.PrintLast Go.Proofs.YtehmolbalfefjaaW.PrintMore
attribute [local go_sem] max2_int min2_int max_two min_two max_three min_three max_four min_four   -- for this text's walks alone
set_option linter.unusedVariables false
set_option linter.unusedSimpArgs false

/-! ### camshaftlaw13_CeilAbove: function 5 -/
mutual
def camshaftlaw13_CeilAbove.j0 : Nat → Int → List (S37) → Bool → Option (Bool)
  | 0, _, _, _ => none
  | k + 1, x0, x1, x20 => if x20 = true then ((camshaftlaw13_known.f k).bind fun t221 => (some t221)) else ((ceil_Ceilings.f k x0 x1).bind fun t222 => (if (t222.length : Int) = x0 then (camshaftlaw13_CeilAbove.l0 k x1 t222 0) else (some false)))
def camshaftlaw13_CeilAbove.l0 : Nat → List (S37) → List Int → Int → Option (Bool)
  | 0, _, _, _ => none
  | k + 1, x1, x5, x6 => if x6 < (x1.length : Int) then (camshaftlaw13_CeilAbove.l1 k x1 x5 x6 0) else ((camshaftlaw13_known.f k).bind fun t225 => (some t225))
def camshaftlaw13_CeilAbove.l1 : Nat → List (S37) → List Int → Int → Int → Option (Bool)
  | 0, _, _, _, _ => none
  | k + 1, x1, x5, x6, x7 => if 0 ≤ x6 then (if x6 < (x1.length : Int) then (if x7 < (((rd_T37 x1 x6).f1).length : Int) then (if 0 ≤ x7 then (if 0 ≤ (rd ((rd_T37 x1 x6).f1) x7) then ((ceil_Active.f k ((rd_T37 x1 x6).f0) (shl .i64 1 (rd ((rd_T37 x1 x6).f1) x7)) x5).bind fun t230 => (camshaftlaw13_CeilAbove.l2 k x1 x5 x6 x7 (rd ((rd_T37 x1 x6).f1) x7) t230 0)) else (none)) else (none)) else (camshaftlaw13_CeilAbove.l0 k x1 x5 (wrap64 (x6 + 1)))) else (none)) else (none)
def camshaftlaw13_CeilAbove.l2 : Nat → List (S37) → List Int → Int → Int → Int → Int → Int → Option (Bool)
  | 0, _, _, _, _, _, _, _ => none
  | k + 1, x1, x5, x6, x7, x8, x9, x10 => if x10 < (x1.length : Int) then (camshaftlaw13_CeilAbove.l3 k x1 x5 x6 x7 x8 x9 x10 0) else (camshaftlaw13_CeilAbove.l1 k x1 x5 x6 (wrap64 (x7 + 1)))
def camshaftlaw13_CeilAbove.l3 : Nat → List (S37) → List Int → Int → Int → Int → Int → Int → Int → Option (Bool)
  | 0, _, _, _, _, _, _, _, _ => none
  | k + 1, x1, x5, x6, x7, x8, x9, x10, x11 => if 0 ≤ x10 then (if x10 < (x1.length : Int) then (if x11 < (((rd_T37 x1 x10).f1).length : Int) then (if 0 ≤ x11 then (if (rd ((rd_T37 x1 x10).f1) x11) = x8 then (if ((rd_T37 x1 x10).f0) > x9 then (some false) else (camshaftlaw13_CeilAbove.l3 k x1 x5 x6 x7 x8 x9 x10 (wrap64 (x11 + 1)))) else (camshaftlaw13_CeilAbove.l3 k x1 x5 x6 x7 x8 x9 x10 (wrap64 (x11 + 1)))) else (none)) else (camshaftlaw13_CeilAbove.l2 k x1 x5 x6 x7 x8 x9 (wrap64 (x10 + 1)))) else (none)) else (none)
end
def camshaftlaw13_CeilAbove.f (k : Nat) (a0 : Int) (l1 : List (S37)) : Option (Bool) := (camshaftlaw13_light.f k l1).bind fun t219 => (if t219 = true then ((ceil_Right.f k a0 l1).bind fun t220 => (camshaftlaw13_CeilAbove.j0 k a0 l1 (!t220))) else (camshaftlaw13_CeilAbove.j0 k a0 l1 true))
theorem camshaftlaw13_CeilAbove.mono_l : ∀ k, (∀ y0 y1 y2, LeO (camshaftlaw13_CeilAbove.j0 k y0 y1 y2) (camshaftlaw13_CeilAbove.j0 (k + 1) y0 y1 y2)) ∧ (∀ y0 y1 y2, LeO (camshaftlaw13_CeilAbove.l0 k y0 y1 y2) (camshaftlaw13_CeilAbove.l0 (k + 1) y0 y1 y2)) ∧ (∀ y0 y1 y2 y3, LeO (camshaftlaw13_CeilAbove.l1 k y0 y1 y2 y3) (camshaftlaw13_CeilAbove.l1 (k + 1) y0 y1 y2 y3)) ∧ (∀ y0 y1 y2 y3 y4 y5 y6, LeO (camshaftlaw13_CeilAbove.l2 k y0 y1 y2 y3 y4 y5 y6) (camshaftlaw13_CeilAbove.l2 (k + 1) y0 y1 y2 y3 y4 y5 y6)) ∧ (∀ y0 y1 y2 y3 y4 y5 y6 y7, LeO (camshaftlaw13_CeilAbove.l3 k y0 y1 y2 y3 y4 y5 y6 y7) (camshaftlaw13_CeilAbove.l3 (k + 1) y0 y1 y2 y3 y4 y5 y6 y7))
  | 0 => ⟨fun _ _ _ r h => by simp [camshaftlaw13_CeilAbove.j0] at h, fun _ _ _ r h => by simp [camshaftlaw13_CeilAbove.l0] at h, fun _ _ _ _ r h => by simp [camshaftlaw13_CeilAbove.l1] at h, fun _ _ _ _ _ _ _ r h => by simp [camshaftlaw13_CeilAbove.l2] at h, fun _ _ _ _ _ _ _ _ r h => by simp [camshaftlaw13_CeilAbove.l3] at h⟩
  | k + 1 => by
    obtain ⟨ih0, ih1, ih2, ih3, ih4⟩ := camshaftlaw13_CeilAbove.mono_l k
    refine ⟨?_, ?_, ?_, ?_, ?_⟩
    · intro y0 y1 y2
      unfold camshaftlaw13_CeilAbove.j0
      repeat' first
      | (with_reducible exact ih0 _ _ _)
      | (with_reducible exact ih1 _ _ _)
      | (with_reducible exact ih2 _ _ _ _)
      | (with_reducible exact ih3 _ _ _ _ _ _ _)
      | (with_reducible exact ih4 _ _ _ _ _ _ _ _)
      | (with_reducible exact camshaftlaw13_known.mono _)
      | (with_reducible exact camshaftlaw13_light.mono _ _)
      | (with_reducible exact ceil_Active.mono _ _ _ _)
      | (with_reducible exact ceil_Ceilings.mono _ _ _)
      | (with_reducible exact ceil_Right.mono _ _ _)
      | (with_reducible exact LeO.refl _)
      | (with_reducible exact LeO.none _)
      | (with_reducible refine LeO.ite ?_ ?_)
      | (with_reducible refine LeO.bind ?_ (fun _ => ?_))
      | exact ih0 _ _ _
      | exact ih1 _ _ _
      | exact ih2 _ _ _ _
      | exact ih3 _ _ _ _ _ _ _
      | exact ih4 _ _ _ _ _ _ _ _
      | exact camshaftlaw13_known.mono _
      | exact camshaftlaw13_light.mono _ _
      | exact ceil_Active.mono _ _ _ _
      | exact ceil_Ceilings.mono _ _ _
      | exact ceil_Right.mono _ _ _
      | exact LeO.none _
      | refine LeO.ite ?_ ?_
      | refine LeO.bind ?_ (fun _ => ?_)
    · intro y0 y1 y2
      unfold camshaftlaw13_CeilAbove.l0
      repeat' first
      | (with_reducible exact ih0 _ _ _)
      | (with_reducible exact ih1 _ _ _)
      | (with_reducible exact ih2 _ _ _ _)
      | (with_reducible exact ih3 _ _ _ _ _ _ _)
      | (with_reducible exact ih4 _ _ _ _ _ _ _ _)
      | (with_reducible exact camshaftlaw13_known.mono _)
      | (with_reducible exact camshaftlaw13_light.mono _ _)
      | (with_reducible exact ceil_Active.mono _ _ _ _)
      | (with_reducible exact ceil_Ceilings.mono _ _ _)
      | (with_reducible exact ceil_Right.mono _ _ _)
      | (with_reducible exact LeO.refl _)
      | (with_reducible exact LeO.none _)
      | (with_reducible refine LeO.ite ?_ ?_)
      | (with_reducible refine LeO.bind ?_ (fun _ => ?_))
      | exact ih0 _ _ _
      | exact ih1 _ _ _
      | exact ih2 _ _ _ _
      | exact ih3 _ _ _ _ _ _ _
      | exact ih4 _ _ _ _ _ _ _ _
      | exact camshaftlaw13_known.mono _
      | exact camshaftlaw13_light.mono _ _
      | exact ceil_Active.mono _ _ _ _
      | exact ceil_Ceilings.mono _ _ _
      | exact ceil_Right.mono _ _ _
      | exact LeO.none _
      | refine LeO.ite ?_ ?_
      | refine LeO.bind ?_ (fun _ => ?_)
    · intro y0 y1 y2 y3
      unfold camshaftlaw13_CeilAbove.l1
      repeat' first
      | (with_reducible exact ih0 _ _ _)
      | (with_reducible exact ih1 _ _ _)
      | (with_reducible exact ih2 _ _ _ _)
      | (with_reducible exact ih3 _ _ _ _ _ _ _)
      | (with_reducible exact ih4 _ _ _ _ _ _ _ _)
      | (with_reducible exact camshaftlaw13_known.mono _)
      | (with_reducible exact camshaftlaw13_light.mono _ _)
      | (with_reducible exact ceil_Active.mono _ _ _ _)
      | (with_reducible exact ceil_Ceilings.mono _ _ _)
      | (with_reducible exact ceil_Right.mono _ _ _)
      | (with_reducible exact LeO.refl _)
      | (with_reducible exact LeO.none _)
      | (with_reducible refine LeO.ite ?_ ?_)
      | (with_reducible refine LeO.bind ?_ (fun _ => ?_))
      | exact ih0 _ _ _
      | exact ih1 _ _ _
      | exact ih2 _ _ _ _
      | exact ih3 _ _ _ _ _ _ _
      | exact ih4 _ _ _ _ _ _ _ _
      | exact camshaftlaw13_known.mono _
      | exact camshaftlaw13_light.mono _ _
      | exact ceil_Active.mono _ _ _ _
      | exact ceil_Ceilings.mono _ _ _
      | exact ceil_Right.mono _ _ _
      | exact LeO.none _
      | refine LeO.ite ?_ ?_
      | refine LeO.bind ?_ (fun _ => ?_)
    · intro y0 y1 y2 y3 y4 y5 y6
      unfold camshaftlaw13_CeilAbove.l2
      repeat' first
      | (with_reducible exact ih0 _ _ _)
      | (with_reducible exact ih1 _ _ _)
      | (with_reducible exact ih2 _ _ _ _)
      | (with_reducible exact ih3 _ _ _ _ _ _ _)
      | (with_reducible exact ih4 _ _ _ _ _ _ _ _)
      | (with_reducible exact camshaftlaw13_known.mono _)
      | (with_reducible exact camshaftlaw13_light.mono _ _)
      | (with_reducible exact ceil_Active.mono _ _ _ _)
      | (with_reducible exact ceil_Ceilings.mono _ _ _)
      | (with_reducible exact ceil_Right.mono _ _ _)
      | (with_reducible exact LeO.refl _)
      | (with_reducible exact LeO.none _)
      | (with_reducible refine LeO.ite ?_ ?_)
      | (with_reducible refine LeO.bind ?_ (fun _ => ?_))
      | exact ih0 _ _ _
      | exact ih1 _ _ _
      | exact ih2 _ _ _ _
      | exact ih3 _ _ _ _ _ _ _
      | exact ih4 _ _ _ _ _ _ _ _
      | exact camshaftlaw13_known.mono _
      | exact camshaftlaw13_light.mono _ _
      | exact ceil_Active.mono _ _ _ _
      | exact ceil_Ceilings.mono _ _ _
      | exact ceil_Right.mono _ _ _
      | exact LeO.none _
      | refine LeO.ite ?_ ?_
      | refine LeO.bind ?_ (fun _ => ?_)
    · intro y0 y1 y2 y3 y4 y5 y6 y7
      unfold camshaftlaw13_CeilAbove.l3
      repeat' first
      | (with_reducible exact ih0 _ _ _)
      | (with_reducible exact ih1 _ _ _)
      | (with_reducible exact ih2 _ _ _ _)
      | (with_reducible exact ih3 _ _ _ _ _ _ _)
      | (with_reducible exact ih4 _ _ _ _ _ _ _ _)
      | (with_reducible exact camshaftlaw13_known.mono _)
      | (with_reducible exact camshaftlaw13_light.mono _ _)
      | (with_reducible exact ceil_Active.mono _ _ _ _)
      | (with_reducible exact ceil_Ceilings.mono _ _ _)
      | (with_reducible exact ceil_Right.mono _ _ _)
      | (with_reducible exact LeO.refl _)
      | (with_reducible exact LeO.none _)
      | (with_reducible refine LeO.ite ?_ ?_)
      | (with_reducible refine LeO.bind ?_ (fun _ => ?_))
      | exact ih0 _ _ _
      | exact ih1 _ _ _
      | exact ih2 _ _ _ _
      | exact ih3 _ _ _ _ _ _ _
      | exact ih4 _ _ _ _ _ _ _ _
      | exact camshaftlaw13_known.mono _
      | exact camshaftlaw13_light.mono _ _
      | exact ceil_Active.mono _ _ _ _
      | exact ceil_Ceilings.mono _ _ _
      | exact ceil_Right.mono _ _ _
      | exact LeO.none _
      | refine LeO.ite ?_ ?_
      | refine LeO.bind ?_ (fun _ => ?_)
theorem camshaftlaw13_CeilAbove.mono : ∀ a0 a1 k, LeO (camshaftlaw13_CeilAbove.f k a0 a1) (camshaftlaw13_CeilAbove.f (k + 1) a0 a1) := by
  intro a0 a1 k
  obtain ⟨ih0, ih1, ih2, ih3, ih4⟩ := camshaftlaw13_CeilAbove.mono_l k
  unfold camshaftlaw13_CeilAbove.f
  repeat' first
      | (with_reducible exact ih0 _ _ _)
      | (with_reducible exact ih1 _ _ _)
      | (with_reducible exact ih2 _ _ _ _)
      | (with_reducible exact ih3 _ _ _ _ _ _ _)
      | (with_reducible exact ih4 _ _ _ _ _ _ _ _)
      | (with_reducible exact camshaftlaw13_known.mono _)
      | (with_reducible exact camshaftlaw13_light.mono _ _)
      | (with_reducible exact ceil_Active.mono _ _ _ _)
      | (with_reducible exact ceil_Ceilings.mono _ _ _)
      | (with_reducible exact ceil_Right.mono _ _ _)
      | (with_reducible exact LeO.refl _)
      | (with_reducible exact LeO.none _)
      | (with_reducible refine LeO.ite ?_ ?_)
      | (with_reducible refine LeO.bind ?_ (fun _ => ?_))
      | exact ih0 _ _ _
      | exact ih1 _ _ _
      | exact ih2 _ _ _ _
      | exact ih3 _ _ _ _ _ _ _
      | exact ih4 _ _ _ _ _ _ _ _
      | exact camshaftlaw13_known.mono _
      | exact camshaftlaw13_light.mono _ _
      | exact ceil_Active.mono _ _ _ _
      | exact ceil_Ceilings.mono _ _ _
      | exact ceil_Right.mono _ _ _
      | exact LeO.none _
      | refine LeO.ite ?_ ?_
      | refine LeO.bind ?_ (fun _ => ?_)
def camshaftlaw13_CeilAbove.T13 : Bool × List (List Nat × List Nat) := (true, [([], []), ([], []), ([0, 1], [0, 1]), ([2], [2]), ([3], [3]), ([], []), ([5], [5]), ([], []), ([4, 6, 7], [4, 6, 7]), ([8, 8, 0, 1, 2, 3, 4, 5, 6, 7, 8], [8])])
def camshaftlaw13_CeilAbove.B13 : List Nat := [0, 0, 3, 7, 15, 0, 32, 0, 255, 511]
theorem camshaftlaw13_CeilAbove.tab13 : rtab .any (opsOf Try.f5 13) = camshaftlaw13_CeilAbove.T13 := by kernel_rfl
theorem camshaftlaw13_CeilAbove.bits13 : waitsOk camshaftlaw13_CeilAbove.T13.2 camshaftlaw13_CeilAbove.B13 = true := by kernel_rfl
set_option maxHeartbeats 8000000 in
set_option maxRecDepth 100000 in
theorem camshaftlaw13_CeilAbove.calls (k : Nat) (a0 : Int) (A1 : Option Addr) (c1 : Nat) (l1 : List (S37)) (r : Bool) (w : World) (hr1 : Kd.C k37 w A1 l1.length l1) (hc1 : l1.length ≤ c1) (h : camshaftlaw13_CeilAbove.f k a0 l1 = some r) :
    Calls Try.prog 5 #[.int .i64 a0, .slice A1 l1.length c1] w fun e w' => e = .returned (.bool r) ∧ Below w.heap.size w w' := by
  have HR1 := Aside0.mk hr1
  have HC1 := Aside0.mk hc1
  clear hr1 hc1
  have HB := Aside0.mk (Below.refl w.heap.size w)
  have H : ((camshaftlaw13_light.f k l1).bind fun t219 => (if t219 = true then ((ceil_Right.f k a0 l1).bind fun t220 => (camshaftlaw13_CeilAbove.j0 k a0 l1 (!t220))) else (camshaftlaw13_CeilAbove.j0 k a0 l1 true))) = some r := h
  clear h
  have HC3 := Aside0.mk H
  clear H
  go_enter Try.func5, Try.ntmps5
  go_upto_region 1 with (fail)
  go_cut [20] (fun v20 wc => ∃ (kq : Nat) (x20_2 : Bool), v20 = .bool x20_2 ∧ Aside0 (camshaftlaw13_CeilAbove.j0 kq a0 l1 x20_2 = some r) ∧ Aside0 (kq ≤ k) ∧ Aside0 (Below w.heap.size w wc))
  case first =>
    have H := HC3.out
    clear HC3
    replace H := Option.bind_eq_some_iff.mp H
    obtain ⟨t219, A40, H⟩ := H
    replace H : (if t219 = true then ((ceil_Right.f k a0 l1).bind fun t220 => (camshaftlaw13_CeilAbove.j0 k a0 l1 (!t220))) else (camshaftlaw13_CeilAbove.j0 k a0 l1 true)) = some r := H
    have A4 := Aside0.mk A40
    clear A40
    by_cases c5 : t219 = true
    · subst c5
      have H1 : ((ceil_Right.f k a0 l1).bind fun t220 => (camshaftlaw13_CeilAbove.j0 k a0 l1 (!t220))) = some r := by rw [if_pos rfl] at H; exact H
      clear H
      have H := H1
      clear H1
      replace H := Option.bind_eq_some_iff.mp H
      obtain ⟨t220, A60, H⟩ := H
      replace H : (camshaftlaw13_CeilAbove.j0 k a0 l1 (!t220)) = some r := H
      have A6 := Aside0.mk A60
      clear A60
      have H' := Aside0.mk H
      clear H
      go_wp2_with (first | ((with_reducible refine gate_callee (f := 15) rfl ?_); refine goesL_ (some 13) rfl rfl Try.func15 (by kernel_rfl) rfl #[.slice A1 l1.length c1] rfl (by (try simp only [List.map_toArray, List.map_cons, List.map_nil]); first | done | rfl | (simp only [List.length_drop, List.length_take]; rfl)) ?_; (with_reducible refine (camshaftlaw13_light.calls k _ _ l1 true _ ?side1 ?side2 A4.out).mono ?_); (case side1 => repeat (first | exact (Kd.C_below HR1.out HB.out) | (with_reducible refine Kd.C_alloc ?_ _) | (with_reducible refine Kd.C_drewN ?_ _) | (with_reducible refine Kd.C_drew ?_))); (case side2 => exact HC1.out); rintro e w' ⟨rfl, ⟨nd, rfl⟩⟩; refine ⟨_, rfl, ?_⟩) | (go_at_call 17; (with_reducible refine (ceil_Right.calls k a0 _ _ l1 t220 _ ?side1 ?side2 A6.out).mono ?_); (case side1 => repeat (first | exact (Kd.C_below HR1.out (by repeat (first | (with_reducible first | exact HB.out | apply below_alloc | apply pw_below_drewN | apply below_drew1) | exact HB.out))) | (with_reducible refine Kd.C_alloc ?_ _) | (with_reducible refine Kd.C_drewN ?_ _) | (with_reducible refine Kd.C_drew ?_))); (case side2 => exact HC1.out); rintro e w7 ⟨rfl, hb⟩; have n0_ := Aside0.mk (below_step (by repeat (first | (with_reducible first | exact HB.out | apply below_alloc | apply pw_below_drewN | apply below_drew1) | exact HB.out)) hb); clear HB; have HB := n0_; clear n0_; (try clear hb); (try clear hb2); (try clear hk); (try clear hi)))
      go_meet
      case rel => exact ⟨_, (!t220), (by first | rfl | (simp; done) | (simp [*]; done)), H', ⟨by first | omega | exact Nat.le_refl _⟩, ⟨by repeat (first | (with_reducible first | exact HB.out | apply below_alloc | apply pw_below_drewN | apply below_drew1) | exact HB.out)⟩⟩
    · replace c5 := Bool.eq_false_iff.mpr c5
      subst c5
      have H1 : (camshaftlaw13_CeilAbove.j0 k a0 l1 true) = some r := by rw [if_neg (show ¬ (false = true) by decide)] at H; exact H
      clear H
      have H := H1
      clear H1
      have H' := Aside0.mk H
      clear H
      go_wp2_with (first | ((with_reducible refine gate_callee (f := 15) rfl ?_); refine goesL_ (some 13) rfl rfl Try.func15 (by kernel_rfl) rfl #[.slice A1 l1.length c1] rfl (by (try simp only [List.map_toArray, List.map_cons, List.map_nil]); first | done | rfl | (simp only [List.length_drop, List.length_take]; rfl)) ?_; (with_reducible refine (camshaftlaw13_light.calls k _ _ l1 false _ ?side1 ?side2 A4.out).mono ?_); (case side1 => repeat (first | exact (Kd.C_below HR1.out HB.out) | (with_reducible refine Kd.C_alloc ?_ _) | (with_reducible refine Kd.C_drewN ?_ _) | (with_reducible refine Kd.C_drew ?_))); (case side2 => exact HC1.out); rintro e w' ⟨rfl, ⟨nd, rfl⟩⟩; refine ⟨_, rfl, ?_⟩))
      go_meet
      case rel => exact ⟨_, (true), (by first | rfl | (simp; done) | (simp [*]; done)), H', ⟨by first | omega | exact Nat.le_refl _⟩, ⟨by repeat (first | (with_reducible first | exact HB.out | apply below_alloc | apply pw_below_drewN | apply below_drew1) | exact HB.out)⟩⟩
  case rest =>
    clear HC3
    try clear c1
    try clear p2
    try clear c5
    obtain ⟨kq, x20_2, rfl, HA, HJ2, HB⟩ := hcut
    cases kq with
    | zero => exact absurd HA.out (by simp [camshaftlaw13_CeilAbove.j0])
    | succ kj2 =>
      have H := HA.out
      clear HA
      simp only [camshaftlaw13_CeilAbove.j0] at H
      by_cases c8 : x20_2 = true
      · subst c8
        have H1 : ((camshaftlaw13_known.f kj2).bind fun t221 => (some t221)) = some r := by rw [if_pos rfl] at H; exact H
        clear H
        have H := H1
        clear H1
        replace H := Option.bind_eq_some_iff.mp H
        obtain ⟨t221, A90, H⟩ := H
        replace H : (some t221) = some r := H
        have A9 := Aside0.mk A90
        clear A90
        obtain rfl := Option.some.inj H
        go_wp2_with (first | ((with_reducible refine gate_callee (f := 16) rfl ?_); refine goesL_ (some 21) rfl rfl Try.func16 (by kernel_rfl) rfl #[] rfl (by (try simp only [List.map_toArray, List.map_cons, List.map_nil]); first | done | rfl | (simp only [List.length_drop, List.length_take]; rfl)) ?_; (with_reducible refine (camshaftlaw13_known.calls kj2  t221 _ A9.out).mono ?_); rintro e w10 ⟨rfl, hb⟩; refine ⟨_, rfl, ?_⟩; have n0_ := Aside0.mk (below_step (by repeat (first | (with_reducible first | exact HB.out | apply below_alloc | apply pw_below_drewN | apply below_drew1) | exact HB.out)) hb); clear HB; have HB := n0_; clear n0_; (try clear hb); (try clear hb2); (try clear hk); (try clear hi)))
        go_ret
        exact ⟨by first | rfl | (simp [errW_none, errW_some] <;> rfl) | (simp [*, errW_none, errW_some] <;> rfl), by repeat (first | (with_reducible first | exact HB.out | apply below_alloc | apply pw_below_drewN | apply below_drew1) | exact HB.out)⟩
      · replace c8 := Bool.eq_false_iff.mpr c8
        subst c8
        have H1 : ((ceil_Ceilings.f kj2 a0 l1).bind fun t222 => (if (t222.length : Int) = a0 then (camshaftlaw13_CeilAbove.l0 kj2 l1 t222 0) else (some false))) = some r := by rw [if_neg (show ¬ (false = true) by decide)] at H; exact H
        clear H
        have H := H1
        clear H1
        replace H := Option.bind_eq_some_iff.mp H
        obtain ⟨t222, A110, H⟩ := H
        replace H : (if (t222.length : Int) = a0 then (camshaftlaw13_CeilAbove.l0 kj2 l1 t222 0) else (some false)) = some r := H
        have A11 := Aside0.mk A110
        clear A110
        by_cases c12 : (t222.length : Int) = a0
        · rw [if_pos c12] at H
          have c12b0 : ((t222.length : Int) == a0) = true := beq_iff_eq.mpr c12
          have c12b1 : ((t222.length : Int) != a0) = false := bne_eq_false_iff_eq.mpr c12
          clear c12
          have H' := Aside0.mk H
          clear H
          go_wp2_with (first | ((with_reducible refine gate_callee (f := 21) rfl ?_); refine goesL_ (some 24) rfl rfl Try.func21 (by kernel_rfl) rfl #[.int .i64 a0, .slice A1 l1.length c1] rfl (by (try simp only [List.map_toArray, List.map_cons, List.map_nil]); first | done | rfl | (simp only [List.length_drop, List.length_take]; rfl)) ?_; (with_reducible refine (ceil_Ceilings.calls kj2 a0 _ _ l1 t222 _ ?side1 ?side2 A11.out).mono ?_); (case side1 => repeat (first | exact (Kd.C_below HR1.out HB.out) | (with_reducible refine Kd.C_alloc ?_ _) | (with_reducible refine Kd.C_drewN ?_ _) | (with_reducible refine Kd.C_drew ?_))); (case side2 => exact HC1.out); rintro e w13 ⟨v223, rfl, ho0, hb⟩; refine ⟨_, rfl, ?_⟩; have n0_ := Aside0.mk (Kd.R_lower ho0 (below_size (by repeat (first | (with_reducible first | exact HB.out | apply below_alloc | apply pw_below_drewN | apply below_drew1) | exact HB.out)))); have n1_ := Aside0.mk (below_step (by repeat (first | (with_reducible first | exact HB.out | apply below_alloc | apply pw_below_drewN | apply below_drew1) | exact HB.out)) hb); clear HB; have HO224 := n0_; have HB := n1_; clear n0_ n1_; (try clear hb); (try clear hb2); (try clear hk); (try clear hi); (try clear ho0); obtain ⟨Ao14, co14, eo14⟩ := Kd.R_slice HO224.out; subst eo14))
          go_loopg [6] kj2 (fun kq v6 w' => ∃ (x6_2 : Int), v6 = .int .i64 x6_2 ∧ Aside0 (camshaftlaw13_CeilAbove.l0 kq l1 t222 x6_2 = some r) ∧ Aside0 (kq ≤ kj2) ∧ Aside0 (Kd.R (Kd.int .i64) 3 w' w.heap.size (fun _ => True) (.slice Ao14 t222.length co14) t222) ∧ Aside0 (Below w.heap.size w w'))
          case atStart => exact ⟨(0), (by first | rfl | (simp; done) | (simp [*]; done)), H', ⟨Nat.le_refl _⟩, ⟨by (with_reducible repeat (first | apply Kd.R_alloc | apply Kd.R_drewN | apply Kd.R_drew)); exact HO224.out⟩, ⟨by repeat (first | (with_reducible first | exact HB.out | apply below_alloc | apply pw_below_drewN | apply below_drew1) | exact HB.out)⟩⟩
          case round =>
            clear H'
            try clear c1
            try clear c2
            try clear p2
            try clear c5
            try clear c8
            try clear c12
            try clear c12b0
            try clear c12b1
            try clear p2
            obtain ⟨x6_2, rfl, HA, HK2, HO_5, HB⟩ := hrel
            cases gk with
            | zero => exact absurd HA.out (by simp [camshaftlaw13_CeilAbove.l0])
            | succ k2 =>
              have H := HA.out
              clear HA
              simp only [camshaftlaw13_CeilAbove.l0] at H
              by_cases c15 : x6_2 < (l1.length : Int)
              · rw [if_pos c15] at H
                have c15b0 : decide (x6_2 < (l1.length : Int)) = true := decide_eq_true c15
                clear c15
                have H' := Aside0.mk H
                clear H
                go_wp2
                go_loopg [7] k2 (fun kq v7 w' => ∃ (x7_3 : Int), v7 = .int .i64 x7_3 ∧ Aside0 (camshaftlaw13_CeilAbove.l1 kq l1 t222 x6_2 x7_3 = some r) ∧ Aside0 (kq ≤ k2) ∧ Aside0 (Kd.R (Kd.int .i64) 3 w' w.heap.size (fun _ => True) (.slice Ao14 t222.length co14) t222) ∧ Aside0 (Below w.heap.size w w'))
                case atStart => exact ⟨(0), (by first | rfl | (simp; done) | (simp [*]; done)), H', ⟨Nat.le_refl _⟩, ⟨by (with_reducible repeat (first | apply Kd.R_alloc | apply Kd.R_drewN | apply Kd.R_drew)); exact HO_5.out⟩, ⟨by repeat (first | (with_reducible first | exact HB.out | apply below_alloc | apply pw_below_drewN | apply below_drew1) | exact HB.out)⟩⟩
                case round =>
                  clear H'
                  try clear c1
                  try clear c2
                  try clear p2
                  try clear c5
                  try clear c8
                  try clear c12
                  try clear c12b0
                  try clear c12b1
                  try clear c15
                  try clear c15b0
                  try clear p2
                  obtain ⟨x7_3, rfl, HA, HK3, HO_5, HB⟩ := hrel
                  cases gk with
                  | zero => exact absurd HA.out (by simp [camshaftlaw13_CeilAbove.l1])
                  | succ k3 =>
                    have H := HA.out
                    clear HA
                    simp only [camshaftlaw13_CeilAbove.l1] at H
                    by_cases c16 : 0 ≤ x6_2
                    · rw [if_pos c16] at H
                      have c16b0 : decide (0 ≤ x6_2) = true := decide_eq_true c16
                      clear c16
                      by_cases c17 : x6_2 < (l1.length : Int)
                      · rw [if_pos c17] at H
                        have c17b0 : decide (x6_2 < (l1.length : Int)) = true := decide_eq_true c17
                        clear c17
                        by_cases c18 : x7_3 < (((rd_T37 l1 x6_2).f1).length : Int)
                        · rw [if_pos c18] at H
                          have c18b0 : decide (x7_3 < (((rd_T37 l1 x6_2).f1).length : Int)) = true := decide_eq_true c18
                          clear c18
                          by_cases c19 : 0 ≤ x7_3
                          · rw [if_pos c19] at H
                            have c19b0 : decide (0 ≤ x7_3) = true := decide_eq_true c19
                            clear c19
                            by_cases c20 : 0 ≤ (rd ((rd_T37 l1 x6_2).f1) x7_3)
                            · rw [if_pos c20] at H
                              have c20b0 := eq_true c20
                              have c20b1 : decide (0 ≤ (rd ((rd_T37 l1 x6_2).f1) x7_3)) = true := decide_eq_true c20
                              clear c20
                              obtain ⟨ji21, hji21⟩ : ∃ j_ : Int, (shl .i64 1 (rd ((rd_T37 l1 x6_2).f1) x7_3)) = j_ := ⟨_, rfl⟩
                              replace H : ((ceil_Active.f k3 ((rd_T37 l1 x6_2).f0) (ji21) t222).bind fun t230 => (camshaftlaw13_CeilAbove.l2 k3 l1 t222 x6_2 x7_3 (rd ((rd_T37 l1 x6_2).f1) x7_3) t230 0)) = some r := by first | (rw [hji21] at H; exact H) | (simp only [hji21] at H ⊢; exact H)
                              have hji21_ : (IntKind.i64.wrap (1 * 2 ^ min (rd ((rd_T37 l1 x6_2).f1) x7_3).toNat 64)) = ji21 := hji21
                              have hji21z : (rd ((rd_T37 l1 x6_2).f1) x7_3) ≤ 64 → (IntKind.i64.wrap (1 * 2 ^ (rd ((rd_T37 l1 x6_2).f1) x7_3).toNat)) = ji21 := shl_small hji21
                              have hji21u : (IntKind.i64.wrap (2 ^ min (rd ((rd_T37 l1 x6_2).f1) x7_3).toNat 64)) = ji21 := by have h_ := hji21_; rw [Int.one_mul] at h_; exact h_
                              have hji21v : (rd ((rd_T37 l1 x6_2).f1) x7_3) ≤ 64 → (IntKind.i64.wrap (2 ^ (rd ((rd_T37 l1 x6_2).f1) x7_3).toNat)) = ji21 := fun hle_ => by have h_ := hji21z hle_; rw [Int.one_mul] at h_; exact h_
                              have hji21y : (wrap64 (1 * 2 ^ min (rd ((rd_T37 l1 x6_2).f1) x7_3).toNat 64)) = ji21 := (i64_w _).symm.trans hji21_
                              have hji21x : (rd ((rd_T37 l1 x6_2).f1) x7_3) ≤ 64 → (wrap64 (1 * 2 ^ (rd ((rd_T37 l1 x6_2).f1) x7_3).toNat)) = ji21 := fun h_ => (i64_w _).symm.trans (hji21z h_)
                              replace H := Option.bind_eq_some_iff.mp H
                              obtain ⟨t230, A220, H⟩ := H
                              replace H : (camshaftlaw13_CeilAbove.l2 k3 l1 t222 x6_2 x7_3 (rd ((rd_T37 l1 x6_2).f1) x7_3) t230 0) = some r := H
                              have A22 := Aside0.mk A220
                              clear A220
                              have H' := Aside0.mk H
                              clear H
                              have p226 : 0 ≤ (x6_2 : Int) := of_decide_eq_true (by first | (with_reducible assumption) | assumption)
                              have q226 : x6_2 < (l1.length : Int) := of_decide_eq_true (by first | (with_reducible assumption) | assumption)
                              obtain ⟨ad226, A226_1, c226_1, A226_2, c226_2, e226, hx226_0, hx226_1, hx226_2, hl226_1, hi226_1, hl226_2, hi226_2⟩ := at_T37 HR1.out x6_2 p226 q226
                              cases e226
                              replace hx226_0 := (HB.out.cell (World.block_lt_of_cell? w _ hx226_0)).trans hx226_0
                              replace hx226_1 := (HB.out.cell (World.block_lt_of_cell? w _ hx226_1)).trans hx226_1
                              replace hx226_2 := (HB.out.cell (World.block_lt_of_cell? w _ hx226_2)).trans hx226_2
                              have HR226_1 := Aside0.mk hi226_1
                              have HC226_1 := Aside0.mk hl226_1
                              clear hi226_1 hl226_1
                              have HR226_2 := Aside0.mk hi226_2
                              have HC226_2 := Aside0.mk hl226_2
                              clear hi226_2 hl226_2
                              replace p226 := eq_true p226
                              replace q226 := eq_true q226
                              have p227 : 0 ≤ (x6_2 : Int) := of_decide_eq_true (by first | (with_reducible assumption) | assumption)
                              have q227 : x6_2 < (l1.length : Int) := of_decide_eq_true (by first | (with_reducible assumption) | assumption)
                              obtain ⟨ad227, A227_1, c227_1, A227_2, c227_2, e227, hx227_0, hx227_1, hx227_2, hl227_1, hi227_1, hl227_2, hi227_2⟩ := at_T37 HR1.out x6_2 p227 q227
                              obtain rfl : ad226 = ad227 := (by injection e227)
                              replace hx227_0 := (HB.out.cell (World.block_lt_of_cell? w _ hx227_0)).trans hx227_0
                              replace hx227_1 := (HB.out.cell (World.block_lt_of_cell? w _ hx227_1)).trans hx227_1
                              replace hx227_2 := (HB.out.cell (World.block_lt_of_cell? w _ hx227_2)).trans hx227_2
                              have HR227_1 := Aside0.mk hi227_1
                              have HC227_1 := Aside0.mk hl227_1
                              clear hi227_1 hl227_1
                              have HR227_2 := Aside0.mk hi227_2
                              have HC227_2 := Aside0.mk hl227_2
                              clear hi227_2 hl227_2
                              replace p227 := eq_true p227
                              replace q227 := eq_true q227
                              have ea_ := Option.some.inj (hx226_1.symm.trans hx227_1)
                              injection ea_ with ea_ en_ ec_
                              subst ea_
                              subst ec_
                              clear en_
                              have ea_ := Option.some.inj (hx226_2.symm.trans hx227_2)
                              injection ea_ with ea_ en_ ec_
                              subst ea_
                              subst ec_
                              clear en_
                              have p228 : 0 ≤ (x7_3 : Int) := of_decide_eq_true (by first | (with_reducible assumption) | assumption)
                              have q228 : x7_3 < (((rd_T37 l1 x6_2).f1).length : Int) := of_decide_eq_true (by first | (with_reducible assumption) | assumption)
                              obtain ⟨ad228, e228, hx228_0⟩ := Kd.at_int HR227_1.out x7_3 p228 q228
                              cases e228
                              replace hx228_0 := (HB.out.cell (World.block_lt_of_cell? w _ hx228_0)).trans hx228_0
                              replace p228 := eq_true p228
                              replace q228 := eq_true q228
                              try go_wp2
                              have n0_ := Aside0.mk (Kd.R_drew HO_5.out)
                              have n1_ := Aside0.mk (below_drew1 HB.out)
                              clear HO_5
                              clear HB
                              have HO_5 := n0_
                              have HB := n1_
                              clear n0_ n1_
                              have p229 : 0 ≤ (x6_2 : Int) := of_decide_eq_true (by first | (with_reducible assumption) | assumption)
                              have q229 : x6_2 < (l1.length : Int) := of_decide_eq_true (by first | (with_reducible assumption) | assumption)
                              obtain ⟨ad229, A229_1, c229_1, A229_2, c229_2, e229, hx229_0, hx229_1, hx229_2, hl229_1, hi229_1, hl229_2, hi229_2⟩ := at_T37 HR1.out x6_2 p229 q229
                              have hw229_2 := hx229_2
                              have hw229_1 := hx229_1
                              have hw229_0 := hx229_0
                              obtain rfl : ad226 = ad229 := (by injection e229)
                              replace hx229_0 := (HB.out.cell (World.block_lt_of_cell? w _ hx229_0)).trans hx229_0
                              replace hx229_1 := (HB.out.cell (World.block_lt_of_cell? w _ hx229_1)).trans hx229_1
                              replace hx229_2 := (HB.out.cell (World.block_lt_of_cell? w _ hx229_2)).trans hx229_2
                              have HR229_1 := Aside0.mk hi229_1
                              have HC229_1 := Aside0.mk hl229_1
                              clear hi229_1 hl229_1
                              have HR229_2 := Aside0.mk hi229_2
                              have HC229_2 := Aside0.mk hl229_2
                              clear hi229_2 hl229_2
                              replace p229 := eq_true p229
                              replace q229 := eq_true q229
                              refine start_ (n := 10) (S := fun w' => w'.cell? (ad226.add ((x6_2).toNat * 3)) = some (.int .i64 ((rd_T37 l1 x6_2).f0)) ∧ w'.cell? ⟨(ad226.add ((x6_2).toNat * 3)).block, (ad226.add ((x6_2).toNat * 3)).off + 1, none⟩ = some (.slice A229_1 ((rd_T37 l1 x6_2).f1).length c229_1) ∧ w'.cell? ⟨(ad226.add ((x6_2).toNat * 3)).block, (ad226.add ((x6_2).toNat * 3)).off + 2, none⟩ = some (.slice A229_2 ((rd_T37 l1 x6_2).f2).length c229_2)) (ds := []) #[false, false, false, false, false, false, false, false, false, false] (by kernel_rfl) rfl rfl ⟨((HB.out.cell (World.block_lt_of_cell? w _ hw229_0)).trans hw229_0), ((HB.out.cell (World.block_lt_of_cell? w _ hw229_1)).trans hw229_1), ((HB.out.cell (World.block_lt_of_cell? w _ hw229_2)).trans hw229_2)⟩ (fun hHeld => ?_); refine with_tabW camshaftlaw13_CeilAbove.tab13 camshaftlaw13_CeilAbove.bits13 (fun HT_ HW_ => ?_)
                              generalize wr.drew = w23 at HO_5 HB HR229_1 HR229_2 hx229_0 hx229_1 hx229_2 hHeld ⊢
                              refine pure_ (i := 0) (N := some 53) (v := ?_) (a' := ?_) #[true, false, false, false, false, false, false, false, false, false] rfl rfl (any_of HT_.out (by kernel_rfl)) (fun _ _ _ h => h) (Or.inl ⟨by rfl, ?_⟩) ?_ ?_
                              rotate_left
                              · intro w'
                                go_simp
                                with_reducible rfl
                              rotate_left
                              · simp only [Act.put, List.setIfInBounds_toArray, List.set_cons_zero, List.set_cons_succ, i64_w, i32_w]
                                rfl
                              refine pure_ (i := 1) (N := some 54) (v := ?_) (a' := ?_) #[true, true, false, false, false, false, false, false, false, false] rfl rfl (any_of HT_.out (by kernel_rfl)) (fun _ _ _ h => h) (Or.inl ⟨by rfl, ?_⟩) ?_ ?_
                              rotate_left
                              · intro w'
                                go_simp
                                with_reducible rfl
                              rotate_left
                              · simp only [Act.put, List.setIfInBounds_toArray, List.set_cons_zero, List.set_cons_succ, i64_w, i32_w]
                                rfl
                              refine pure_ (i := 2) (N := some 55) (v := ?_) (a' := ?_) #[true, true, true, false, false, false, false, false, false, false] rfl rfl (any_of HT_.out (by kernel_rfl)) (fun _ _ _ h => h) (Or.inl ⟨by rfl, ?_⟩) ?_ ?_
                              rotate_left
                              · intro w'
                                go_simp
                                with_reducible rfl
                              rotate_left
                              · simp only [Act.put, List.setIfInBounds_toArray, List.set_cons_zero, List.set_cons_succ, i64_w, i32_w]
                                rfl
                              refine pure_ (i := 3) (N := some 56) (v := ?_) (a' := ?_) #[true, true, true, true, false, false, false, false, false, false] rfl rfl (any_of HT_.out (by kernel_rfl)) (fun _ _ _ h => h) (Or.inl ⟨by rfl, ?_⟩) ?_ ?_
                              rotate_left
                              · intro w'
                                go_simp
                                with_reducible rfl
                              rotate_left
                              · simp only [Act.put, List.setIfInBounds_toArray, List.set_cons_zero, List.set_cons_succ, i64_w, i32_w]
                                rfl
                              refine pure_ (i := 5) (N := some 58) (v := ?_) (a' := ?_) #[true, true, true, true, false, true, false, false, false, false] rfl rfl (any_of HT_.out (by kernel_rfl)) (fun _ _ _ h => h) (Or.inl ⟨by rfl, ?_⟩) ?_ ?_
                              rotate_left
                              · intro w'
                                go_simp
                                with_reducible rfl
                              rotate_left
                              · simp only [Act.put, List.setIfInBounds_toArray, List.set_cons_zero, List.set_cons_succ, i64_w, i32_w]
                                rfl
                              refine pure_ (i := 6) (N := some 59) (v := ?_) (a' := ?_) #[true, true, true, true, false, true, true, false, false, false] rfl rfl (any_of HT_.out (by kernel_rfl)) (fun _ _ _ h => h) (Or.inl ⟨by rfl, ?_⟩) ?_ ?_
                              rotate_left
                              · intro w'
                                go_simp
                                with_reducible rfl
                              rotate_left
                              · simp only [Act.put, List.setIfInBounds_toArray, List.set_cons_zero, List.set_cons_succ, i64_w, i32_w]
                                rfl
                              refine pure_ (i := 7) (N := some 60) (v := ?_) (a' := ?_) #[true, true, true, true, false, true, true, true, false, false] rfl rfl (any_of HT_.out (by kernel_rfl)) (fun _ _ _ h => h) (Or.inl ⟨by rfl, ?_⟩) ?_ ?_
                              rotate_left
                              · intro w'
                                go_simp
                                with_reducible rfl
                              rotate_left
                              · simp only [Act.put, List.setIfInBounds_toArray, List.set_cons_zero, List.set_cons_succ, i64_w, i32_w]
                                rfl
                              refine take_ (i := 4) (N := some 57) (v := ?_) (a' := ?_) #[true, true, true, true, true, true, true, true, false, false] rfl rfl (take_ofW HT_.out HW_.out (by kernel_rfl)) (fun _ _ _ h => h) (Or.inl ⟨by rfl, ?_⟩) hHeld ?_ ?_
                              rotate_left
                              · rintro w' ⟨s0, s1, s2⟩
                                go_simp
                                with_reducible rfl
                              rotate_left
                              · simp only [Act.put, List.setIfInBounds_toArray, List.set_cons_zero, List.set_cons_succ, i64_w, i32_w]
                                rfl
                              refine one_ (i := 8) (N := some 61) #[true, true, true, true, true, true, true, true, true, false] rfl rfl (one_of HT_.out (by kernel_rfl)) (by decide) (fun K hK => ?_)
                              refine goes_ Try.func25 (by kernel_rfl) rfl #[.int .i64 ((rd_T37 l1 x6_2).f0), .int .i64 ji21, .slice Ao14 t222.length co14] (by rfl) rfl rfl (by (try simp only [List.map_toArray, List.map_cons, List.map_nil]); first | done | (simp only [hji21]; rfl) | rfl | (simp only [List.length_drop, List.length_take]; rfl)) ?_
                              with_reducible refine (ceil_Active.calls k3 ((rd_T37 l1 x6_2).f0) ji21 _ _ t222 t230 _ ?side1 ?side2 A22.out).mono ?_
                              (case side1 => repeat (first | exact (Kd.R_reads' HO_5.out).2.2 | (with_reducible refine Kd.C_alloc ?_ _) | (with_reducible refine Kd.C_drewN ?_ _) | (with_reducible refine Kd.C_drew ?_)))
                              (case side2 => exact (Kd.R_reads' HO_5.out).2.1)
                              rintro e w24 ⟨rfl, hb⟩
                              refine ⟨_, rfl, ?_⟩
                              have n0_ := Aside0.mk (Kd.R_below (by (with_reducible repeat (first | apply Kd.R_alloc | apply Kd.R_drewN | apply Kd.R_drew)); exact HO_5.out) hb)
                              have n1_ := Aside0.mk (below_step (by repeat (first | (with_reducible first | exact HB.out | apply below_alloc | apply pw_below_drewN | apply below_drew1) | exact HB.out)) hb)
                              clear HO_5
                              clear HB
                              have HO_5 := n0_
                              have HB := n1_
                              clear n0_ n1_
                              (try clear hb)
                              (try clear hb2)
                              (try clear hk)
                              (try clear hi)
                              refine hK.out _ _ ⟨((HB.out.cell (World.block_lt_of_cell? w _ hw229_0)).trans hw229_0), ((HB.out.cell (World.block_lt_of_cell? w _ hw229_1)).trans hw229_1), ((HB.out.cell (World.block_lt_of_cell? w _ hw229_2)).trans hw229_2)⟩ (fun hHeld => ?_)
                              clear hK K
                              refine norm_ (a' := ?_) ?_ ?_
                              rotate_left
                              · show Act.put _ (some 61) _ = _
                                simp only [Act.put, List.setIfInBounds_toArray, List.set_cons_zero, List.set_cons_succ, i64_w, i32_w]
                                rfl
                              refine pure_ (i := 9) (N := some 9) (v := ?_) (a' := ?_) #[true, true, true, true, true, true, true, true, true, true] rfl rfl (any_of HT_.out (by kernel_rfl)) (fun _ _ _ h => h) (Or.inl ⟨by rfl, ?_⟩) ?_ ?_
                              rotate_left
                              · intro w'
                                go_simp
                                with_reducible rfl
                              rotate_left
                              · simp only [Act.put, List.setIfInBounds_toArray, List.set_cons_zero, List.set_cons_succ, i64_w, i32_w]
                                rfl
                              refine done_ (done_of HT_.out (by kernel_rfl)) ?_
                              try go_wp2
                              go_loopg [10] k3 (fun kq v10 w' => ∃ (x10_4 : Int), v10 = .int .i64 x10_4 ∧ Aside0 (camshaftlaw13_CeilAbove.l2 kq l1 t222 x6_2 x7_3 (rd ((rd_T37 l1 x6_2).f1) x7_3) t230 x10_4 = some r) ∧ Aside0 (kq ≤ k3) ∧ Aside0 (Kd.R (Kd.int .i64) 3 w' w.heap.size (fun _ => True) (.slice Ao14 t222.length co14) t222) ∧ Aside0 (Below w.heap.size w w'))
                              case atStart => exact ⟨(0), (by first | rfl | (simp; done) | (simp [*]; done)), H', ⟨Nat.le_refl _⟩, ⟨by (with_reducible repeat (first | apply Kd.R_alloc | apply Kd.R_drewN | apply Kd.R_drew)); exact HO_5.out⟩, ⟨by repeat (first | (with_reducible first | exact HB.out | apply below_alloc | apply pw_below_drewN | apply below_drew1) | exact HB.out)⟩⟩
                              case round =>
                                clear H'
                                try clear c1
                                try clear c2
                                try clear p2
                                try clear q2
                                try clear hx2
                                try clear c5
                                try clear p6
                                try clear c8
                                try clear c12
                                try clear c12b0
                                try clear c12b1
                                try clear c15
                                try clear c15b0
                                try clear c16
                                try clear c16b0
                                try clear c17
                                try clear c17b0
                                try clear c18
                                try clear c18b0
                                try clear c19
                                try clear c19b0
                                try clear c20
                                try clear c20b0
                                try clear c20b1
                                try clear c21
                                try clear c22
                                try clear p22
                                try clear q22
                                try clear hx22
                                try clear hx226_0
                                try clear hx226_1
                                try clear hx226_2
                                try clear hx227_0
                                try clear hx227_1
                                try clear hx227_2
                                try clear hx228_0
                                try clear hx229_0
                                try clear hx229_1
                                try clear hx229_2
                                try clear p2
                                try clear p226
                                try clear p227
                                try clear p228
                                try clear p229
                                try clear q226
                                try clear q227
                                try clear q228
                                try clear q229
                                obtain ⟨x10_4, rfl, HA, HK4, HO_5, HB⟩ := hrel
                                cases gk with
                                | zero => exact absurd HA.out (by simp [camshaftlaw13_CeilAbove.l2])
                                | succ k4 =>
                                  have H := HA.out
                                  clear HA
                                  simp only [camshaftlaw13_CeilAbove.l2] at H
                                  by_cases c25 : x10_4 < (l1.length : Int)
                                  · rw [if_pos c25] at H
                                    have c25b0 : decide (x10_4 < (l1.length : Int)) = true := decide_eq_true c25
                                    clear c25
                                    have H' := Aside0.mk H
                                    clear H
                                    go_wp2
                                    go_loopg [11] k4 (fun kq v11 w' => ∃ (x11_5 : Int), v11 = .int .i64 x11_5 ∧ Aside0 (camshaftlaw13_CeilAbove.l3 kq l1 t222 x6_2 x7_3 (rd ((rd_T37 l1 x6_2).f1) x7_3) t230 x10_4 x11_5 = some r) ∧ Aside0 (kq ≤ k4) ∧ Aside0 (Kd.R (Kd.int .i64) 3 w' w.heap.size (fun _ => True) (.slice Ao14 t222.length co14) t222) ∧ Aside0 (Below w.heap.size w w'))
                                    case atStart => exact ⟨(0), (by first | rfl | (simp; done) | (simp [*]; done)), H', ⟨Nat.le_refl _⟩, ⟨by (with_reducible repeat (first | apply Kd.R_alloc | apply Kd.R_drewN | apply Kd.R_drew)); exact HO_5.out⟩, ⟨by repeat (first | (with_reducible first | exact HB.out | apply below_alloc | apply pw_below_drewN | apply below_drew1) | exact HB.out)⟩⟩
                                    case round =>
                                      clear H'
                                      try clear c1
                                      try clear c2
                                      try clear p2
                                      try clear q2
                                      try clear hx2
                                      try clear c5
                                      try clear p6
                                      try clear c8
                                      try clear c12
                                      try clear c12b0
                                      try clear c12b1
                                      try clear c15
                                      try clear c15b0
                                      try clear c16
                                      try clear c16b0
                                      try clear c17
                                      try clear c17b0
                                      try clear c18
                                      try clear c18b0
                                      try clear c19
                                      try clear c19b0
                                      try clear c20
                                      try clear c20b0
                                      try clear c20b1
                                      try clear c21
                                      try clear c22
                                      try clear p22
                                      try clear q22
                                      try clear hx22
                                      try clear c25
                                      try clear c25b0
                                      try clear hx226_0
                                      try clear hx226_1
                                      try clear hx226_2
                                      try clear hx227_0
                                      try clear hx227_1
                                      try clear hx227_2
                                      try clear hx228_0
                                      try clear hx229_0
                                      try clear hx229_1
                                      try clear hx229_2
                                      try clear p2
                                      try clear p22
                                      try clear p226
                                      try clear p227
                                      try clear p228
                                      try clear p229
                                      try clear p6
                                      try clear q2
                                      try clear q22
                                      try clear q226
                                      try clear q227
                                      try clear q228
                                      try clear q229
                                      obtain ⟨x11_5, rfl, HA, HK5, HO_5, HB⟩ := hrel
                                      cases gk with
                                      | zero => exact absurd HA.out (by simp [camshaftlaw13_CeilAbove.l3])
                                      | succ k5 =>
                                        have H := HA.out
                                        clear HA
                                        simp only [camshaftlaw13_CeilAbove.l3] at H
                                        by_cases c26 : 0 ≤ x10_4
                                        · rw [if_pos c26] at H
                                          have c26b0 : decide (0 ≤ x10_4) = true := decide_eq_true c26
                                          clear c26
                                          by_cases c27 : x10_4 < (l1.length : Int)
                                          · rw [if_pos c27] at H
                                            have c27b0 : decide (x10_4 < (l1.length : Int)) = true := decide_eq_true c27
                                            clear c27
                                            by_cases c28 : x11_5 < (((rd_T37 l1 x10_4).f1).length : Int)
                                            · rw [if_pos c28] at H
                                              have c28b0 : decide (x11_5 < (((rd_T37 l1 x10_4).f1).length : Int)) = true := decide_eq_true c28
                                              clear c28
                                              by_cases c29 : 0 ≤ x11_5
                                              · rw [if_pos c29] at H
                                                have c29b0 : decide (0 ≤ x11_5) = true := decide_eq_true c29
                                                clear c29
                                                by_cases c30 : (rd ((rd_T37 l1 x10_4).f1) x11_5) = (rd ((rd_T37 l1 x6_2).f1) x7_3)
                                                · rw [if_pos c30] at H
                                                  have c30b0 : ((rd ((rd_T37 l1 x10_4).f1) x11_5) == (rd ((rd_T37 l1 x6_2).f1) x7_3)) = true := beq_iff_eq.mpr c30
                                                  have c30b1 : ((rd ((rd_T37 l1 x10_4).f1) x11_5) != (rd ((rd_T37 l1 x6_2).f1) x7_3)) = false := bne_eq_false_iff_eq.mpr c30
                                                  clear c30
                                                  by_cases c31 : ((rd_T37 l1 x10_4).f0) > t230
                                                  · rw [if_pos c31] at H
                                                    have c31b0 : decide (t230 < ((rd_T37 l1 x10_4).f0)) = true := decide_eq_true c31
                                                    clear c31
                                                    obtain rfl := Option.some.inj H
                                                    have p231 : 0 ≤ (x10_4 : Int) := of_decide_eq_true (by first | (with_reducible assumption) | assumption)
                                                    have q231 : x10_4 < (l1.length : Int) := of_decide_eq_true (by first | (with_reducible assumption) | assumption)
                                                    obtain ⟨ad231, A231_1, c231_1, A231_2, c231_2, e231, hx231_0, hx231_1, hx231_2, hl231_1, hi231_1, hl231_2, hi231_2⟩ := at_T37 HR1.out x10_4 p231 q231
                                                    obtain rfl : ad226 = ad231 := (by injection e231)
                                                    replace hx231_0 := (HB.out.cell (World.block_lt_of_cell? w _ hx231_0)).trans hx231_0
                                                    replace hx231_1 := (HB.out.cell (World.block_lt_of_cell? w _ hx231_1)).trans hx231_1
                                                    replace hx231_2 := (HB.out.cell (World.block_lt_of_cell? w _ hx231_2)).trans hx231_2
                                                    have HR231_1 := Aside0.mk hi231_1
                                                    have HC231_1 := Aside0.mk hl231_1
                                                    clear hi231_1 hl231_1
                                                    have HR231_2 := Aside0.mk hi231_2
                                                    have HC231_2 := Aside0.mk hl231_2
                                                    clear hi231_2 hl231_2
                                                    replace p231 := eq_true p231
                                                    replace q231 := eq_true q231
                                                    have p232 : 0 ≤ (x10_4 : Int) := of_decide_eq_true (by first | (with_reducible assumption) | assumption)
                                                    have q232 : x10_4 < (l1.length : Int) := of_decide_eq_true (by first | (with_reducible assumption) | assumption)
                                                    obtain ⟨ad232, A232_1, c232_1, A232_2, c232_2, e232, hx232_0, hx232_1, hx232_2, hl232_1, hi232_1, hl232_2, hi232_2⟩ := at_T37 HR1.out x10_4 p232 q232
                                                    obtain rfl : ad226 = ad232 := (by injection e232)
                                                    replace hx232_0 := (HB.out.cell (World.block_lt_of_cell? w _ hx232_0)).trans hx232_0
                                                    replace hx232_1 := (HB.out.cell (World.block_lt_of_cell? w _ hx232_1)).trans hx232_1
                                                    replace hx232_2 := (HB.out.cell (World.block_lt_of_cell? w _ hx232_2)).trans hx232_2
                                                    have HR232_1 := Aside0.mk hi232_1
                                                    have HC232_1 := Aside0.mk hl232_1
                                                    clear hi232_1 hl232_1
                                                    have HR232_2 := Aside0.mk hi232_2
                                                    have HC232_2 := Aside0.mk hl232_2
                                                    clear hi232_2 hl232_2
                                                    replace p232 := eq_true p232
                                                    replace q232 := eq_true q232
                                                    have ea_ := Option.some.inj (hx231_1.symm.trans hx232_1)
                                                    injection ea_ with ea_ en_ ec_
                                                    subst ea_
                                                    subst ec_
                                                    clear en_
                                                    have ea_ := Option.some.inj (hx231_2.symm.trans hx232_2)
                                                    injection ea_ with ea_ en_ ec_
                                                    subst ea_
                                                    subst ec_
                                                    clear en_
                                                    have p233 : 0 ≤ (x11_5 : Int) := of_decide_eq_true (by first | (with_reducible assumption) | assumption)
                                                    have q233 : x11_5 < (((rd_T37 l1 x10_4).f1).length : Int) := of_decide_eq_true (by first | (with_reducible assumption) | assumption)
                                                    obtain ⟨ad233, e233, hx233_0⟩ := Kd.at_int HR232_1.out x11_5 p233 q233
                                                    cases e233
                                                    replace hx233_0 := (HB.out.cell (World.block_lt_of_cell? w _ hx233_0)).trans hx233_0
                                                    replace p233 := eq_true p233
                                                    replace q233 := eq_true q233
                                                    have p234 : 0 ≤ (x10_4 : Int) := of_decide_eq_true (by first | (with_reducible assumption) | assumption)
                                                    have q234 : x10_4 < (l1.length : Int) := of_decide_eq_true (by first | (with_reducible assumption) | assumption)
                                                    obtain ⟨ad234, A234_1, c234_1, A234_2, c234_2, e234, hx234_0, hx234_1, hx234_2, hl234_1, hi234_1, hl234_2, hi234_2⟩ := at_T37 HR1.out x10_4 p234 q234
                                                    obtain rfl : ad226 = ad234 := (by injection e234)
                                                    replace hx234_0 := (HB.out.cell (World.block_lt_of_cell? w _ hx234_0)).trans hx234_0
                                                    replace hx234_1 := (HB.out.cell (World.block_lt_of_cell? w _ hx234_1)).trans hx234_1
                                                    replace hx234_2 := (HB.out.cell (World.block_lt_of_cell? w _ hx234_2)).trans hx234_2
                                                    have HR234_1 := Aside0.mk hi234_1
                                                    have HC234_1 := Aside0.mk hl234_1
                                                    clear hi234_1 hl234_1
                                                    have HR234_2 := Aside0.mk hi234_2
                                                    have HC234_2 := Aside0.mk hl234_2
                                                    clear hi234_2 hl234_2
                                                    replace p234 := eq_true p234
                                                    replace q234 := eq_true q234
                                                    have ea_ := Option.some.inj (hx231_1.symm.trans hx234_1)
                                                    injection ea_ with ea_ en_ ec_
                                                    subst ea_
                                                    subst ec_
                                                    clear en_
                                                    have ea_ := Option.some.inj (hx231_2.symm.trans hx234_2)
                                                    injection ea_ with ea_ en_ ec_
                                                    subst ea_
                                                    subst ec_
                                                    clear en_
                                                    go_wp2
                                                    go_ret
                                                    exact ⟨by first | rfl | (simp [errW_none, errW_some] <;> rfl) | (simp only [← hji21]; first | rfl | (simp [errW_none, errW_some] <;> rfl)) | (simp [*, errW_none, errW_some] <;> rfl), by repeat (first | (with_reducible first | exact HB.out | apply below_alloc | apply pw_below_drewN | apply below_drew1) | exact HB.out)⟩
                                                  · rw [if_neg c31] at H
                                                    have c31b0 : decide (t230 < ((rd_T37 l1 x10_4).f0)) = false := decide_eq_false c31
                                                    clear c31
                                                    have H' := Aside0.mk H
                                                    clear H
                                                    have p231 : 0 ≤ (x10_4 : Int) := of_decide_eq_true (by first | (with_reducible assumption) | assumption)
                                                    have q231 : x10_4 < (l1.length : Int) := of_decide_eq_true (by first | (with_reducible assumption) | assumption)
                                                    obtain ⟨ad231, A231_1, c231_1, A231_2, c231_2, e231, hx231_0, hx231_1, hx231_2, hl231_1, hi231_1, hl231_2, hi231_2⟩ := at_T37 HR1.out x10_4 p231 q231
                                                    obtain rfl : ad226 = ad231 := (by injection e231)
                                                    replace hx231_0 := (HB.out.cell (World.block_lt_of_cell? w _ hx231_0)).trans hx231_0
                                                    replace hx231_1 := (HB.out.cell (World.block_lt_of_cell? w _ hx231_1)).trans hx231_1
                                                    replace hx231_2 := (HB.out.cell (World.block_lt_of_cell? w _ hx231_2)).trans hx231_2
                                                    have HR231_1 := Aside0.mk hi231_1
                                                    have HC231_1 := Aside0.mk hl231_1
                                                    clear hi231_1 hl231_1
                                                    have HR231_2 := Aside0.mk hi231_2
                                                    have HC231_2 := Aside0.mk hl231_2
                                                    clear hi231_2 hl231_2
                                                    replace p231 := eq_true p231
                                                    replace q231 := eq_true q231
                                                    have p232 : 0 ≤ (x10_4 : Int) := of_decide_eq_true (by first | (with_reducible assumption) | assumption)
                                                    have q232 : x10_4 < (l1.length : Int) := of_decide_eq_true (by first | (with_reducible assumption) | assumption)
                                                    obtain ⟨ad232, A232_1, c232_1, A232_2, c232_2, e232, hx232_0, hx232_1, hx232_2, hl232_1, hi232_1, hl232_2, hi232_2⟩ := at_T37 HR1.out x10_4 p232 q232
                                                    obtain rfl : ad226 = ad232 := (by injection e232)
                                                    replace hx232_0 := (HB.out.cell (World.block_lt_of_cell? w _ hx232_0)).trans hx232_0
                                                    replace hx232_1 := (HB.out.cell (World.block_lt_of_cell? w _ hx232_1)).trans hx232_1
                                                    replace hx232_2 := (HB.out.cell (World.block_lt_of_cell? w _ hx232_2)).trans hx232_2
                                                    have HR232_1 := Aside0.mk hi232_1
                                                    have HC232_1 := Aside0.mk hl232_1
                                                    clear hi232_1 hl232_1
                                                    have HR232_2 := Aside0.mk hi232_2
                                                    have HC232_2 := Aside0.mk hl232_2
                                                    clear hi232_2 hl232_2
                                                    replace p232 := eq_true p232
                                                    replace q232 := eq_true q232
                                                    have ea_ := Option.some.inj (hx231_1.symm.trans hx232_1)
                                                    injection ea_ with ea_ en_ ec_
                                                    subst ea_
                                                    subst ec_
                                                    clear en_
                                                    have ea_ := Option.some.inj (hx231_2.symm.trans hx232_2)
                                                    injection ea_ with ea_ en_ ec_
                                                    subst ea_
                                                    subst ec_
                                                    clear en_
                                                    have p233 : 0 ≤ (x11_5 : Int) := of_decide_eq_true (by first | (with_reducible assumption) | assumption)
                                                    have q233 : x11_5 < (((rd_T37 l1 x10_4).f1).length : Int) := of_decide_eq_true (by first | (with_reducible assumption) | assumption)
                                                    obtain ⟨ad233, e233, hx233_0⟩ := Kd.at_int HR232_1.out x11_5 p233 q233
                                                    cases e233
                                                    replace hx233_0 := (HB.out.cell (World.block_lt_of_cell? w _ hx233_0)).trans hx233_0
                                                    replace p233 := eq_true p233
                                                    replace q233 := eq_true q233
                                                    have p234 : 0 ≤ (x10_4 : Int) := of_decide_eq_true (by first | (with_reducible assumption) | assumption)
                                                    have q234 : x10_4 < (l1.length : Int) := of_decide_eq_true (by first | (with_reducible assumption) | assumption)
                                                    obtain ⟨ad234, A234_1, c234_1, A234_2, c234_2, e234, hx234_0, hx234_1, hx234_2, hl234_1, hi234_1, hl234_2, hi234_2⟩ := at_T37 HR1.out x10_4 p234 q234
                                                    obtain rfl : ad226 = ad234 := (by injection e234)
                                                    replace hx234_0 := (HB.out.cell (World.block_lt_of_cell? w _ hx234_0)).trans hx234_0
                                                    replace hx234_1 := (HB.out.cell (World.block_lt_of_cell? w _ hx234_1)).trans hx234_1
                                                    replace hx234_2 := (HB.out.cell (World.block_lt_of_cell? w _ hx234_2)).trans hx234_2
                                                    have HR234_1 := Aside0.mk hi234_1
                                                    have HC234_1 := Aside0.mk hl234_1
                                                    clear hi234_1 hl234_1
                                                    have HR234_2 := Aside0.mk hi234_2
                                                    have HC234_2 := Aside0.mk hl234_2
                                                    clear hi234_2 hl234_2
                                                    replace p234 := eq_true p234
                                                    replace q234 := eq_true q234
                                                    have ea_ := Option.some.inj (hx231_1.symm.trans hx234_1)
                                                    injection ea_ with ea_ en_ ec_
                                                    subst ea_
                                                    subst ec_
                                                    clear en_
                                                    have ea_ := Option.some.inj (hx231_2.symm.trans hx234_2)
                                                    injection ea_ with ea_ en_ ec_
                                                    subst ea_
                                                    subst ec_
                                                    clear en_
                                                    go_wp2
                                                    go_roundg k5
                                                    case measure => have := HJ2.out; have := HK2.out; have := HK3.out; have := HK4.out; have := HK5.out; omega
                                                    case rel => exact ⟨(wrap64 (x11_5 + 1)), (by first | rfl | (simp; done) | (simp [*]; done)), H', ⟨by have := HJ2.out; have := HK2.out; have := HK3.out; have := HK4.out; have := HK5.out; omega⟩, ⟨by (with_reducible repeat (first | apply Kd.R_alloc | apply Kd.R_drewN | apply Kd.R_drew)); exact HO_5.out⟩, ⟨by repeat (first | (with_reducible first | exact HB.out | apply below_alloc | apply pw_below_drewN | apply below_drew1) | exact HB.out)⟩⟩
                                                · rw [if_neg c30] at H
                                                  have c30b0 : ((rd ((rd_T37 l1 x10_4).f1) x11_5) == (rd ((rd_T37 l1 x6_2).f1) x7_3)) = false := beq_eq_false_iff_ne.mpr c30
                                                  have c30b1 : ((rd ((rd_T37 l1 x10_4).f1) x11_5) != (rd ((rd_T37 l1 x6_2).f1) x7_3)) = true := bne_iff_ne.mpr c30
                                                  have H' := Aside0.mk H
                                                  clear H
                                                  have p231 : 0 ≤ (x10_4 : Int) := of_decide_eq_true (by first | (with_reducible assumption) | assumption)
                                                  have q231 : x10_4 < (l1.length : Int) := of_decide_eq_true (by first | (with_reducible assumption) | assumption)
                                                  obtain ⟨ad231, A231_1, c231_1, A231_2, c231_2, e231, hx231_0, hx231_1, hx231_2, hl231_1, hi231_1, hl231_2, hi231_2⟩ := at_T37 HR1.out x10_4 p231 q231
                                                  obtain rfl : ad226 = ad231 := (by injection e231)
                                                  replace hx231_0 := (HB.out.cell (World.block_lt_of_cell? w _ hx231_0)).trans hx231_0
                                                  replace hx231_1 := (HB.out.cell (World.block_lt_of_cell? w _ hx231_1)).trans hx231_1
                                                  replace hx231_2 := (HB.out.cell (World.block_lt_of_cell? w _ hx231_2)).trans hx231_2
                                                  have HR231_1 := Aside0.mk hi231_1
                                                  have HC231_1 := Aside0.mk hl231_1
                                                  clear hi231_1 hl231_1
                                                  have HR231_2 := Aside0.mk hi231_2
                                                  have HC231_2 := Aside0.mk hl231_2
                                                  clear hi231_2 hl231_2
                                                  replace p231 := eq_true p231
                                                  replace q231 := eq_true q231
                                                  have p232 : 0 ≤ (x10_4 : Int) := of_decide_eq_true (by first | (with_reducible assumption) | assumption)
                                                  have q232 : x10_4 < (l1.length : Int) := of_decide_eq_true (by first | (with_reducible assumption) | assumption)
                                                  obtain ⟨ad232, A232_1, c232_1, A232_2, c232_2, e232, hx232_0, hx232_1, hx232_2, hl232_1, hi232_1, hl232_2, hi232_2⟩ := at_T37 HR1.out x10_4 p232 q232
                                                  obtain rfl : ad226 = ad232 := (by injection e232)
                                                  replace hx232_0 := (HB.out.cell (World.block_lt_of_cell? w _ hx232_0)).trans hx232_0
                                                  replace hx232_1 := (HB.out.cell (World.block_lt_of_cell? w _ hx232_1)).trans hx232_1
                                                  replace hx232_2 := (HB.out.cell (World.block_lt_of_cell? w _ hx232_2)).trans hx232_2
                                                  have HR232_1 := Aside0.mk hi232_1
                                                  have HC232_1 := Aside0.mk hl232_1
                                                  clear hi232_1 hl232_1
                                                  have HR232_2 := Aside0.mk hi232_2
                                                  have HC232_2 := Aside0.mk hl232_2
                                                  clear hi232_2 hl232_2
                                                  replace p232 := eq_true p232
                                                  replace q232 := eq_true q232
                                                  have ea_ := Option.some.inj (hx231_1.symm.trans hx232_1)
                                                  injection ea_ with ea_ en_ ec_
                                                  subst ea_
                                                  subst ec_
                                                  clear en_
                                                  have ea_ := Option.some.inj (hx231_2.symm.trans hx232_2)
                                                  injection ea_ with ea_ en_ ec_
                                                  subst ea_
                                                  subst ec_
                                                  clear en_
                                                  have p233 : 0 ≤ (x11_5 : Int) := of_decide_eq_true (by first | (with_reducible assumption) | assumption)
                                                  have q233 : x11_5 < (((rd_T37 l1 x10_4).f1).length : Int) := of_decide_eq_true (by first | (with_reducible assumption) | assumption)
                                                  obtain ⟨ad233, e233, hx233_0⟩ := Kd.at_int HR232_1.out x11_5 p233 q233
                                                  cases e233
                                                  replace hx233_0 := (HB.out.cell (World.block_lt_of_cell? w _ hx233_0)).trans hx233_0
                                                  replace p233 := eq_true p233
                                                  replace q233 := eq_true q233
                                                  go_wp2
                                                  go_roundg k5
                                                  case measure => have := HJ2.out; have := HK2.out; have := HK3.out; have := HK4.out; have := HK5.out; omega
                                                  case rel => exact ⟨(wrap64 (x11_5 + 1)), (by first | rfl | (simp; done) | (simp [*]; done)), H', ⟨by have := HJ2.out; have := HK2.out; have := HK3.out; have := HK4.out; have := HK5.out; omega⟩, ⟨by (with_reducible repeat (first | apply Kd.R_alloc | apply Kd.R_drewN | apply Kd.R_drew)); exact HO_5.out⟩, ⟨by repeat (first | (with_reducible first | exact HB.out | apply below_alloc | apply pw_below_drewN | apply below_drew1) | exact HB.out)⟩⟩
                                              · rw [if_neg c29] at H
                                                exact absurd H (by simp)
                                            · rw [if_neg c28] at H
                                              have c28b0 : decide (x11_5 < (((rd_T37 l1 x10_4).f1).length : Int)) = false := decide_eq_false c28
                                              clear c28
                                              have H' := Aside0.mk H
                                              clear H
                                              have p231 : 0 ≤ (x10_4 : Int) := of_decide_eq_true (by first | (with_reducible assumption) | assumption)
                                              have q231 : x10_4 < (l1.length : Int) := of_decide_eq_true (by first | (with_reducible assumption) | assumption)
                                              obtain ⟨ad231, A231_1, c231_1, A231_2, c231_2, e231, hx231_0, hx231_1, hx231_2, hl231_1, hi231_1, hl231_2, hi231_2⟩ := at_T37 HR1.out x10_4 p231 q231
                                              obtain rfl : ad226 = ad231 := (by injection e231)
                                              replace hx231_0 := (HB.out.cell (World.block_lt_of_cell? w _ hx231_0)).trans hx231_0
                                              replace hx231_1 := (HB.out.cell (World.block_lt_of_cell? w _ hx231_1)).trans hx231_1
                                              replace hx231_2 := (HB.out.cell (World.block_lt_of_cell? w _ hx231_2)).trans hx231_2
                                              have HR231_1 := Aside0.mk hi231_1
                                              have HC231_1 := Aside0.mk hl231_1
                                              clear hi231_1 hl231_1
                                              have HR231_2 := Aside0.mk hi231_2
                                              have HC231_2 := Aside0.mk hl231_2
                                              clear hi231_2 hl231_2
                                              replace p231 := eq_true p231
                                              replace q231 := eq_true q231
                                              go_wp2
                                              go_roundg k5
                                              case measure => have := HJ2.out; have := HK2.out; have := HK3.out; have := HK4.out; have := HK5.out; omega
                                              case rel => exact ⟨(wrap64 (x10_4 + 1)), (by first | rfl | (simp; done) | (simp [*]; done)), H', ⟨by have := HJ2.out; have := HK2.out; have := HK3.out; have := HK4.out; have := HK5.out; omega⟩, ⟨by (with_reducible repeat (first | apply Kd.R_alloc | apply Kd.R_drewN | apply Kd.R_drew)); exact HO_5.out⟩, ⟨by repeat (first | (with_reducible first | exact HB.out | apply below_alloc | apply pw_below_drewN | apply below_drew1) | exact HB.out)⟩⟩
                                          · rw [if_neg c27] at H
                                            exact absurd H (by simp)
                                        · rw [if_neg c26] at H
                                          exact absurd H (by simp)
                                  · rw [if_neg c25] at H
                                    have c25b0 : decide (x10_4 < (l1.length : Int)) = false := decide_eq_false c25
                                    clear c25
                                    have H' := Aside0.mk H
                                    clear H
                                    go_wp2
                                    go_roundg k4
                                    case measure => have := HJ2.out; have := HK2.out; have := HK3.out; have := HK4.out; omega
                                    case rel => exact ⟨(wrap64 (x7_3 + 1)), (by first | rfl | (simp; done) | (simp [*]; done)), H', ⟨by have := HJ2.out; have := HK2.out; have := HK3.out; have := HK4.out; omega⟩, ⟨by (with_reducible repeat (first | apply Kd.R_alloc | apply Kd.R_drewN | apply Kd.R_drew)); exact HO_5.out⟩, ⟨by repeat (first | (with_reducible first | exact HB.out | apply below_alloc | apply pw_below_drewN | apply below_drew1) | exact HB.out)⟩⟩
                            · rw [if_neg c20] at H
                              exact absurd H (by simp)
                          · rw [if_neg c19] at H
                            exact absurd H (by simp)
                        · rw [if_neg c18] at H
                          have c18b0 : decide (x7_3 < (((rd_T37 l1 x6_2).f1).length : Int)) = false := decide_eq_false c18
                          clear c18
                          have H' := Aside0.mk H
                          clear H
                          have p226 : 0 ≤ (x6_2 : Int) := of_decide_eq_true (by first | (with_reducible assumption) | assumption)
                          have q226 : x6_2 < (l1.length : Int) := of_decide_eq_true (by first | (with_reducible assumption) | assumption)
                          obtain ⟨ad226, A226_1, c226_1, A226_2, c226_2, e226, hx226_0, hx226_1, hx226_2, hl226_1, hi226_1, hl226_2, hi226_2⟩ := at_T37 HR1.out x6_2 p226 q226
                          cases e226
                          replace hx226_0 := (HB.out.cell (World.block_lt_of_cell? w _ hx226_0)).trans hx226_0
                          replace hx226_1 := (HB.out.cell (World.block_lt_of_cell? w _ hx226_1)).trans hx226_1
                          replace hx226_2 := (HB.out.cell (World.block_lt_of_cell? w _ hx226_2)).trans hx226_2
                          have HR226_1 := Aside0.mk hi226_1
                          have HC226_1 := Aside0.mk hl226_1
                          clear hi226_1 hl226_1
                          have HR226_2 := Aside0.mk hi226_2
                          have HC226_2 := Aside0.mk hl226_2
                          clear hi226_2 hl226_2
                          replace p226 := eq_true p226
                          replace q226 := eq_true q226
                          go_wp2
                          go_roundg k3
                          case measure => have := HJ2.out; have := HK2.out; have := HK3.out; omega
                          case rel => exact ⟨(wrap64 (x6_2 + 1)), (by first | rfl | (simp; done) | (simp [*]; done)), H', ⟨by have := HJ2.out; have := HK2.out; have := HK3.out; omega⟩, ⟨by (with_reducible repeat (first | apply Kd.R_alloc | apply Kd.R_drewN | apply Kd.R_drew)); exact HO_5.out⟩, ⟨by repeat (first | (with_reducible first | exact HB.out | apply below_alloc | apply pw_below_drewN | apply below_drew1) | exact HB.out)⟩⟩
                      · rw [if_neg c17] at H
                        exact absurd H (by simp)
                    · rw [if_neg c16] at H
                      exact absurd H (by simp)
              · rw [if_neg c15] at H
                have c15b0 : decide (x6_2 < (l1.length : Int)) = false := decide_eq_false c15
                clear c15
                replace H := Option.bind_eq_some_iff.mp H
                obtain ⟨t225, A320, H⟩ := H
                replace H : (some t225) = some r := H
                have A32 := Aside0.mk A320
                clear A320
                obtain rfl := Option.some.inj H
                go_wp2_with (first | ((with_reducible refine gate_callee (f := 16) rfl ?_); refine goesL_ (some 97) rfl rfl Try.func16 (by kernel_rfl) rfl #[] rfl (by (try simp only [List.map_toArray, List.map_cons, List.map_nil]); first | done | rfl | (simp only [List.length_drop, List.length_take]; rfl)) ?_; (with_reducible refine (camshaftlaw13_known.calls k2  t225 _ A32.out).mono ?_); rintro e w33 ⟨rfl, hb⟩; refine ⟨_, rfl, ?_⟩; have n0_ := Aside0.mk (Kd.R_below (by (with_reducible repeat (first | apply Kd.R_alloc | apply Kd.R_drewN | apply Kd.R_drew)); exact HO_5.out) hb); have n1_ := Aside0.mk (below_step (by repeat (first | (with_reducible first | exact HB.out | apply below_alloc | apply pw_below_drewN | apply below_drew1) | exact HB.out)) hb); clear HO_5; clear HB; have HO_5 := n0_; have HB := n1_; clear n0_ n1_; (try clear hb); (try clear hb2); (try clear hk); (try clear hi)))
                go_ret
                exact ⟨by first | rfl | (simp [errW_none, errW_some] <;> rfl) | (simp [*, errW_none, errW_some] <;> rfl), by repeat (first | (with_reducible first | exact HB.out | apply below_alloc | apply pw_below_drewN | apply below_drew1) | exact HB.out)⟩
        · rw [if_neg c12] at H
          have c12b0 : ((t222.length : Int) == a0) = false := beq_eq_false_iff_ne.mpr c12
          have c12b1 : ((t222.length : Int) != a0) = true := bne_iff_ne.mpr c12
          obtain rfl := Option.some.inj H
          go_wp2_with (first | ((with_reducible refine gate_callee (f := 21) rfl ?_); refine goesL_ (some 24) rfl rfl Try.func21 (by kernel_rfl) rfl #[.int .i64 a0, .slice A1 l1.length c1] rfl (by (try simp only [List.map_toArray, List.map_cons, List.map_nil]); first | done | rfl | (simp only [List.length_drop, List.length_take]; rfl)) ?_; (with_reducible refine (ceil_Ceilings.calls kj2 a0 _ _ l1 t222 _ ?side1 ?side2 A11.out).mono ?_); (case side1 => repeat (first | exact (Kd.C_below HR1.out HB.out) | (with_reducible refine Kd.C_alloc ?_ _) | (with_reducible refine Kd.C_drewN ?_ _) | (with_reducible refine Kd.C_drew ?_))); (case side2 => exact HC1.out); rintro e w34 ⟨v223, rfl, ho0, hb⟩; refine ⟨_, rfl, ?_⟩; have n0_ := Aside0.mk (Kd.R_lower ho0 (below_size (by repeat (first | (with_reducible first | exact HB.out | apply below_alloc | apply pw_below_drewN | apply below_drew1) | exact HB.out)))); have n1_ := Aside0.mk (below_step (by repeat (first | (with_reducible first | exact HB.out | apply below_alloc | apply pw_below_drewN | apply below_drew1) | exact HB.out)) hb); clear HB; have HO224 := n0_; have HB := n1_; clear n0_ n1_; (try clear hb); (try clear hb2); (try clear hk); (try clear hi); (try clear ho0); obtain ⟨Ao35, co35, eo35⟩ := Kd.R_slice HO224.out; subst eo35))
          go_ret
          exact ⟨by first | rfl | (simp [errW_none, errW_some] <;> rfl) | (simp [*, errW_none, errW_some] <;> rfl), by repeat (first | (with_reducible first | exact HB.out | apply below_alloc | apply pw_below_drewN | apply below_drew1) | exact HB.out)⟩

end Go.Proofs.Ytehmolbalfefjaa.Q
