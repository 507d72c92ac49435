/- CeilAbove, plainly: none of those that have the block is above who holds it. -/
import Derived.Test.YtehmolbalfefjaaQCeil2
namespace Go.Proofs.Ytehmolbalfefjaa.Pure
open Go.RowKit Go.Proofs.YtehmolbalfefjaaW.PrintWords Go.Proofs.YtehmolbalfefjaaW.PrintLast Go.Proofs.YtehmolbalfefjaaW.PrintMore Go.Proofs.YtehmolbalfefjaaH Go.Proofs.Ytehmolbalfefjaa.Q
section
variable (blocks : Int) (l : List Use) (hm : l.length ≤ 20) (hu : ∀ u ∈ l, u.f1.length ≤ 50 ∧ u.f2.length ≤ 50) (hk : ceilOk blocks l = true)
include hm hu hk
theorem above_l3 (i j b : Int) (u : Use) (hui : u ∈ l) (hbi : b ∈ u.f1) (j0 : 0 ≤ j) (x : Int) (x0 : 0 ≤ x) (x1 : x < l.length)
    (hnext : Ev (fun k => camshaftlaw13_CeilAbove.l2 k l (ceilingsP blocks l) i j b (actFrom (shl .i64 1 b) 0 (ceilingsP blocks l) u.f0) (x + 1)) true) (d : Nat) : ∀ y : Int, 0 ≤ y → y + d = (rd_T37 l x).f1.length →
    Ev (fun k => camshaftlaw13_CeilAbove.l3 k l (ceilingsP blocks l) i j b (actFrom (shl .i64 1 b) 0 (ceilingsP blocks l) u.f0) x y) true := by
  have hmem := rd_use_mem l x x0 x1
  have h50 := (hu _ hmem).1
  induction d with
  | zero =>
    intro y y0 y1
    refine Ev.step (fun k => ?_) hnext
    simp only [camshaftlaw13_CeilAbove.l3]
    rw [if_pos x0, if_pos x1, if_neg (by omega), wrap_succ x0 (by omega)]
  | succ d ih =>
    intro y y0 y1
    refine Ev.step (fun k => ?_) (ih (y + 1) (by omega) (by omega))
    simp only [camshaftlaw13_CeilAbove.l3]
    rw [if_pos x0, if_pos x1, if_pos (by omega), if_pos y0, wrap_succ y0 (by omega)]
    by_cases e : rd (rd_T37 l x).f1 y = b
    · have hb := mem_of_rd (rd_T37 l x).f1 y y0 (by omega)
      rw [e] at hb
      have := lifted_to blocks l hk u _ hui hmem b hbi hb
      rw [if_pos e, if_neg (by omega)]
    · rw [if_neg e]
theorem above_l2 (i j b : Int) (u : Use) (hui : u ∈ l) (hbi : b ∈ u.f1) (j0 : 0 ≤ j) (j1 : j < 50)
    (hnext : Ev (fun k => camshaftlaw13_CeilAbove.l1 k l (ceilingsP blocks l) i (j + 1)) true) (d : Nat) : ∀ x : Int, 0 ≤ x → x + d = l.length →
    Ev (fun k => camshaftlaw13_CeilAbove.l2 k l (ceilingsP blocks l) i j b (actFrom (shl .i64 1 b) 0 (ceilingsP blocks l) u.f0) x) true := by
  induction d with
  | zero =>
    intro x x0 x1
    refine Ev.step (fun k => ?_) hnext
    simp only [camshaftlaw13_CeilAbove.l2]
    rw [if_neg (by omega), wrap_succ j0 (by omega)]
  | succ d ih =>
    intro x x0 x1
    refine Ev.step (fun k => ?_) (above_l3 blocks l hm hu hk i j b u hui hbi j0 x x0 (by omega) (ih (x + 1) (by omega) (by omega)) (rd_T37 l x).f1.length 0 (by omega) (by omega))
    simp only [camshaftlaw13_CeilAbove.l2]
    rw [if_pos (by omega)]
theorem above_l1 (i : Int) (i0 : 0 ≤ i) (i1 : i < l.length) (hnext : Ev (fun k => camshaftlaw13_CeilAbove.l0 k l (ceilingsP blocks l) (i + 1)) true) (d : Nat) : ∀ j : Int, 0 ≤ j → j + d = (rd_T37 l i).f1.length →
    Ev (fun k => camshaftlaw13_CeilAbove.l1 k l (ceilingsP blocks l) i j) true := by
  have hmem := rd_use_mem l i i0 i1
  have h50 := (hu _ hmem).1
  have hck := ceilOk_parts hk
  induction d with
  | zero =>
    intro j j0 j1
    refine Ev.step (fun k => ?_) hnext
    simp only [camshaftlaw13_CeilAbove.l1]
    rw [if_pos i0, if_pos i1, if_neg (by omega), wrap_succ i0 (by omega)]
  | succ d ih =>
    intro j j0 j1
    have hb := mem_of_rd (rd_T37 l i).f1 j j0 (by omega)
    have hx := useOk_rd (hck.1 _ hmem) _ hb
    refine Ev.step (f := fun k => (ceil_Active.f k (rd_T37 l i).f0 (shl .i64 1 (rd (rd_T37 l i).f1 j)) (ceilingsP blocks l)).bind fun t => camshaftlaw13_CeilAbove.l2 k l (ceilingsP blocks l) i j (rd (rd_T37 l i).f1 j) t 0) (fun k => ?_) ?_
    · simp only [camshaftlaw13_CeilAbove.l1]
      rw [if_pos i0, if_pos i1, if_pos (by omega), if_pos j0, if_pos hx.1]
    · refine Ev.bind (active_ev _ _ _ (by rw [ceilingsP_length]; omega)) ?_
      exact above_l2 blocks l hm hu hk i j _ _ hmem hb j0 (by omega) (ih (j + 1) (by omega) (by omega)) l.length 0 (by omega) (by omega)
theorem above_l0 (d : Nat) : ∀ i : Int, 0 ≤ i → i + d = l.length → Ev (fun k => camshaftlaw13_CeilAbove.l0 k l (ceilingsP blocks l) i) true := by
  induction d with
  | zero =>
    intro i i0 i1
    refine Ev.step (f := fun k => (camshaftlaw13_known.f k).bind fun t => some t) (fun k => ?_) (Ev.bind known_ev (Ev.now _))
    simp only [camshaftlaw13_CeilAbove.l0]
    rw [if_neg (by omega)]
  | succ d ih =>
    intro i i0 i1
    refine Ev.step (fun k => ?_) (above_l1 blocks l hm hu hk i i0 (by omega) (ih (i + 1) (by omega) (by omega)) (rd_T37 l i).f1.length 0 (by omega) (by omega))
    simp only [camshaftlaw13_CeilAbove.l0]
    rw [if_pos (by omega)]
end
theorem above_known (blocks : Int) (l : List Use) : Ev (fun k => camshaftlaw13_CeilAbove.j0 k blocks l true) true := by
  refine Ev.step (f := fun k => (camshaftlaw13_known.f k).bind fun t => some t) (fun k => ?_) (Ev.bind known_ev (Ev.now _))
  simp only [camshaftlaw13_CeilAbove.j0, if_true]
theorem CeilAbove : ∀ (a0 : Int) (l1 : List S37), ok3 a0 → ok22 l1 → ∃ k, camshaftlaw13_CeilAbove.f k a0 l1 = some true := by
  intro blocks l _ _
  refine Ev.rounds (g := fun k => camshaftlaw13_CeilAbove.f k blocks l) ?_
  unfold camshaftlaw13_CeilAbove.f
  refine Ev.bind (light_ev l) ?_
  cases hL : lightB l with
  | false =>
    simp only [Bool.false_eq_true, if_false]
    exact above_known blocks l
  | true =>
    obtain ⟨hm, hu⟩ := lightB_parts hL
    simp only [if_true]
    refine Ev.bind (right_ev blocks hm hu) ?_
    cases hk : ceilOk blocks l with
    | false => exact above_known blocks l
    | true =>
      have hp := ceilOk_parts hk
      refine Ev.step (f := fun k => (ceil_Ceilings.f k blocks l).bind fun t => if (t.length : Int) = blocks then camshaftlaw13_CeilAbove.l0 k l t 0 else some false) (fun k => ?_) ?_
      · simp only [camshaftlaw13_CeilAbove.j0, Bool.not_true, Bool.false_eq_true, if_false]
      · refine Ev.bind (ceilings_ev blocks hm hu) ?_
        simp only [hk, if_true, ceilingsP_length, if_pos (show (blocks.toNat : Int) = blocks by omega)]
        exact above_l0 blocks l hm hu hk l.length 0 (by omega) (by omega)
end Go.Proofs.Ytehmolbalfefjaa.Pure
