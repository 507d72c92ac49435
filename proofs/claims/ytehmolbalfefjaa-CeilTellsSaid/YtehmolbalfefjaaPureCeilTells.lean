/- CeilTells, plainly. -/
import Derived.Test.YtehmolbalfefjaaQCeil
namespace Go.Proofs.Ytehmolbalfefjaa.Pure
open Go.RowKit Go.Proofs.YtehmolbalfefjaaW.PrintWords Go.Proofs.YtehmolbalfefjaaW.PrintLast Go.Proofs.YtehmolbalfefjaaW.PrintMore Go.Proofs.YtehmolbalfefjaaH Go.Proofs.Ytehmolbalfefjaa.Q
theorem CeilTells : ∀ (a0 : Int) (l1 : List S37), ok3 a0 → ok22 l1 → ∃ k, camshaftlaw13_CeilTells.f k a0 l1 = some true := by
  intro blocks l _ _
  refine Ev.rounds (g := fun k => camshaftlaw13_CeilTells.f k blocks l) ?_
  unfold camshaftlaw13_CeilTells.f
  refine Ev.bind (light_ev l) ?_
  cases hL : lightB l with
  | false =>
    simp only [Bool.false_eq_true, if_false]
    exact Ev.bind known_ev (Ev.now _)
  | true =>
    obtain ⟨hm, hu⟩ := lightB_parts hL
    simp only [if_true]
    refine Ev.bind (right_ev blocks hm hu) ?_
    refine Ev.bind (plain_ev hm) ?_
    refine Ev.bind (rright_ev blocks hm hu) ?_
    simp only [beq_self_eq_true, if_true]
    refine Ev.bind (ceilings_ev blocks hm hu) ?_
    refine Ev.bind (plain_ev hm) ?_
    refine Ev.bind (rceilings_ev blocks hm hu) ?_
    refine Ev.bind (same_ev _ _ (ceilingsP_short blocks l)) ?_
    simp only [decide_true, if_true]
    refine Ev.bind (waits_ev blocks hm hu) ?_
    refine Ev.bind (plain_ev hm) ?_
    refine Ev.bind (rwaits_ev blocks hm hu) ?_
    refine Ev.bind (same_ev _ _ (waitsP_short blocks l)) ?_
    simp only [decide_true, if_true]
    exact Ev.bind known_ev (Ev.now _)
end Go.Proofs.Ytehmolbalfefjaa.Pure
