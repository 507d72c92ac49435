/- CheckLocked: for every input the call returns true, and each argument reads afterwards as it read before. No condition. -/
import Derived.Test.YtmacohlmfghffaaMB4
import Derived.Test.YtmacohlmfghffaaRows
import Derived.WalkKit
import Derived.ProofKit
import Derived.OpenShut
import Derived.ShutString
import Derived.ChangeOld
import Derived.Below
import Derived.SizedLaws
/- Plain: the steps of ways, by the program. -/
namespace Go.Proofs.Dk
open Go
set_option maxRecDepth 100000
set_option linter.unusedVariables false
set_option linter.unusedSimpArgs false
def bM (x y : Int) : Int := if y > x then y else x
def bL (x y : Int) : Int := if y < x then y else x
theorem bM_bet : Bet bM := fun x y => by
  unfold bM
  split
  · exact .inr rfl
  · exact .inl rfl
theorem bL_bet : Bet bL := fun x y => by
  unfold bL
  split
  · exact .inr rfl
  · exact .inl rfl
theorem costadd_is (n : Nat) {a b : Int} (h1 : -1 ≤ a) (h2 : a ≤ 1048577) (h3 : -1 ≤ b) (h4 : b ≤ 1048577) : cost_add.f n a b = some (addI a b) := by
  unfold cost_add.f addI
  rw [wrap_id (by omega) (by omega)]
structure LD (d : List Int) (D : Nat → Int) (a z : Nat) : Prop where
  len : d.length = z - a + 1
  at_ : ∀ k, a ≤ k → k ≤ z → d.getD (k - a) 0 = D k
theorem LD.put {d : List Int} {D : Nat → Int} {a z : Nat} (h : LD d D a z) (b : Int → Int → Int) {k : Nat} (hk : a ≤ k) (hk2 : k ≤ z) (v : Int) : LD (d.set (k - a) (if d.getD (k - a) 0 = -1 then v else b (d.getD (k - a) 0) v)) (putI b D k v) a z := by
  have hl := h.len
  refine ⟨by rw [List.length_set, hl], fun j h1 h2 => ?_⟩
  rw [getD_set (by omega), h.at_ k hk hk2]
  unfold putI
  by_cases e : j = k
  · subst e
    rw [if_pos rfl, if_pos rfl]
  · rw [if_neg (by omega), if_neg e, h.at_ j h1 h2]

theorem cost_most_is (n : Nat) (x y : Int) : cost_most.f n x y = some (bM x y) := rfl
theorem most_hand (n : Nat) {d : List Int} {k : Nat} (hk : k < d.length) (v : Int) {R : Type} (K : List Int → Option R) :
    (if (decide (0 ≤ (k : Int)) && decide ((k : Int) < (d.length : Int))) = true then (if (d.getD k 0 != (-1)) = true then ((cost_most.f n (d.getD k 0) v).bind fun y => if (decide (0 ≤ (k : Int)) && decide ((k : Int) < (d.length : Int))) = true then K (d.set k y) else none) else (if (decide (0 ≤ (k : Int)) && decide ((k : Int) < (d.length : Int))) = true then K (d.set k v) else none)) else none) = K (d.set k (if d.getD k 0 = -1 then v else bM (d.getD k 0) v)) := by
  simp only [if_pos (in_ix hk), cost_most_is, Option.bind_some]
  by_cases h : d.getD k 0 = -1
  · rw [if_neg (fun h2 => (bne_iff_ne.1 h2) h), if_pos h]
  · rw [if_pos (bne_iff_ne.2 h), if_neg h]
theorem cost_counter_loop_most_is (n : Nat) (W : ((((List (Int × (Int × Int))) × (List Int)) × Int × Int × Unit) × Unit) → Option Int) {l : List Ins} {m : List Int} (hl : l.length < 1000000) (hm : m.length = l.length) {i : Nat} (hi : i < l.length) {w : Int} (hj : m.getD i 0 = ((mN m i : Nat) : Int)) (hW : W (((l, m), ((i + 1 : Nat) : Int), ((mN m i : Nat) : Int), ()), ()) = some w) (hw : StepsI w) (hA : 1 ≤ argA l i ∧ argA l i ≤ 1000) : cost_counter_loop_most.f n W (l, m) (i : Int) = some (loopI w (argA l i)) := by
  unfold cost_counter_loop_most.f loopI
  simp only [Int.toNat_natCast, next_ix (show i < 1000000 by omega), if_pos (in_ix hi), if_pos (in_ix (show i < m.length by omega)), hj, hW, Option.bind_some]
  have hw2 : -1 ≤ w ∧ w ≤ 1048577 := by rcases hw with rfl | h <;> omega
  rw [costadd_is n hw2.1 hw2.2 (by decide) (by decide), Option.bind_some]
  have h1 : 0 ≤ addI w 1 ∧ addI w 1 ≤ 1048577 := by
    rcases hw with rfl | h
    · decide
    · exact addI_ok h.1 (by decide)
  generalize addI w 1 = x at h1 ⊢
  by_cases hx : x = 1048577
  · rw [if_pos (by simpa only [beq_iff_eq] using hx), if_pos hx]
  · rw [if_neg (by simpa only [beq_iff_eq] using hx), if_neg hx]
    unfold argA at hA ⊢
    generalize (l.getD i (0, 0, 0)).2.1 = A at hA ⊢
    have hb : 0 ≤ A * x ∧ A * x ≤ 1000 * 1048577 := ⟨Int.mul_nonneg (by omega) h1.1, Int.mul_le_mul hA.2 h1.2 h1.1 (by decide)⟩
    rw [wrap_id (e := A * x) (by omega) (by omega), wrap_id (by omega) (by omega)]
    rfl
theorem most_j1 (n : Nat) (W : ((((List (Int × (Int × Int))) × (List Int)) × Int × Int × Unit) × Unit) → Option Int) {l : List Ins} {m h : List Int} (hF : Fine l m h) {Wp : Nat → Nat → Int} {a z : Nat} (hR : Reg l m a z) {i : Nat} (hi : a ≤ i) (hi2 : i < z) (hW : opAt l i = 21 → W (((l, m), ((i + 1 : Nat) : Int), ((mN m i : Nat) : Int), ()), ()) = some (Wp (i + 1) (mN m i)) ∧ StepsI (Wp (i + 1) (mN m i))) {d : List Int} {D : Nat → Int} (hL : LD d D a z) (hD : ∀ k, StepsI (D k)) (zz : Int) :
    ∃ d', LD d' (stepW bM Wp l m i D) a z ∧ cost_counter_way_most.j1 n W zz (i : Int) l m (a : Int) d = some (zz, (i : Int), l, m, (a : Int), d') := by
  obtain ⟨l1, l2⟩ := hF.len
  have hlt := hR.lt
  have hdl := hL.len
  have hat := hL.at_ i hi (by omega)
  have hr := hF.right (show i < l.length by omega)
  have hm := hF.nest.hm
  unfold cost_counter_way_most.j1
  simp only [cut_ix hi (show i < 1000000 by omega), Int.toNat_natCast, next_ix (show i < 1000000 by omega), if_pos (in_ix (show i < l.length by omega)), if_pos (in_ix (show i < m.length by omega)), if_pos (in_ix (show i - a < d.length by omega)), cut_ix (show a ≤ i + 1 by omega) (show i + 1 < 1000000 by omega), hat]
  by_cases hn : D i = -1
  · refine ⟨d, ?_, ?_⟩
    · unfold stepW
      rw [if_pos hn]
      exact hL
    · rw [if_pos (by simpa only [beq_iff_eq] using hn)]
  · rw [if_neg (by simpa only [beq_iff_eq] using hn)]
    have hDi : 0 ≤ D i ∧ D i ≤ 1048577 := by
      rcases hD i with h1 | h1
      · exact absurd h1 hn
      · exact h1
    by_cases h21 : (l.getD i (0, 0, 0)).1 = 21
    · rw [if_pos (show ((l.getD i (0, 0, 0)).1 == 21) = true by simpa only [beq_iff_eq] using h21)]
      obtain ⟨j, j1, j2, j3⟩ := hR.loop i hi hi2 (isOpen_iff.2 (.inl h21))
      have hj : mN m i = j := by unfold mN; rw [j1]; rfl
      have hA : 1 ≤ argA l i ∧ argA l i ≤ 1000 := by
        unfold argA
        generalize l.getD i (0, 0, 0) = x at *
        obtain ⟨o, A, B⟩ := x
        simp only at h21
        subst h21
        exact right21 hr
      obtain ⟨w1, w2⟩ := hW h21
      have hc : costI Wp l m i = loopI (Wp (i + 1) (mN m i)) (argA l i) := by unfold costI; rw [if_pos h21]
      have hlo := loopI_ok w2 hA
      rw [cost_counter_loop_most_is n W (by omega) hm (by omega) (by rw [hj]; exact j1) w1 w2 hA, Option.bind_some, ← hc]
      rw [← hc] at hlo
      rw [costadd_is n (by omega) hDi.2 (by omega) hlo.2, Option.bind_some]
      simp only [j1, next_ix (show j < 1000000 by omega), cut_ix (show a ≤ j + 1 by omega) (show j + 1 < 1000000 by omega), Int.toNat_natCast]
      refine ⟨_, ?_, most_hand n (show j + 1 - a < d.length by omega) (addI (D i) (costI Wp l m i)) fun d' => some (zz, (i : Int), l, m, (a : Int), d')⟩
      have := hL.put bM (show a ≤ j + 1 by omega) (show j + 1 ≤ z by omega) (addI (D i) (costI Wp l m i))
      unfold stepW hopsI
      rw [if_neg hn, if_pos h21, hj]
      exact this
    · rw [if_neg (show ¬ ((l.getD i (0, 0, 0)).1 == 21) = true by simpa only [beq_iff_eq] using h21)]
      have hc : costI Wp l m i = 1 := by unfold costI; rw [if_neg h21]
      rw [costadd_is n (by omega) hDi.2 (by decide) (by decide)]
      simp only [Option.bind_some]
      by_cases h19 : (l.getD i (0, 0, 0)).1 = 19
      · rw [if_pos (show ((l.getD i (0, 0, 0)).1 == 19) = true by simpa only [beq_iff_eq] using h19)]
        have hjt := hR.jump i hi hi2 (.inl h19)
        have hji : i < jumpTo l i := by unfold jumpTo; omega
        simp only [jump_ix (show l.length < 1000000 by omega) (show i < l.length by omega) hr (.inl h19), cut_ix (show a ≤ jumpTo l i by omega) (show jumpTo l i < 1000000 by omega), Int.toNat_natCast]
        refine ⟨_, ?_, most_hand n (show jumpTo l i - a < d.length by omega) (addI (D i) 1) fun d' => some (zz, (i : Int), l, m, (a : Int), d')⟩
        have := hL.put bM (show a ≤ jumpTo l i by omega) hjt (addI (D i) 1)
        unfold stepW hopsI
        rw [if_neg hn, if_neg h21, if_pos h19, hc]
        exact this
      · rw [if_neg (show ¬ ((l.getD i (0, 0, 0)).1 == 19) = true by simpa only [beq_iff_eq] using h19)]
        by_cases h20 : (l.getD i (0, 0, 0)).1 = 20
        · rw [if_pos (show ((l.getD i (0, 0, 0)).1 == 20) = true by simpa only [beq_iff_eq] using h20)]
          have hjt := hR.jump i hi hi2 (.inr h20)
          have hji : i < jumpTo l i := by unfold jumpTo; omega
          simp only [jump_ix (show l.length < 1000000 by omega) (show i < l.length by omega) hr (.inr h20), cut_ix (show a ≤ jumpTo l i by omega) (show jumpTo l i < 1000000 by omega), Int.toNat_natCast]
          have h1 := hL.put bM (show a ≤ jumpTo l i by omega) hjt (addI (D i) 1)
          have h2 := h1.put bM (show a ≤ i + 1 by omega) (show i + 1 ≤ z by omega) (addI (D i) 1)
          refine ⟨_, ?_, (most_hand n (show jumpTo l i - a < d.length by omega) (addI (D i) 1) fun d1 => (if (decide (0 ≤ ((i + 1 - a : Nat) : Int)) && decide (((i + 1 - a : Nat) : Int) < (d1.length : Int))) = true then (if (d1.getD (i + 1 - a) 0 != (-1)) = true then ((cost_most.f n (d1.getD (i + 1 - a) 0) (addI (D i) 1)).bind fun y => if (decide (0 ≤ ((i + 1 - a : Nat) : Int)) && decide (((i + 1 - a : Nat) : Int) < (d1.length : Int))) = true then some (zz, (i : Int), l, m, (a : Int), d1.set (i + 1 - a) y) else none) else (if (decide (0 ≤ ((i + 1 - a : Nat) : Int)) && decide (((i + 1 - a : Nat) : Int) < (d1.length : Int))) = true then some (zz, (i : Int), l, m, (a : Int), d1.set (i + 1 - a) (addI (D i) 1)) else none)) else none)).trans (most_hand n (by rw [List.length_set]; omega) (addI (D i) 1) fun d' => some (zz, (i : Int), l, m, (a : Int), d'))⟩
          unfold stepW hopsI
          rw [if_neg hn, if_neg h21, if_neg h19, if_pos h20, hc]
          exact h2
        · rw [if_neg (show ¬ ((l.getD i (0, 0, 0)).1 == 20) = true by simpa only [beq_iff_eq] using h20)]
          refine ⟨_, ?_, most_hand n (show i + 1 - a < d.length by omega) (addI (D i) 1) fun d' => some (zz, (i : Int), l, m, (a : Int), d')⟩
          have := hL.put bM (show a ≤ i + 1 by omega) (show i + 1 ≤ z by omega) (addI (D i) 1)
          unfold stepW hopsI
          rw [if_neg hn, if_neg h21, if_neg h19, if_neg h20, hc]
          exact this

theorem cost_Sections_1_is (n : Nat) (x y : Int) : cost_Sections_1.f n x y = some (bM x y) := rfl
theorem sect_hand (n : Nat) {d : List Int} {k : Nat} (hk : k < d.length) (v : Int) {R : Type} (K : List Int → Option R) :
    (if (decide (0 ≤ (k : Int)) && decide ((k : Int) < (d.length : Int))) = true then (if (d.getD k 0 != (-1)) = true then ((cost_Sections_1.f n (d.getD k 0) v).bind fun y => if (decide (0 ≤ (k : Int)) && decide ((k : Int) < (d.length : Int))) = true then K (d.set k y) else none) else (if (decide (0 ≤ (k : Int)) && decide ((k : Int) < (d.length : Int))) = true then K (d.set k v) else none)) else none) = K (d.set k (if d.getD k 0 = -1 then v else bM (d.getD k 0) v)) := by
  simp only [if_pos (in_ix hk), cost_Sections_1_is, Option.bind_some]
  by_cases h : d.getD k 0 = -1
  · rw [if_neg (fun h2 => (bne_iff_ne.1 h2) h), if_pos h]
  · rw [if_pos (bne_iff_ne.2 h), if_neg h]
theorem cost_counter_loop_1_is (n : Nat) (W : ((((List (Int × (Int × Int))) × (List Int)) × Int × Int × Unit) × Unit) → Option Int) {l : List Ins} {m : List Int} (hl : l.length < 1000000) (hm : m.length = l.length) {i : Nat} (hi : i < l.length) {w : Int} (hj : m.getD i 0 = ((mN m i : Nat) : Int)) (hW : W (((l, m), ((i + 1 : Nat) : Int), ((mN m i : Nat) : Int), ()), ()) = some w) (hw : StepsI w) (hA : 1 ≤ argA l i ∧ argA l i ≤ 1000) : cost_counter_loop_1.f n W (l, m) (i : Int) = some (loopI w (argA l i)) := by
  unfold cost_counter_loop_1.f loopI
  simp only [Int.toNat_natCast, next_ix (show i < 1000000 by omega), if_pos (in_ix hi), if_pos (in_ix (show i < m.length by omega)), hj, hW, Option.bind_some]
  have hw2 : -1 ≤ w ∧ w ≤ 1048577 := by rcases hw with rfl | h <;> omega
  rw [costadd_is n hw2.1 hw2.2 (by decide) (by decide), Option.bind_some]
  have h1 : 0 ≤ addI w 1 ∧ addI w 1 ≤ 1048577 := by
    rcases hw with rfl | h
    · decide
    · exact addI_ok h.1 (by decide)
  generalize addI w 1 = x at h1 ⊢
  by_cases hx : x = 1048577
  · rw [if_pos (by simpa only [beq_iff_eq] using hx), if_pos hx]
  · rw [if_neg (by simpa only [beq_iff_eq] using hx), if_neg hx]
    unfold argA at hA ⊢
    generalize (l.getD i (0, 0, 0)).2.1 = A at hA ⊢
    have hb : 0 ≤ A * x ∧ A * x ≤ 1000 * 1048577 := ⟨Int.mul_nonneg (by omega) h1.1, Int.mul_le_mul hA.2 h1.2 h1.1 (by decide)⟩
    rw [wrap_id (e := A * x) (by omega) (by omega), wrap_id (by omega) (by omega)]
    rfl
theorem sect_j1 (n : Nat) (W : ((((List (Int × (Int × Int))) × (List Int)) × Int × Int × Unit) × Unit) → Option Int) {l : List Ins} {m h : List Int} (hF : Fine l m h) {Wp : Nat → Nat → Int} {a z : Nat} (hR : Reg l m a z) {i : Nat} (hi : a ≤ i) (hi2 : i < z) (hW : opAt l i = 21 → W (((l, m), ((i + 1 : Nat) : Int), ((mN m i : Nat) : Int), ()), ()) = some (Wp (i + 1) (mN m i)) ∧ StepsI (Wp (i + 1) (mN m i))) {d : List Int} {D : Nat → Int} (hL : LD d D a z) (hD : ∀ k, StepsI (D k)) (zz : Int) :
    ∃ d', LD d' (stepW bM Wp l m i D) a z ∧ cost_counter_way_1.j1 n W zz (i : Int) l m (a : Int) d = some (zz, (i : Int), l, m, (a : Int), d') := by
  obtain ⟨l1, l2⟩ := hF.len
  have hlt := hR.lt
  have hdl := hL.len
  have hat := hL.at_ i hi (by omega)
  have hr := hF.right (show i < l.length by omega)
  have hm := hF.nest.hm
  unfold cost_counter_way_1.j1
  simp only [cut_ix hi (show i < 1000000 by omega), Int.toNat_natCast, next_ix (show i < 1000000 by omega), if_pos (in_ix (show i < l.length by omega)), if_pos (in_ix (show i < m.length by omega)), if_pos (in_ix (show i - a < d.length by omega)), cut_ix (show a ≤ i + 1 by omega) (show i + 1 < 1000000 by omega), hat]
  by_cases hn : D i = -1
  · refine ⟨d, ?_, ?_⟩
    · unfold stepW
      rw [if_pos hn]
      exact hL
    · rw [if_pos (by simpa only [beq_iff_eq] using hn)]
  · rw [if_neg (by simpa only [beq_iff_eq] using hn)]
    have hDi : 0 ≤ D i ∧ D i ≤ 1048577 := by
      rcases hD i with h1 | h1
      · exact absurd h1 hn
      · exact h1
    by_cases h21 : (l.getD i (0, 0, 0)).1 = 21
    · rw [if_pos (show ((l.getD i (0, 0, 0)).1 == 21) = true by simpa only [beq_iff_eq] using h21)]
      obtain ⟨j, j1, j2, j3⟩ := hR.loop i hi hi2 (isOpen_iff.2 (.inl h21))
      have hj : mN m i = j := by unfold mN; rw [j1]; rfl
      have hA : 1 ≤ argA l i ∧ argA l i ≤ 1000 := by
        unfold argA
        generalize l.getD i (0, 0, 0) = x at *
        obtain ⟨o, A, B⟩ := x
        simp only at h21
        subst h21
        exact right21 hr
      obtain ⟨w1, w2⟩ := hW h21
      have hc : costI Wp l m i = loopI (Wp (i + 1) (mN m i)) (argA l i) := by unfold costI; rw [if_pos h21]
      have hlo := loopI_ok w2 hA
      rw [cost_counter_loop_1_is n W (by omega) hm (by omega) (by rw [hj]; exact j1) w1 w2 hA, Option.bind_some, ← hc]
      rw [← hc] at hlo
      rw [costadd_is n (by omega) hDi.2 (by omega) hlo.2, Option.bind_some]
      simp only [j1, next_ix (show j < 1000000 by omega), cut_ix (show a ≤ j + 1 by omega) (show j + 1 < 1000000 by omega), Int.toNat_natCast]
      refine ⟨_, ?_, sect_hand n (show j + 1 - a < d.length by omega) (addI (D i) (costI Wp l m i)) fun d' => some (zz, (i : Int), l, m, (a : Int), d')⟩
      have := hL.put bM (show a ≤ j + 1 by omega) (show j + 1 ≤ z by omega) (addI (D i) (costI Wp l m i))
      unfold stepW hopsI
      rw [if_neg hn, if_pos h21, hj]
      exact this
    · rw [if_neg (show ¬ ((l.getD i (0, 0, 0)).1 == 21) = true by simpa only [beq_iff_eq] using h21)]
      have hc : costI Wp l m i = 1 := by unfold costI; rw [if_neg h21]
      rw [costadd_is n (by omega) hDi.2 (by decide) (by decide)]
      simp only [Option.bind_some]
      by_cases h19 : (l.getD i (0, 0, 0)).1 = 19
      · rw [if_pos (show ((l.getD i (0, 0, 0)).1 == 19) = true by simpa only [beq_iff_eq] using h19)]
        have hjt := hR.jump i hi hi2 (.inl h19)
        have hji : i < jumpTo l i := by unfold jumpTo; omega
        simp only [jump_ix (show l.length < 1000000 by omega) (show i < l.length by omega) hr (.inl h19), cut_ix (show a ≤ jumpTo l i by omega) (show jumpTo l i < 1000000 by omega), Int.toNat_natCast]
        refine ⟨_, ?_, sect_hand n (show jumpTo l i - a < d.length by omega) (addI (D i) 1) fun d' => some (zz, (i : Int), l, m, (a : Int), d')⟩
        have := hL.put bM (show a ≤ jumpTo l i by omega) hjt (addI (D i) 1)
        unfold stepW hopsI
        rw [if_neg hn, if_neg h21, if_pos h19, hc]
        exact this
      · rw [if_neg (show ¬ ((l.getD i (0, 0, 0)).1 == 19) = true by simpa only [beq_iff_eq] using h19)]
        by_cases h20 : (l.getD i (0, 0, 0)).1 = 20
        · rw [if_pos (show ((l.getD i (0, 0, 0)).1 == 20) = true by simpa only [beq_iff_eq] using h20)]
          have hjt := hR.jump i hi hi2 (.inr h20)
          have hji : i < jumpTo l i := by unfold jumpTo; omega
          simp only [jump_ix (show l.length < 1000000 by omega) (show i < l.length by omega) hr (.inr h20), cut_ix (show a ≤ jumpTo l i by omega) (show jumpTo l i < 1000000 by omega), Int.toNat_natCast]
          have h1 := hL.put bM (show a ≤ jumpTo l i by omega) hjt (addI (D i) 1)
          have h2 := h1.put bM (show a ≤ i + 1 by omega) (show i + 1 ≤ z by omega) (addI (D i) 1)
          refine ⟨_, ?_, (sect_hand n (show jumpTo l i - a < d.length by omega) (addI (D i) 1) fun d1 => (if (decide (0 ≤ ((i + 1 - a : Nat) : Int)) && decide (((i + 1 - a : Nat) : Int) < (d1.length : Int))) = true then (if (d1.getD (i + 1 - a) 0 != (-1)) = true then ((cost_Sections_1.f n (d1.getD (i + 1 - a) 0) (addI (D i) 1)).bind fun y => if (decide (0 ≤ ((i + 1 - a : Nat) : Int)) && decide (((i + 1 - a : Nat) : Int) < (d1.length : Int))) = true then some (zz, (i : Int), l, m, (a : Int), d1.set (i + 1 - a) y) else none) else (if (decide (0 ≤ ((i + 1 - a : Nat) : Int)) && decide (((i + 1 - a : Nat) : Int) < (d1.length : Int))) = true then some (zz, (i : Int), l, m, (a : Int), d1.set (i + 1 - a) (addI (D i) 1)) else none)) else none)).trans (sect_hand n (by rw [List.length_set]; omega) (addI (D i) 1) fun d' => some (zz, (i : Int), l, m, (a : Int), d'))⟩
          unfold stepW hopsI
          rw [if_neg hn, if_neg h21, if_neg h19, if_pos h20, hc]
          exact h2
        · rw [if_neg (show ¬ ((l.getD i (0, 0, 0)).1 == 20) = true by simpa only [beq_iff_eq] using h20)]
          refine ⟨_, ?_, sect_hand n (show i + 1 - a < d.length by omega) (addI (D i) 1) fun d' => some (zz, (i : Int), l, m, (a : Int), d')⟩
          have := hL.put bM (show a ≤ i + 1 by omega) (show i + 1 ≤ z by omega) (addI (D i) 1)
          unfold stepW hopsI
          rw [if_neg hn, if_neg h21, if_neg h19, if_neg h20, hc]
          exact this
end Go.Proofs.Dk

/- Plain: the steps of ways, by the program, on. -/
namespace Go.Proofs.Dk
open Go
set_option maxRecDepth 100000
set_option linter.unusedVariables false
set_option linter.unusedSimpArgs false
def fillI (d : List Int) : Nat → Nat → List Int
  | 0, _ => d
  | r + 1, k => fillI (d.set (k + 1) (-1)) r (k + 1)
theorem fill_len : ∀ (r k : Nat) {d : List Int}, (fillI d r k).length = d.length
  | 0, k, d => rfl
  | r + 1, k, d => (fill_len r (k + 1)).trans (List.length_set ..)
theorem fill_at : ∀ (r k : Nat) {d : List Int} (j : Nat), k + r < d.length → (fillI d r k).getD j 0 = if k < j ∧ j ≤ k + r then -1 else d.getD j 0
  | 0, k, d, j, h => by rw [if_neg (by omega)]; rfl
  | r + 1, k, d, j, h => by
    rw [show fillI d (r + 1) k = fillI (d.set (k + 1) (-1)) r (k + 1) from rfl, fill_at r (k + 1) j (by rw [List.length_set]; omega), getD_set (by omega)]
    by_cases h1 : k + 1 < j ∧ j ≤ k + 1 + r
    · rw [if_pos h1, if_pos (by omega)]
    · rw [if_neg h1]
      by_cases h2 : j = k + 1
      · rw [if_pos h2, if_pos (by omega)]
      · rw [if_neg h2, if_neg (by omega)]
theorem fill_start {a z : Nat} (h : a ≤ z) : LD (fillI (List.replicate (z - a + 1) 0) (z - a) 0) (startW a) a z := by
  refine ⟨by rw [fill_len, List.length_replicate], fun k h1 h2 => ?_⟩
  rw [fill_at _ _ _ (by rw [List.length_replicate]; omega)]
  unfold startW
  by_cases e : k = a
  · subst e
    rw [if_neg (by omega), if_pos rfl, Nat.sub_self]
    rfl
  · rw [if_pos (by omega), if_neg e]
theorem isub_ix {a z : Nat} (h : a ≤ z) (hz : z < 1000000) : IntKind.wrap .i64 (IntKind.wrap .i64 ((z : Int) - (a : Int)) + 1) = ((z - a + 1 : Nat) : Int) := by
  rw [cut_ix h hz, next_ix (by omega)]

theorem most_fill (n : Nat) (W : ((((List (Int × (Int × Int))) × (List Int)) × Int × Int × Unit) × Unit) → Option Int) {l : List Ins} {m : List Int} {zz aa : Int} {c : Nat} (hc : c < 1000000) : ∀ (f k : Nat) {d : List Int}, d.length = c + 1 → k ≤ c → c < f + k →
    it (fun F (x : Int × Int × Int × (List (Int × (Int × Int))) × (List Int) × Int × (List Int)) => cost_counter_way_most.b0 n W F x.1 x.2.1 x.2.2.1 x.2.2.2.1 x.2.2.2.2.1 x.2.2.2.2.2.1 x.2.2.2.2.2.2) f (zz, (c : Int), (k : Int), l, m, aa, d) = some (zz, l, m, aa, fillI d (c - k) k)
  | 0, k, d, hd, hk, hf => by omega
  | f + 1, k, d, hd, hk, hf => by
    have ih := fun {d : List Int} => most_fill n W (l := l) (m := m) (zz := zz) (aa := aa) hc f (k + 1) (d := d)
    show cost_counter_way_most.b0 n W (it _ f) zz (c : Int) (k : Int) l m aa d = _
    generalize it (fun F (x : Int × Int × Int × (List (Int × (Int × Int))) × (List Int) × Int × (List Int)) => cost_counter_way_most.b0 n W F x.1 x.2.1 x.2.2.1 x.2.2.2.1 x.2.2.2.2.1 x.2.2.2.2.2.1 x.2.2.2.2.2.2) f = F at ih ⊢
    unfold cost_counter_way_most.b0
    rcases Nat.lt_or_ge k c with hlt | hge
    · rw [if_pos (decide_eq_true (by omega)), next_ix (by omega), if_pos (in_ix (by omega)), Int.toNat_natCast, ih (by rw [List.length_set, hd]) (by omega) (by omega), show c - k = (c - (k + 1)) + 1 by omega]
      rfl
    · have : k = c := by omega
      subst this
      rw [if_neg (by simp), Nat.sub_self]
      rfl
theorem most_run (n : Nat) (W : ((((List (Int × (Int × Int))) × (List Int)) × Int × Int × Unit) × Unit) → Option Int) {l : List Ins} {m h : List Int} (hF : Fine l m h) {Wp : Nat → Nat → Int} {a z : Nat} (hR : Reg l m a z) (hW : ∀ i, a ≤ i → i < z → opAt l i = 21 → W (((l, m), ((i + 1 : Nat) : Int), ((mN m i : Nat) : Int), ()), ()) = some (Wp (i + 1) (mN m i)) ∧ StepsI (Wp (i + 1) (mN m i))) : ∀ (f i : Nat) {d : List Int} {D : Nat → Int}, LD d D a z → (∀ k, StepsI (D k)) → a ≤ i → i ≤ z → z < f + i → ∃ d', LD d' (runW bM Wp l m (z - i) i D) a z ∧
    it (fun F (x : Int × Int × (List (Int × (Int × Int))) × (List Int) × Int × (List Int)) => cost_counter_way_most.b2 n W F x.1 x.2.1 x.2.2.1 x.2.2.2.1 x.2.2.2.2.1 x.2.2.2.2.2) f ((z : Int), (i : Int), l, m, (a : Int), d) = some ((z : Int), l, m, (a : Int), d')
  | 0, i, d, D, hL, hD, h1, h2, hf => by omega
  | f + 1, i, d, D, hL, hD, h1, h2, hf => by
    have ih := fun {d : List Int} {D : Nat → Int} => most_run n W hF hR hW f (i + 1) (d := d) (D := D)
    show ∃ d', _ ∧ cost_counter_way_most.b2 n W (it _ f) (z : Int) (i : Int) l m (a : Int) d = _
    generalize it (fun F (x : Int × Int × (List (Int × (Int × Int))) × (List Int) × Int × (List Int)) => cost_counter_way_most.b2 n W F x.1 x.2.1 x.2.2.1 x.2.2.2.1 x.2.2.2.2.1 x.2.2.2.2.2) f = F at ih ⊢
    obtain ⟨l1, l2⟩ := hF.len
    have hlt := hR.lt
    unfold cost_counter_way_most.b2
    rcases Nat.lt_or_ge i z with hiz | hge
    · obtain ⟨d1, k1, k2⟩ := most_j1 n W hF hR h1 hiz (hW i h1 hiz) hL hD (z : Int)
      rw [if_pos (decide_eq_true (by omega)), k2, Option.bind_some]
      simp only
      rw [next_ix (by omega), show z - i = (z - (i + 1)) + 1 by omega]
      exact ih k1 (stepW_ok bM_bet hD (hF.right (by omega)) fun h => (hW i h1 hiz h).2) (by omega) (by omega) (by omega)
    · have : i = z := by omega
      subst this
      rw [if_neg (by simp), Nat.sub_self]
      exact ⟨d, hL, rfl⟩
theorem most_s (n : Nat) (W : ((((List (Int × (Int × Int))) × (List Int)) × Int × Int × Unit) × Unit) → Option Int) {l : List Ins} {m h : List Int} (hF : Fine l m h) (hn : l.length < n) {Wp : Nat → Nat → Int} {a z : Nat} (hR : Reg l m a z) (hW : ∀ i, a ≤ i → i < z → opAt l i = 21 → W (((l, m), ((i + 1 : Nat) : Int), ((mN m i : Nat) : Int), ()), ()) = some (Wp (i + 1) (mN m i)) ∧ StepsI (Wp (i + 1) (mN m i))) :
    cost_counter_way_most.s n W (l, m) (a : Int) (z : Int) = some (runW bM Wp l m (z - a) a (startW a) z) := by
  obtain ⟨l1, l2⟩ := hF.len
  have hle := hR.le
  have hlt := hR.lt
  unfold cost_counter_way_most.s cost_counter_way_most.b0.l cost_counter_way_most.b2.l
  have c1 : (decide (0 ≤ ((z - a + 1 : Nat) : Int)) && (((z - a + 1 : Nat) : Int) == ((z - a + 1 : Nat) : Int)) && decide (((z - a + 1 : Nat) : Int) * (8 : Int) ≤ 140737488355328) && decide (1 ≤ 8)) = true := by simp; omega
  have c2 : (decide (0 ≤ 1) && decide (1 ≤ ((z - a + 1 : Nat) : Int))) = true := by simp; omega
  simp only [isub_ix hle (show z < 1000000 by omega), Int.toNat_natCast, List.length_replicate, Nat.add_sub_cancel]
  have h0 := most_fill n W (l := l) (m := m) (zz := (z : Int)) (aa := (a : Int)) (c := z - a) (by omega) n 0 (d := List.replicate (z - a + 1) 0) (by rw [List.length_replicate]) (Nat.zero_le _) (by omega)
  rw [show ((0 : Nat) : Int) = 0 from rfl, Nat.sub_zero] at h0
  obtain ⟨d', k1, k2⟩ := most_run n W hF hR hW n a (fill_start hle) (startW_ok a) (Nat.le_refl _) hle (by omega)
  rw [if_pos c1, if_pos c2, h0, Option.bind_some]
  simp only
  rw [k2, Option.bind_some]
  simp only [cut_ix hle (show z < 1000000 by omega), Int.toNat_natCast]
  rw [if_pos (in_ix (by rw [k1.len]; omega)), k1.at_ z hle (Nat.le_refl _)]
theorem most_it (n : Nat) {l : List Ins} {m h : List Int} (hF : Fine l m h) (hn : l.length < n) : ∀ (g : Nat) {a z : Nat}, Reg l m a z → z - a < g →
    it (fun (W : ((((List (Int × (Int × Int))) × (List Int)) × Int × Int × Unit) × Unit) → Option Int) x => cost_counter_way_most.s n W x.1.1 x.1.2.1 x.1.2.2.1) g (((l, m), (a : Int), (z : Int), ()), ()) = some (wayF bM l m g a z)
  | 0, a, z, hR, hg => by omega
  | g + 1, a, z, hR, hg => by
    have hlt := hR.lt
    have ih := fun {a z : Nat} => most_it n hF hn g (a := a) (z := z)
    show cost_counter_way_most.s n (it _ g) (l, m) (a : Int) (z : Int) = _
    refine most_s n _ hF hn hR fun i h1 h2 h3 => ?_
    have ho := isOpen_iff.2 (Or.inl (b := opAt l i = 23) h3)
    have hRi := hF.reg (show i < l.length by omega) ho
    obtain ⟨j, j1, j2, j3⟩ := hR.loop i h1 h2 ho
    have hj : mN m i = j := by unfold mN; rw [j1]; rfl
    exact ⟨ih hRi (by omega), wayF_ok bM_bet hF g hRi⟩
theorem most_is (n : Nat) {l : List Ins} {m h : List Int} (hF : Fine l m h) (hn : l.length < n) {a z : Nat} (hR : Reg l m a z) : cost_counter_way_most.f n (l, m) (a : Int) (z : Int) = some (wayF bM l m n a z) := by
  have := hR.lt
  exact most_it n hF hn n hR (by omega)

theorem sect_fill (n : Nat) (W : ((((List (Int × (Int × Int))) × (List Int)) × Int × Int × Unit) × Unit) → Option Int) {l : List Ins} {m : List Int} {zz aa : Int} {c : Nat} (hc : c < 1000000) : ∀ (f k : Nat) {d : List Int}, d.length = c + 1 → k ≤ c → c < f + k →
    it (fun F (x : Int × Int × Int × (List (Int × (Int × Int))) × (List Int) × Int × (List Int)) => cost_counter_way_1.b0 n W F x.1 x.2.1 x.2.2.1 x.2.2.2.1 x.2.2.2.2.1 x.2.2.2.2.2.1 x.2.2.2.2.2.2) f (zz, (c : Int), (k : Int), l, m, aa, d) = some (zz, l, m, aa, fillI d (c - k) k)
  | 0, k, d, hd, hk, hf => by omega
  | f + 1, k, d, hd, hk, hf => by
    have ih := fun {d : List Int} => sect_fill n W (l := l) (m := m) (zz := zz) (aa := aa) hc f (k + 1) (d := d)
    show cost_counter_way_1.b0 n W (it _ f) zz (c : Int) (k : Int) l m aa d = _
    generalize it (fun F (x : Int × Int × Int × (List (Int × (Int × Int))) × (List Int) × Int × (List Int)) => cost_counter_way_1.b0 n W F x.1 x.2.1 x.2.2.1 x.2.2.2.1 x.2.2.2.2.1 x.2.2.2.2.2.1 x.2.2.2.2.2.2) f = F at ih ⊢
    unfold cost_counter_way_1.b0
    rcases Nat.lt_or_ge k c with hlt | hge
    · rw [if_pos (decide_eq_true (by omega)), next_ix (by omega), if_pos (in_ix (by omega)), Int.toNat_natCast, ih (by rw [List.length_set, hd]) (by omega) (by omega), show c - k = (c - (k + 1)) + 1 by omega]
      rfl
    · have : k = c := by omega
      subst this
      rw [if_neg (by simp), Nat.sub_self]
      rfl
theorem sect_run (n : Nat) (W : ((((List (Int × (Int × Int))) × (List Int)) × Int × Int × Unit) × Unit) → Option Int) {l : List Ins} {m h : List Int} (hF : Fine l m h) {Wp : Nat → Nat → Int} {a z : Nat} (hR : Reg l m a z) (hW : ∀ i, a ≤ i → i < z → opAt l i = 21 → W (((l, m), ((i + 1 : Nat) : Int), ((mN m i : Nat) : Int), ()), ()) = some (Wp (i + 1) (mN m i)) ∧ StepsI (Wp (i + 1) (mN m i))) : ∀ (f i : Nat) {d : List Int} {D : Nat → Int}, LD d D a z → (∀ k, StepsI (D k)) → a ≤ i → i ≤ z → z < f + i → ∃ d', LD d' (runW bM Wp l m (z - i) i D) a z ∧
    it (fun F (x : Int × Int × (List (Int × (Int × Int))) × (List Int) × Int × (List Int)) => cost_counter_way_1.b2 n W F x.1 x.2.1 x.2.2.1 x.2.2.2.1 x.2.2.2.2.1 x.2.2.2.2.2) f ((z : Int), (i : Int), l, m, (a : Int), d) = some ((z : Int), l, m, (a : Int), d')
  | 0, i, d, D, hL, hD, h1, h2, hf => by omega
  | f + 1, i, d, D, hL, hD, h1, h2, hf => by
    have ih := fun {d : List Int} {D : Nat → Int} => sect_run n W hF hR hW f (i + 1) (d := d) (D := D)
    show ∃ d', _ ∧ cost_counter_way_1.b2 n W (it _ f) (z : Int) (i : Int) l m (a : Int) d = _
    generalize it (fun F (x : Int × Int × (List (Int × (Int × Int))) × (List Int) × Int × (List Int)) => cost_counter_way_1.b2 n W F x.1 x.2.1 x.2.2.1 x.2.2.2.1 x.2.2.2.2.1 x.2.2.2.2.2) f = F at ih ⊢
    obtain ⟨l1, l2⟩ := hF.len
    have hlt := hR.lt
    unfold cost_counter_way_1.b2
    rcases Nat.lt_or_ge i z with hiz | hge
    · obtain ⟨d1, k1, k2⟩ := sect_j1 n W hF hR h1 hiz (hW i h1 hiz) hL hD (z : Int)
      rw [if_pos (decide_eq_true (by omega)), k2, Option.bind_some]
      simp only
      rw [next_ix (by omega), show z - i = (z - (i + 1)) + 1 by omega]
      exact ih k1 (stepW_ok bM_bet hD (hF.right (by omega)) fun h => (hW i h1 hiz h).2) (by omega) (by omega) (by omega)
    · have : i = z := by omega
      subst this
      rw [if_neg (by simp), Nat.sub_self]
      exact ⟨d, hL, rfl⟩
theorem sect_s (n : Nat) (W : ((((List (Int × (Int × Int))) × (List Int)) × Int × Int × Unit) × Unit) → Option Int) {l : List Ins} {m h : List Int} (hF : Fine l m h) (hn : l.length < n) {Wp : Nat → Nat → Int} {a z : Nat} (hR : Reg l m a z) (hW : ∀ i, a ≤ i → i < z → opAt l i = 21 → W (((l, m), ((i + 1 : Nat) : Int), ((mN m i : Nat) : Int), ()), ()) = some (Wp (i + 1) (mN m i)) ∧ StepsI (Wp (i + 1) (mN m i))) :
    cost_counter_way_1.s n W (l, m) (a : Int) (z : Int) = some (runW bM Wp l m (z - a) a (startW a) z) := by
  obtain ⟨l1, l2⟩ := hF.len
  have hle := hR.le
  have hlt := hR.lt
  unfold cost_counter_way_1.s cost_counter_way_1.b0.l cost_counter_way_1.b2.l
  have c1 : (decide (0 ≤ ((z - a + 1 : Nat) : Int)) && (((z - a + 1 : Nat) : Int) == ((z - a + 1 : Nat) : Int)) && decide (((z - a + 1 : Nat) : Int) * (8 : Int) ≤ 140737488355328) && decide (1 ≤ 8)) = true := by simp; omega
  have c2 : (decide (0 ≤ 1) && decide (1 ≤ ((z - a + 1 : Nat) : Int))) = true := by simp; omega
  simp only [isub_ix hle (show z < 1000000 by omega), Int.toNat_natCast, List.length_replicate, Nat.add_sub_cancel]
  have h0 := sect_fill n W (l := l) (m := m) (zz := (z : Int)) (aa := (a : Int)) (c := z - a) (by omega) n 0 (d := List.replicate (z - a + 1) 0) (by rw [List.length_replicate]) (Nat.zero_le _) (by omega)
  rw [show ((0 : Nat) : Int) = 0 from rfl, Nat.sub_zero] at h0
  obtain ⟨d', k1, k2⟩ := sect_run n W hF hR hW n a (fill_start hle) (startW_ok a) (Nat.le_refl _) hle (by omega)
  rw [if_pos c1, if_pos c2, h0, Option.bind_some]
  simp only
  rw [k2, Option.bind_some]
  simp only [cut_ix hle (show z < 1000000 by omega), Int.toNat_natCast]
  rw [if_pos (in_ix (by rw [k1.len]; omega)), k1.at_ z hle (Nat.le_refl _)]
theorem sect_it (n : Nat) {l : List Ins} {m h : List Int} (hF : Fine l m h) (hn : l.length < n) : ∀ (g : Nat) {a z : Nat}, Reg l m a z → z - a < g →
    it (fun (W : ((((List (Int × (Int × Int))) × (List Int)) × Int × Int × Unit) × Unit) → Option Int) x => cost_counter_way_1.s n W x.1.1 x.1.2.1 x.1.2.2.1) g (((l, m), (a : Int), (z : Int), ()), ()) = some (wayF bM l m g a z)
  | 0, a, z, hR, hg => by omega
  | g + 1, a, z, hR, hg => by
    have hlt := hR.lt
    have ih := fun {a z : Nat} => sect_it n hF hn g (a := a) (z := z)
    show cost_counter_way_1.s n (it _ g) (l, m) (a : Int) (z : Int) = _
    refine sect_s n _ hF hn hR fun i h1 h2 h3 => ?_
    have ho := isOpen_iff.2 (Or.inl (b := opAt l i = 23) h3)
    have hRi := hF.reg (show i < l.length by omega) ho
    obtain ⟨j, j1, j2, j3⟩ := hR.loop i h1 h2 ho
    have hj : mN m i = j := by unfold mN; rw [j1]; rfl
    exact ⟨ih hRi (by omega), wayF_ok bM_bet hF g hRi⟩
theorem sect_is (n : Nat) {l : List Ins} {m h : List Int} (hF : Fine l m h) (hn : l.length < n) {a z : Nat} (hR : Reg l m a z) : cost_counter_way_1.f n (l, m) (a : Int) (z : Int) = some (wayF bM l m n a z) := by
  have := hR.lt
  exact sect_it n hF hn n hR (by omega)
end Go.Proofs.Dk

/- Plain: each instruction can be reached. -/
namespace Go.Proofs.Dk
open Go
set_option maxRecDepth 100000
set_option linter.unusedVariables false
set_option linter.unusedSimpArgs false
theorem least_of {P : Nat → Prop} : ∀ {n : Nat}, P n → ∃ k, k ≤ n ∧ P k ∧ ∀ j, j < k → ¬ P j := by
  intro n
  induction n using Nat.strongRecOn with
  | _ n ih =>
    intro hn
    by_cases h : ∃ j, j < n ∧ P j
    · obtain ⟨j, j1, j2⟩ := h
      obtain ⟨k, k1, k2, k3⟩ := ih j j1 j2
      exact ⟨k, by omega, k2, k3⟩
    · exact ⟨n, Nat.le_refl _, hn, fun j hj hp => h ⟨j, hj, hp⟩⟩
theorem set_true {s : List Bool} {q k : Nat} (h : (s.set q true).getD k false = true) : s.getD k false = true ∨ k = q := by
  by_cases e : k = q
  · exact .inr e
  · refine .inl ?_
    rw [List.getD_eq_getElem?_getD, List.getElem?_set_ne (fun h => e h.symm)] at h
    rw [List.getD_eq_getElem?_getD]
    exact h
theorem hands_some {t : ByteArray} : ∀ (ks : List Nat) {f : Flow} {k : Nat}, (ks.foldl (fun g q => handI q t g) f).2.1.getD k false = true → f.2.1.getD k false = true ∨ k ∈ ks
  | [], f, k, h => .inl h
  | q :: ks, f, k, h => by
    rcases hands_some ks h with h1 | h1
    · rcases set_true h1 with h2 | h2
      · exact .inl h2
      · exact .inr (by rw [h2]; exact List.mem_cons_self)
    · exact .inr (List.mem_cons_of_mem _ h1)
theorem flowStep_some {l : List Ins} {m : List Int} {i : Nat} {f f' : Flow} (hs : flowStep l m i f = .inr f') : f.2.1.getD i false = true ∧ ∀ k, f'.2.1.getD k false = true → f.2.1.getD k false = true ∨ k ∈ nextsI l i := by
  unfold flowStep at hs
  split at hs
  · cases hs
  · rename_i h1
    refine ⟨by simpa using h1, fun k hk => ?_⟩
    split at hs
    · cases hs
    · split at hs
      · cases hs
      · split at hs
        · cases hs
        · cases hs
          exact hands_some _ hk
theorem stacks_reach {l : List Ins} {m : List Int} : ∀ (r i : Nat) {f f' : Flow}, stacksS l m r i f = .inr f' → (∀ k, f.2.1.getD k false = true → k = 0 ∨ ∃ p, p < i ∧ k ∈ nextsI l p) → ∀ k, i ≤ k → k < i + r → k = 0 ∨ ∃ p, p < k ∧ k ∈ nextsI l p
  | 0, i, f, f', hs, hI, k, h1, h2 => by omega
  | r + 1, i, f, f', hs, hI, k, h1, h2 => by
    simp only [stacksS] at hs
    cases hq : flowStep l m i f with
    | inl e => rw [hq] at hs; cases hs
    | inr f1 =>
      rw [hq] at hs
      obtain ⟨a1, a2⟩ := flowStep_some hq
      by_cases e : k = i
      · subst e
        exact hI k a1
      · refine stacks_reach r (i + 1) hs (fun k hk => ?_) k (by omega) (by omega)
        rcases a2 k hk with h3 | h3
        · rcases hI k h3 with h4 | ⟨p, p1, p2⟩
          · exact .inl h4
          · exact .inr ⟨p, by omega, p2⟩
        · exact .inr ⟨i, by omega, h3⟩
def Come (l : List Ins) : Prop := ∀ k, 0 < k → k < l.length → ∃ p, p < k ∧ k ∈ nextsI l p
theorem come_is {l : List Ins} (h : stacksI l = 0) : wholeI l = 0 ∧ Come l := by
  unfold stacksI at h
  split at h
  · rename_i hw
    exact absurd h hw
  · rename_i hw
    have hw0 : wholeI l = 0 := by
      by_cases e : wholeI l = 0
      · exact e
      · exact absurd e hw
    refine ⟨hw0, fun k k1 k2 => ?_⟩
    cases hq : stacksS l (scanI l).1 l.length 0 (flow0 l) with
    | inl e =>
      rw [hq] at h
      simp only at h
      subst h
      exfalso
      have key : ∀ (r i : Nat) {f : Flow}, stacksS l (scanI l).1 r i f ≠ .inl 0 := by
        intro r
        induction r with
        | zero => intro i f h; cases h
        | succ r ih =>
          intro i f h
          simp only [stacksS] at h
          cases hq : flowStep l (scanI l).1 i f with
          | inr f1 => rw [hq] at h; exact ih (i + 1) h
          | inl e =>
            rw [hq] at h
            cases h
            unfold flowStep at hq
            split at hq
            · cases hq
            · split at hq
              · cases hq
              · split at hq
                · cases hq
                · split at hq
                  · rename_i h5
                    exact h5 (Sum.inl.inj hq)
                  · cases hq
      exact key _ _ hq
    | inr f' =>
      have hI : ∀ k, (flow0 l).2.1.getD k false = true → k = 0 ∨ ∃ p, p < 0 ∧ k ∈ nextsI l p := fun k hk => by
        left
        unfold flow0 at hk
        rcases set_true hk with h2 | h2
        · rw [List.getD_eq_getElem?_getD, List.getElem?_replicate] at h2
          split at h2 <;> cases h2
        · exact h2
      rcases stacks_reach l.length 0 hq hI k (Nat.zero_le _) (by omega) with h1 | h1
      · omega
      · exact h1
theorem Fine.jump_enc {l : List Ins} {m h : List Int} (hF : Fine l m h) {i : Nat} (hi : i < l.length) (hj : opAt l i = 19 ∨ opAt l i = 20) (q : Nat) : enc l m q (jumpTo l i) = enc l m q i := by
  obtain ⟨k1, k2⟩ := hF.jump hi hj
  rcases home_cases l m i with hh | ⟨p, hh⟩
  · rw [enc_none hh q, enc_none (k2.trans hh) q]
  · obtain ⟨_, _, x3⟩ := enc_home hF.nest hi hh
    obtain ⟨_, _, y3⟩ := enc_home hF.nest k1 (k2.trans hh)
    rw [x3 q, y3 q]
theorem enc_iff {l : List Ins} {m : List Int} {q k j : Nat} (ho : isOpen l q = true) (hj : m.getD q 0 = (j : Int)) : enc l m q k = true ↔ q < k ∧ k ≤ j := by
  unfold enc
  rw [ho, hj]
  simp
def RIn (l : List Ins) (m : List Int) (a z k : Nat) : Prop := a ≤ k ∧ k ≤ z ∧ ∀ q, a ≤ q → q < k → opAt l q = 21 → mN m q < k
structure Way (l : List Ins) (m : List Int) (a z : Nat) : Prop where
  reg : Reg l m a z
  out : a = 0 ∨ ∃ p, a = p + 1 ∧ isOpen l p = true ∧ m.getD p 0 = (z : Int)
theorem Fine.way {l : List Ins} {m h : List Int} (hF : Fine l m h) {p : Nat} (hp : p < l.length) (ho : isOpen l p = true) : Way l m (p + 1) (mN m p) := by
  refine ⟨hF.reg hp ho, .inr ⟨p, rfl, ho, ?_⟩⟩
  obtain ⟨j, j1, _⟩ := hF.nest.open_ p hp ho
  unfold mN
  rw [j1]
  rfl
theorem Fine.wayAll {l : List Ins} {m h : List Int} (hF : Fine l m h) : Way l m 0 (l.length - 1) := ⟨hF.all, .inl rfl⟩
theorem pred_in {l : List Ins} {m h : List Int} (hF : Fine l m h) (hS : Come l) {a z : Nat} (hR : Way l m a z) {k : Nat} (hk : RIn l m a z k) (hak : a < k) : ∃ p, RIn l m a z p ∧ p < k ∧ k ∈ hopsI l m p := by
  obtain ⟨k1, k2, k3⟩ := hk
  have hlt := hR.reg.lt
  obtain ⟨p, p1, p2⟩ := hS k (by omega) (by omega)
  have hpl : p < l.length := by omega
  have hcase : k = p + 1 ∨ ((opAt l p = 19 ∨ opAt l p = 20) ∧ k = jumpTo l p) := by
    unfold nextsI at p2
    split at p2
    · rename_i h1
      rw [List.mem_singleton] at p2
      exact .inr ⟨.inl h1, p2⟩
    · split at p2
      · rename_i h1 h2
        rw [List.mem_cons, List.mem_singleton] at p2
        rcases p2 with h3 | h3
        · exact .inl h3
        · exact .inr ⟨.inr h2, h3⟩
      · split at p2
        · cases p2
        · rw [List.mem_singleton] at p2
          exact .inl p2
  have hap : a ≤ p := by
    rcases hcase with h1 | ⟨h1, h2⟩
    · omega
    · rcases hR.out with h3 | ⟨o, o1, o2, o3⟩
      · omega
      · rcases Nat.lt_or_ge p a with h4 | h4
        · exfalso
          have e1 : enc l m o k = true := (enc_iff o2 o3).2 ⟨by omega, k2⟩
          rw [h2, hF.jump_enc hpl h1, enc_iff o2 o3] at e1
          omega
        · exact h4
  by_cases hin : RIn l m a z p
  · refine ⟨p, hin, p1, ?_⟩
    unfold nextsI at p2
    unfold hopsI
    by_cases h21 : opAt l p = 21
    · exfalso
      have hkp : k = p + 1 := by
        rcases hcase with h1 | ⟨h1, _⟩
        · exact h1
        · omega
      have := k3 p hap (by omega) h21
      obtain ⟨j, j1, j2, j3⟩ := hF.nest.open_ p hpl (isOpen_iff.2 (.inl h21))
      unfold mN at this
      rw [j1] at this
      have e : ((j : Int)).toNat = j := rfl
      omega
    · rw [if_neg h21]
      by_cases h19 : opAt l p = 19
      · rw [if_pos h19] at p2 ⊢
        exact p2
      · rw [if_neg h19] at p2 ⊢
        by_cases h20 : opAt l p = 20
        · rw [if_pos h20] at p2 ⊢
          rw [List.mem_cons, List.mem_singleton] at p2 ⊢
          exact p2.symm
        · rw [if_neg h20] at p2 ⊢
          split at p2
          · cases p2
          · exact p2
  · have : ∃ q, a ≤ q ∧ q < p ∧ opAt l q = 21 ∧ p ≤ mN m q := by
      apply Classical.byContradiction
      intro hno
      refine hin ⟨hap, by omega, fun q q1 q2 q3 => ?_⟩
      rcases Nat.lt_or_ge (mN m q) p with h1 | h1
      · exact h1
      · exact absurd ⟨q, q1, q2, q3, h1⟩ hno
    obtain ⟨q0, hq0⟩ := this
    obtain ⟨q, q1, ⟨q2, q3, q4, q5⟩, q6⟩ := least_of (P := fun q => a ≤ q ∧ q < p ∧ opAt l q = 21 ∧ p ≤ mN m q) hq0
    have hqo : isOpen l q = true := isOpen_iff.2 (.inl q4)
    obtain ⟨j, j1, j2, j3⟩ := hF.nest.open_ q (by omega) hqo
    have hj : mN m q = j := by unfold mN; rw [j1]; rfl
    rw [hj] at q5
    have hqk := k3 q q2 (by omega) q4
    rw [hj] at hqk
    refine ⟨q, ⟨q2, by omega, fun q' a1 a2 a3 => ?_⟩, by omega, ?_⟩
    · rcases Nat.lt_or_ge (mN m q') q with h1 | h1
      · exact h1
      · exfalso
        have ho' : isOpen l q' = true := isOpen_iff.2 (.inl a3)
        obtain ⟨j', e1, e2, e3, e4, e5⟩ := hF.closed.op_ q' (by omega) ho'
        have hj' : mN m q' = j' := by unfold mN; rw [e1]; rfl
        rw [hj'] at h1
        have hne : j' ≠ q := fun e => by
          subst e
          rw [close_not e4] at hqo
          cases hqo
        obtain ⟨x, x1, x2⟩ := hF.nest.cross q' q j' a2 (by omega) (by omega) ho' hqo e1
        have : (x : Int) = (j : Int) := x1.symm.trans j1
        exact q6 q' a2 ⟨a1, by omega, a3, by rw [hj']; omega⟩
    · rcases hcase with h1 | ⟨h1, h2⟩
      · unfold hopsI
        rw [if_pos q4, hj, List.mem_singleton]
        omega
      · exfalso
        have e1 : enc l m q p = true := (enc_iff hqo j1).2 ⟨q3, q5⟩
        rw [← hF.jump_enc hpl h1, ← h2, enc_iff hqo j1] at e1
        omega
theorem puts_some {b : Int → Int → Int} (hb : Bet b) {v : Int} (hv : v ≠ -1) : ∀ (ks : List Nat) {D : Nat → Int} {k : Nat}, D k ≠ -1 ∨ k ∈ ks → ks.foldl (fun g k => putI b g k v) D k ≠ -1
  | [], D, k, h => h.elim id fun h => by cases h
  | q :: ks, D, k, h => by
    refine puts_some hb hv ks (D := putI b D q v) ?_
    unfold putI
    by_cases e : k = q
    · left
      rw [if_pos e]
      split
      · exact hv
      · rename_i h1
        rcases hb (D q) v with h2 | h2 <;> rw [h2]
        · exact h1
        · exact hv
    · rw [if_neg e]
      rcases h with h | h
      · exact .inl h
      · rcases List.mem_cons.1 h with h | h
        · exact absurd h e
        · exact .inr h
theorem run_reach {b : Int → Int → Int} (hb : Bet b) {W : Nat → Nat → Int} {l : List Ins} {m h : List Int} (hF : Fine l m h) (hS : Come l) {a z : Nat} (hR : Way l m a z) (hW : ∀ i, a ≤ i → i < z → opAt l i = 21 → StepsI (W (i + 1) (mN m i))) : ∀ (r i : Nat) {D : Nat → Int}, (∀ k, StepsI (D k)) → a ≤ i → i + r = z → (∀ k, RIn l m a z k → k = a ∨ (∃ p, RIn l m a z p ∧ p < i ∧ k ∈ hopsI l m p) → D k ≠ -1) → ∀ k, RIn l m a z k → runW b W l m r i D k ≠ -1
  | 0, i, D, hD, hi, hz, hI, k, hk => by
    refine hI k hk ?_
    by_cases e : k = a
    · exact .inl e
    · obtain ⟨p, p1, p2, p3⟩ := pred_in hF hS hR hk (by have := hk.1; omega)
      exact .inr ⟨p, p1, by have := hk.2.1; omega, p3⟩
  | r + 1, i, D, hD, hi, hz, hI, k, hk => by
    have hlt := hR.reg.lt
    have hWi := hW i hi (by omega)
    have hr := hF.right (show i < l.length by omega)
    refine run_reach hb hF hS hR hW r (i + 1) (stepW_ok hb hD hr hWi) (by omega) (by omega) (fun j hj hp => ?_) k hk
    have old : D j ≠ -1 → stepW b W l m i D j ≠ -1 := fun h => by
      unfold stepW
      split
      · exact h
      · rename_i h1
        have hDi : 0 ≤ D i := by
          rcases hD i with h2 | h2
          · exact absurd h2 h1
          · exact h2.1
        have := addI_ok hDi (costI_ok hr hWi).1
        exact puts_some hb (by omega) _ (.inl h)
    rcases hp with h1 | ⟨p, p1, p2, p3⟩
    · exact old (hI j hj (.inl h1))
    · by_cases e : p = i
      · subst e
        have hDp : D p ≠ -1 := by
          refine hI p p1 ?_
          by_cases e : p = a
          · exact .inl e
          · obtain ⟨p', a1, a2, a3⟩ := pred_in hF hS hR p1 (by omega)
            exact .inr ⟨p', a1, a2, a3⟩
        have hDp0 : 0 ≤ D p := by
          rcases hD p with h2 | h2
          · exact absurd h2 hDp
          · exact h2.1
        unfold stepW
        rw [if_neg hDp]
        have := addI_ok hDp0 (costI_ok hr hWi).1
        exact puts_some hb (by omega) _ (.inr p3)
      · exact old (hI j hj (.inr ⟨p, p1, by omega, p3⟩))
theorem Way.end_in {l : List Ins} {m h : List Int} {a z : Nat} (hR : Way l m a z) : RIn l m a z z := by
  refine ⟨hR.reg.le, Nat.le_refl _, fun q h1 h2 h3 => ?_⟩
  obtain ⟨j, j1, j2, j3⟩ := hR.reg.loop q h1 h2 (isOpen_iff.2 (.inl h3))
  unfold mN
  rw [j1]
  exact j3
theorem way_reach {b : Int → Int → Int} (hb : Bet b) {l : List Ins} {m h : List Int} (hF : Fine l m h) (hS : Come l) (f : Nat) {a z : Nat} (hR : Way l m a z) : 0 ≤ wayF b l m f a z ∧ wayF b l m f a z ≤ 1048577 := by
  have h0 := wayF_ok hb hF f hR.reg
  have hlt := hR.reg.lt
  have hle := hR.reg.le
  cases f with
  | zero => exact ⟨Int.le_refl _, by show (0 : Int) ≤ 1048577; decide⟩
  | succ f =>
    have h1 : wayF b l m (f + 1) a z ≠ -1 := by
      refine run_reach hb hF hS hR (fun i i1 i2 i3 => wayF_ok hb hF f (hF.reg (by omega) (isOpen_iff.2 (.inl i3)))) (z - a) a (startW_ok a) (Nat.le_refl _) (by omega) (fun k hk hp => ?_) z (Way.end_in (h := h) hR)
      rcases hp with e | ⟨p, p1, p2, _⟩
      · subst e
        unfold startW
        rw [if_pos rfl]
        decide
      · have := p1.1
        omega
    rcases h0 with h2 | h2
    · exact absurd h2 h1
    · exact h2
end Go.Proofs.Dk

/- Plain: the steps of ways, as the document says. -/
namespace Go.Proofs.Dk
open Go
set_option maxRecDepth 100000
set_option linter.unusedVariables false
set_option linter.unusedSimpArgs false
structure LQ (d : List Int) (s : List Bool) (D : Nat → Int) (a z : Nat) : Prop where
  dl : d.length = z - a + 1
  sl : s.length = z - a + 1
  at_ : ∀ k, a ≤ k → k ≤ z → d.getD (k - a) 0 = (if D k = -1 then 0 else D k) ∧ s.getD (k - a) false = (D k != -1)
theorem getD_setB {l : List Bool} {i j : Nat} {v d : Bool} (h : i < l.length) : (l.set i v).getD j d = if j = i then v else l.getD j d := getD_set h
theorem LQ.put {d : List Int} {s : List Bool} {D : Nat → Int} {a z : Nat} (h : LQ d s D a z) (b : Int → Int → Int) {k : Nat} (hk : a ≤ k) (hk2 : k ≤ z) {v x : Int} (hx : x = if D k = -1 then v else b (D k) v) (hx0 : x ≠ -1) : LQ (d.set (k - a) x) (s.set (k - a) true) (putI b D k v) a z := by
  have h1 := h.dl
  have h2 := h.sl
  refine ⟨by rw [List.length_set, h1], by rw [List.length_set, h2], fun j j1 j2 => ?_⟩
  rw [getD_set (by omega), getD_setB (by omega)]
  unfold putI
  by_cases e : j = k
  · subst e
    rw [if_pos rfl, if_pos rfl, if_pos rfl, ← hx, if_neg hx0]
    exact ⟨rfl, (bne_iff_ne.2 hx0).symm⟩
  · have e3 : ¬ (j - a = k - a) := by omega
    simp only [e3, e, if_false]
    exact h.at_ j j1 j2
theorem LQ.same {d : List Int} {s : List Bool} {D : Nat → Int} {a z : Nat} (h : LQ d s D a z) (b : Int → Int → Int) {k : Nat} {v : Int} (h1 : D k ≠ -1) (h2 : b (D k) v = D k) : LQ d s (putI b D k v) a z := by
  refine ⟨h.dl, h.sl, fun j j1 j2 => ?_⟩
  unfold putI
  by_cases e : j = k
  · subst e
    rw [if_pos rfl, if_neg h1, h2]
    exact h.at_ j j1 j2
  · rw [if_neg e]
    exact h.at_ j j1 j2
end Go.Proofs.Dk

/- Plain: the steps of ways, as the document says, on. -/
namespace Go.Proofs.Dk
open Go
set_option maxRecDepth 100000
set_option linter.unusedVariables false
set_option linter.unusedSimpArgs false
end Go.Proofs.Dk

/- Plain: steps of rows, sections. -/
namespace Go.Proofs.Dk
open Go
set_option maxRecDepth 100000
set_option linter.unusedVariables false
set_option linter.unusedSimpArgs false
noncomputable def allI (b : Int → Int → Int) (n : Nat) (l : List Ins) : Int × Int :=
  if locksI l ≠ 0 then (0, locksI l) else if stacksI l ≠ 0 then (0, stacksI l)
  else if addI (wayF b l (scanI l).1 n 0 (l.length - 1)) 1 = 1048577 then (0, 4) else (addI (wayF b l (scanI l).1 n 0 (l.length - 1)) 1, 0)
theorem locks_whole {l : List Ins} (h : locksI l = 0) : wholeI l = 0 := by
  unfold locksI at h
  split at h
  · exact h
  · rename_i h1
    by_cases e : wholeI l = 0
    · exact e
    · exact absurd e h1
theorem len1_ix {k : Nat} (h : 0 < k) (h2 : k < 1000000) : IntKind.wrap .i64 ((k : Int) - 1) = ((k - 1 : Nat) : Int) := last_ix h h2

theorem allmost_is (n : Nat) (l : List Ins) (hl : l.length < n) (hn3 : 3 < n) (hn : n < 1000000) : cost_all_most.f n l = some (allI bM n l) := by
  obtain ⟨o1, h1⟩ := locks_is n l hl hn
  obtain ⟨o2, h2⟩ := stacks_is n l hl hn3 hn
  unfold cost_all_most.f allI
  rw [h1, Option.bind_some]
  by_cases hk : locksI l = 0
  · have hw := locks_whole hk
    have hs := whole_scan hw
    have hF := whole_fine hw
    obtain ⟨l1, l2⟩ := hF.len
    rw [if_neg (fun h => (bne_iff_ne.1 h) hk), if_neg (show ¬ (locksI l ≠ 0) from fun h => h hk), h2, Option.bind_some]
    by_cases ht : stacksI l = 0
    · have hS := (come_is ht).2
      rw [if_neg (fun h => (bne_iff_ne.1 h) ht), if_neg (show ¬ (stacksI l ≠ 0) from fun h => h ht), match_is n l hl hn, Option.bind_some]
      simp only
      have hwy := way_reach bM_bet hF hS n hF.wayAll
      have hw1 := most_is n hF hl hF.all
      rw [show ((0 : Nat) : Int) = 0 from rfl] at hw1
      rw [if_neg (fun h => (bne_iff_ne.1 h) hs), len1_ix l1 (by omega), hw1, Option.bind_some, costadd_is n (by omega) hwy.2 (by decide) (by decide), Option.bind_some]
      generalize addI (wayF bM l (scanI l).1 n 0 (l.length - 1)) 1 = w
      by_cases e : w = 1048577
      · rw [if_pos e, if_pos (by simpa only [beq_iff_eq] using e)]
      · rw [if_neg e, if_neg (by simpa only [beq_iff_eq] using e)]
    · rw [if_pos (show (stacksI l != 0) = true from bne_iff_ne.2 ht), if_pos (show (stacksI l != 0) = true from bne_iff_ne.2 ht), if_pos ht]
  · rw [if_pos (show (locksI l != 0) = true from bne_iff_ne.2 hk), if_pos (show (locksI l != 0) = true from bne_iff_ne.2 hk), if_pos hk]

theorem worst_is (n : Nat) (l : List Ins) (hl : l.length < n) (hn3 : 3 < n) (hn : n < 1000000) : cost_Worst.f n l = some (allI bM n l) := by
  unfold cost_Worst.f
  rw [allmost_is n l hl hn3 hn]
  rfl
def sectS (l : List Ins) (m : List Int) (n : Nat) : Nat → Nat → List (Int × Int)
  | 0, _ => []
  | r + 1, i => (if opAt l i = 23 then [(argA l i, wayF bM l m n (i + 1) (mN m i) + 1)] else []) ++ sectS l m n r (i + 1)
noncomputable def sectI (n : Nat) (l : List Ins) : List (Int × Int) × Int := if (allI bM n l).2 ≠ 0 then ([], (allI bM n l).2) else (sectS l (scanI l).1 n l.length 0, 0)
theorem sect_loop (n : Nat) {l : List Ins} {m h : List Int} (hF : Fine l m h) (hn : l.length < n) : ∀ (f i : Nat) {o : List (Int × Int)}, o.length ≤ i → i ≤ l.length → l.length < f + i →
    it (fun F (x : (List (Int × Int)) × (List (Int × (Int × Int))) × Int × Int × (List (Int × (Int × Int))) × (List Int)) => cost_Sections.b0 n F x.1 x.2.1 x.2.2.1 x.2.2.2.1 x.2.2.2.2.1 x.2.2.2.2.2) f (o, l, (l.length : Int), (i : Int), l, m) = some (o ++ sectS l m n (l.length - i) i, l, m)
  | 0, i, o, ho, hi, hf => by omega
  | f + 1, i, o, ho, hi, hf => by
    have ih := fun {o : List (Int × Int)} => sect_loop n hF hn f (i + 1) (o := o)
    show cost_Sections.b0 n (it _ f) o l (l.length : Int) (i : Int) l m = _
    generalize it (fun F (x : (List (Int × Int)) × (List (Int × (Int × Int))) × Int × Int × (List (Int × (Int × Int))) × (List Int)) => cost_Sections.b0 n F x.1 x.2.1 x.2.2.1 x.2.2.2.1 x.2.2.2.2.1 x.2.2.2.2.2) f = F at ih ⊢
    obtain ⟨l1, l2⟩ := hF.len
    unfold cost_Sections.b0
    rcases Nat.lt_or_ge i l.length with hlt | hge
    · rw [if_pos (decide_eq_true (by omega)), if_pos (in_ix hlt), Int.toNat_natCast, next_ix (by omega), show l.length - i = (l.length - (i + 1)) + 1 by omega]
      rw [show sectS l m n (l.length - (i + 1) + 1) i = (if opAt l i = 23 then [(argA l i, wayF bM l m n (i + 1) (mN m i) + 1)] else []) ++ sectS l m n (l.length - (i + 1)) (i + 1) from rfl]
      by_cases h23 : (l.getD i (0, 0, 0)).1 = 23
      · rw [if_pos (show ((l.getD i (0, 0, 0)).1 == 23) = true by simpa only [beq_iff_eq] using h23), if_pos (show opAt l i = 23 from h23), if_pos (in_ix (by rw [hF.nest.hm]; exact hlt))]
        have ho2 : isOpen l i = true := isOpen_iff.2 (.inr h23)
        obtain ⟨j, j1, j2, j3⟩ := hF.nest.open_ i hlt ho2
        have hj : mN m i = j := by unfold mN; rw [j1]; rfl
        have hR := hF.reg hlt ho2
        rw [hj] at hR ⊢
        have hwy := wayF_ok bM_bet hF n hR
        rw [j1, sect_is n hF hn hR, Option.bind_some, if_pos (by simp; omega)]
        have hwr : IntKind.wrap .i64 (wayF bM l m n (i + 1) j + 1) = wayF bM l m n (i + 1) j + 1 := by
          rcases hwy with h | h
          · rw [h]; rfl
          · exact wrap_id (by omega) (by omega)
        rw [hwr, ih (by simp; omega) (by omega) (by omega), List.append_assoc]
      · rw [if_neg (show ¬ ((l.getD i (0, 0, 0)).1 == 23) = true by simpa only [beq_iff_eq] using h23), if_neg (show ¬ opAt l i = 23 from h23), ih (by omega) (by omega) (by omega), List.nil_append]
    · have : i = l.length := by omega
      subst this
      rw [if_neg (by simp), Nat.sub_self]
      simp [sectS]
theorem all_zero {b : Int → Int → Int} {n : Nat} {l : List Ins} (h : (allI b n l).2 = 0) : locksI l = 0 ∧ stacksI l = 0 := by
  unfold allI at h
  by_cases h1 : locksI l = 0
  · rw [if_neg (show ¬ (locksI l ≠ 0) from fun h => h h1)] at h
    by_cases h2 : stacksI l = 0
    · exact ⟨h1, h2⟩
    · rw [if_pos h2] at h
      exact absurd h h2
  · rw [if_pos h1] at h
    exact absurd h h1
theorem sections_is (n : Nat) (l : List Ins) (hl : l.length < n) (hn3 : 3 < n) (hn : n < 1000000) : cost_Sections.f n l = some (sectI n l) := by
  unfold cost_Sections.f sectI
  rw [worst_is n l hl hn3 hn, Option.bind_some]
  by_cases h0 : (allI bM n l).2 = 0
  · obtain ⟨hk, ht⟩ := all_zero h0
    obtain ⟨o1, h1⟩ := locks_is n l hl hn
    obtain ⟨o2, h2⟩ := stacks_is n l hl hn3 hn
    have hF := whole_fine (locks_whole hk)
    have hlp := sect_loop n hF hl n 0 (o := []) (Nat.zero_le _) (Nat.zero_le _) (by omega)
    rw [show ((0 : Nat) : Int) = 0 from rfl, Nat.sub_zero] at hlp
    unfold cost_Sections.b0.l
    rw [if_neg (fun h => (bne_iff_ne.1 h) h0), if_neg (show ¬ ((allI bM n l).2 ≠ 0) from fun h => h h0), h1, Option.bind_some, if_neg (fun h => (bne_iff_ne.1 h) hk), h2, Option.bind_some, if_neg (fun h => (bne_iff_ne.1 h) ht), match_is n l hl hn, Option.bind_some]
    simp only
    rw [hlp, Option.bind_some, List.nil_append]
  · rw [if_pos (bne_iff_ne.2 h0), if_pos h0]
end Go.Proofs.Dk

/- Plain: rows in which nothing is left out; sections that are alike. -/
namespace Go.Proofs.Dk
open Go
set_option maxRecDepth 100000
set_option linter.unusedVariables false
set_option linter.unusedSimpArgs false
end Go.Proofs.Dk

/- Plain: longest ways: what stands in a way is no longer than it. -/
namespace Go.Proofs.Dk
open Go
set_option maxRecDepth 100000
set_option linter.unusedVariables false
set_option linter.unusedSimpArgs false
theorem putM_ge {D : Nat → Int} {k : Nat} {v : Int} (hv : 0 ≤ v) (hD : StepsI (D k)) : ∀ j, D j ≤ putI bM D k v j := fun j => by
  unfold putI
  by_cases e : j = k
  · subst e
    rw [if_pos rfl]
    split
    · omega
    · unfold bM; split <;> omega
  · rw [if_neg e]; omega
theorem putM_at {D : Nat → Int} {k : Nat} {v : Int} (hv : 0 ≤ v) : v ≤ putI bM D k v k := by
  unfold putI
  rw [if_pos rfl]
  split
  · omega
  · unfold bM; split <;> omega
theorem putsM_ge {v : Int} (hv : 0 ≤ v ∧ v ≤ 1048577) : ∀ (ks : List Nat) {D : Nat → Int}, (∀ k, StepsI (D k)) → (∀ j, D j ≤ ks.foldl (fun g k => putI bM g k v) D j) ∧ ∀ j ∈ ks, v ≤ ks.foldl (fun g k => putI bM g k v) D j
  | [], D, hD => ⟨fun j => Int.le_refl _, fun j hj => by cases hj⟩
  | q :: ks, D, hD => by
    obtain ⟨h1, h2⟩ := putsM_ge hv ks (D := putI bM D q v) (putI_ok bM_bet hD q hv)
    refine ⟨fun j => Int.le_trans (putM_ge hv.1 (hD q) j) (h1 j), fun j hj => ?_⟩
    rcases List.mem_cons.1 hj with e | e
    · subst e
      exact Int.le_trans (putM_at hv.1) (h1 j)
    · exact h2 j e
theorem StepsI.nn {v : Int} (h : StepsI v) (h1 : v ≠ -1) : 0 ≤ v ∧ v ≤ 1048577 := h.elim (fun h => absurd h h1) id
theorem stepM_ge {W : Nat → Nat → Int} {l : List Ins} {m : List Int} {i : Nat} {D : Nat → Int} (hD : ∀ k, StepsI (D k)) (hr : rightI (l.getD i (0, 0, 0)) = true) (hW : opAt l i = 21 → StepsI (W (i + 1) (mN m i))) : (∀ j, D j ≤ stepW bM W l m i D j) ∧ (D i ≠ -1 → ∀ j ∈ hopsI l m i, addI (D i) (costI W l m i) ≤ stepW bM W l m i D j) := by
  unfold stepW
  by_cases e : D i = -1
  · rw [if_pos e]
    exact ⟨fun j => Int.le_refl _, fun h => absurd e h⟩
  · rw [if_neg e]
    obtain ⟨h1, h2⟩ := putsM_ge (addI_ok ((hD i).nn e).1 (costI_ok hr hW).1) (hopsI l m i) hD
    exact ⟨h1, fun _ => h2⟩
theorem addI_le {a b c d : Int} (h : a ≤ b) (k : c ≤ d) : addI a c ≤ addI b d := by unfold addI; split <;> split <;> omega
theorem addI_left {a b : Int} (ha : a ≤ 1048577) (hb : 0 ≤ b) : a ≤ addI a b := by unfold addI; split <;> omega
theorem addI_assoc {a b c : Int} (ha : 0 ≤ a) (hb : 0 ≤ b) (hc : 0 ≤ c) : addI (addI a b) c = addI a (addI b c) := by unfold addI; split <;> split <;> split <;> (try split) <;> omega
theorem Reg.hop {l : List Ins} {m : List Int} {a z : Nat} (hR : Reg l m a z) {i : Nat} (h1 : a ≤ i) (h2 : i < z) : hopsI l m i ≠ [] ∧ ∀ k ∈ hopsI l m i, i < k ∧ k ≤ z := by
  unfold hopsI
  by_cases h21 : opAt l i = 21
  · rw [if_pos h21]
    obtain ⟨j, j1, j2, j3⟩ := hR.loop i h1 h2 (isOpen_iff.2 (.inl h21))
    refine ⟨by simp, fun k hk => ?_⟩
    have : k = mN m i + 1 := by simpa using hk
    unfold mN at this
    rw [j1] at this
    simp at this
    omega
  · rw [if_neg h21]
    by_cases h19 : opAt l i = 19
    · rw [if_pos h19]
      have := hR.jump i h1 h2 (.inl h19)
      refine ⟨by simp, fun k hk => ?_⟩
      have e : k = jumpTo l i := by simpa using hk
      subst e
      refine ⟨?_, this⟩
      unfold jumpTo
      omega
    · rw [if_neg h19]
      by_cases h20 : opAt l i = 20
      · rw [if_pos h20]
        have := hR.jump i h1 h2 (.inr h20)
        refine ⟨by simp, fun k hk => ?_⟩
        have e : k = jumpTo l i ∨ k = i + 1 := by simpa using hk
        rcases e with e | e
        · subst e
          refine ⟨?_, this⟩
          unfold jumpTo
          omega
        · omega
      · rw [if_neg h20]
        exact ⟨by simp, fun k hk => by
          have e : k = i + 1 := by simpa using hk
          omega⟩
theorem runW_add {b : Int → Int → Int} {W : Nat → Nat → Int} {l : List Ins} {m : List Int} : ∀ (r s i : Nat) (D : Nat → Int), runW b W l m (r + s) i D = runW b W l m s (i + r) (runW b W l m r i D)
  | 0, s, i, D => by rw [Nat.zero_add]; rfl
  | r + 1, s, i, D => by
    rw [show r + 1 + s = (r + s) + 1 by omega]
    show runW b W l m (r + s) (i + 1) _ = runW b W l m s (i + (r + 1)) (runW b W l m r (i + 1) _)
    rw [runW_add r s (i + 1), show i + 1 + r = i + (r + 1) by omega]
theorem runM_end {W : Nat → Nat → Int} {l : List Ins} {m : List Int} (hr : ∀ i, i < l.length → rightI (l.getD i (0, 0, 0)) = true) {a z : Nat} (hR : Reg l m a z) (hW : ∀ i, a ≤ i → i < z → opAt l i = 21 → StepsI (W (i + 1) (mN m i))) {c : Int} (hc : 0 ≤ c) : ∀ (r i : Nat) {D : Nat → Int}, (∀ k, StepsI (D k)) → a ≤ i → i + r = z → (∃ k, i ≤ k ∧ k ≤ z ∧ c ≤ D k) → c ≤ runW bM W l m r i D z
  | 0, i, D, hD, hi, hz, ⟨k, k1, k2, k3⟩ => by
    have : k = z := by omega
    subst this
    exact k3
  | r + 1, i, D, hD, hi, hz, ⟨k, k1, k2, k3⟩ => by
    have hlt := hR.lt
    have hWi := hW i hi (by omega)
    have hri := hr i (by omega)
    obtain ⟨s1, s2⟩ := stepM_ge hD hri hWi
    refine runM_end hr hR hW hc r (i + 1) (stepW_ok bM_bet hD hri hWi) (by omega) (by omega) ?_
    by_cases e : k = i
    · subst e
      have hDk : D k ≠ -1 := by omega
      obtain ⟨n1, n2⟩ := hR.hop hi (by omega)
      obtain ⟨q, qs, hq⟩ := List.exists_cons_of_ne_nil n1
      have hqm : q ∈ hopsI l m k := by rw [hq]; exact List.mem_cons_self ..
      obtain ⟨q1, q2⟩ := n2 q hqm
      refine ⟨q, by omega, q2, ?_⟩
      have := s2 hDk q hqm
      have h3 := addI_left ((hD k).nn hDk).2 (costI_ok hri hWi).1
      omega
    · exact ⟨k, by omega, k2, Int.le_trans k3 (s1 k)⟩
theorem runM_in {W : Nat → Nat → Int} {l : List Ins} {m : List Int} (hr : ∀ i, i < l.length → rightI (l.getD i (0, 0, 0)) = true) {c : Int} (hc : 0 ≤ c ∧ c ≤ 1048577) : ∀ (r i : Nat) {D D0 : Nat → Int}, (∀ k, StepsI (D k)) → (∀ k, StepsI (D0 k)) → r + i ≤ l.length → (∀ k, i ≤ k → k < r + i → opAt l k = 21 → StepsI (W (k + 1) (mN m k))) → (∀ j, i ≤ j → D0 j ≠ -1 → addI c (D0 j) ≤ D j) → ∀ j, i + r ≤ j → runW bM W l m r i D0 j ≠ -1 → addI c (runW bM W l m r i D0 j) ≤ runW bM W l m r i D j
  | 0, i, D, D0, hD, hD0, hl, hW, h, j, hj, hn => h j hj hn
  | r + 1, i, D, D0, hD, hD0, hl, hW, h, j, hj, hn => by
    have hWi := hW i (Nat.le_refl _) (by omega)
    have hri := hr i (by omega)
    have hco := costI_ok hri hWi
    obtain ⟨s1, s2⟩ := stepM_ge hD hri hWi
    refine runM_in hr hc r (i + 1) (stepW_ok bM_bet hD hri hWi) (stepW_ok bM_bet hD0 hri hWi) (by omega) (fun k h1 h2 => hW k (by omega) (by omega)) (fun q hq hq2 => ?_) j (by omega) hn
    by_cases e : D0 i = -1
    · have e2 : stepW bM W l m i D0 = D0 := by unfold stepW; rw [if_pos e]
      rw [e2] at hq2 ⊢
      exact Int.le_trans (h q (by omega) hq2) (s1 q)
    · have hi := h i (Nat.le_refl _) e
      have hD0i := (hD0 i).nn e
      have hci := addI_ok hc.1 hD0i.1
      have hDi : D i ≠ -1 := by omega
      have hDi2 := (hD i).nn hDi
      have s2 := s2 hDi
      have hv : addI c (addI (D0 i) (costI W l m i)) ≤ addI (D i) (costI W l m i) := by
        rw [← addI_assoc hc.1 hD0i.1 hco.1]
        exact addI_le hi (Int.le_refl _)
      have key : ∀ (ks : List Nat) {E : Nat → Int}, (∀ k, StepsI (E k)) → (∀ k ∈ ks, k ∈ hopsI l m i) → (∀ k, i + 1 ≤ k → E k ≠ -1 → addI c (E k) ≤ stepW bM W l m i D k) → ∀ k, i + 1 ≤ k → ks.foldl (fun g k => putI bM g k (addI (D0 i) (costI W l m i))) E k ≠ -1 → addI c (ks.foldl (fun g k => putI bM g k (addI (D0 i) (costI W l m i))) E k) ≤ stepW bM W l m i D k := by
        intro ks
        induction ks with
        | nil => intro E hE hk h0 k hk2 hn; exact h0 k hk2 hn
        | cons q ks ih =>
          intro E hE hk h0
          refine ih (putI_ok bM_bet hE q (addI_ok hD0i.1 hco.1)) (fun k h => hk k (List.mem_cons_of_mem _ h)) (fun k hk2 hn => ?_)
          show addI c (putI bM E q (addI (D0 i) (costI W l m i)) k) ≤ _
          replace hn : putI bM E q (addI (D0 i) (costI W l m i)) k ≠ -1 := hn
          by_cases ek : k = q
          · subst ek
            have h1 := s2 k (hk k (List.mem_cons_self ..))
            unfold putI at hn ⊢
            rw [if_pos rfl] at hn ⊢
            by_cases eE : E k = -1
            · rw [if_pos eE]
              exact Int.le_trans hv h1
            · rw [if_neg eE]
              have h2 := h0 k hk2 eE
              unfold bM
              split
              · exact Int.le_trans hv h1
              · exact h2
          · unfold putI at hn ⊢
            rw [if_neg ek] at hn ⊢
            exact h0 k hk2 hn
      have e2 : stepW bM W l m i D0 = (hopsI l m i).foldl (fun g k => putI bM g k (addI (D0 i) (costI W l m i))) D0 := by unfold stepW; rw [if_neg e]
      rw [e2] at hq2 ⊢
      exact key (hopsI l m i) hD0 (fun k h => h) (fun k hk hn => Int.le_trans (h k (by omega) hn) (s1 k)) q hq hq2
theorem way_lock {l : List Ins} {m h : List Int} (hF : Fine l m h) (hC : Closed l m) (hS : Come l) {n : Nat} (hn : l.length < n) {a z : Nat} (hR : Way l m a z) {q : Nat} (hq : RIn l m a z q) (hqz : q < z) (ho : opAt l q = 23) : addI 2 (wayF bM l m n (q + 1) (mN m q)) ≤ wayF bM l m n a z := by
  have hlt := hR.reg.lt
  obtain ⟨q1, q2, q3⟩ := hq
  have hqo : isOpen l q = true := isOpen_iff.2 (.inr ho)
  obtain ⟨j, j1, j2, j3⟩ := hR.reg.loop q q1 hqz hqo
  have hj : mN m q = j := by unfold mN; rw [j1]; rfl
  rw [hj]
  obtain ⟨n, rfl⟩ : ∃ n', n = n' + 1 := ⟨n - 1, by omega⟩
  have hRq : Reg l m (q + 1) j := hj ▸ hF.reg (by omega) hqo
  have hr : ∀ i, i < l.length → rightI (l.getD i (0, 0, 0)) = true := fun i hi => hF.right hi
  have hW : ∀ i, a ≤ i → i < z → opAt l i = 21 → StepsI (wayF bM l m n (i + 1) (mN m i)) := fun i i1 i2 i3 => wayF_ok bM_bet hF n (hF.reg (by omega) (isOpen_iff.2 (.inl i3)))
  have hopj : opAt l j = 24 := by
    obtain ⟨j', c1, c2, c3, c4, c5⟩ := hC.op_ q (by omega) hqo
    rw [j1] at c1
    have : j = j' := by omega
    subst this
    show (l.getD j (0, 0, 0)).1 = 24
    rw [c4]
    unfold ends
    rw [if_neg (by show ¬ (l.getD q (0, 0, 0)).1 = 21; rw [show (l.getD q (0, 0, 0)).1 = 23 from ho]; decide)]
  show addI 2 (runW bM (wayF bM l m n) l m (j - (q + 1)) (q + 1) (startW (q + 1)) j) ≤ runW bM (wayF bM l m n) l m (z - a) a (startW a) z
  -- to the block
  rw [show z - a = (q - a) + (z - q) by omega, runW_add, show a + (q - a) = q by omega]
  have hD1 : ∀ k, StepsI (runW bM (wayF bM l m n) l m (q - a) a (startW a) k) := runW_ok bM_bet hr (q - a) a (startW_ok a) (by omega) (fun k k1 k2 => hW k k1 (by omega))
  have hDq : runW bM (wayF bM l m n) l m (q - a) a (startW a) q ≠ -1 := by
    have hRq' : ∀ k, RIn l m a z k → k ≤ q → runW bM (wayF bM l m n) l m (q - a) a (startW a) k ≠ -1 := by
      -- reached ahead of it
      have gen : ∀ (r i : Nat) {D : Nat → Int}, (∀ k, StepsI (D k)) → a ≤ i → i + r = q → (∀ k, RIn l m a z k → k = a ∨ (∃ p, RIn l m a z p ∧ p < i ∧ k ∈ hopsI l m p) → D k ≠ -1) → ∀ k, RIn l m a z k → k ≤ q → runW bM (wayF bM l m n) l m r i D k ≠ -1 := by
        intro r
        induction r with
        | zero =>
          intro i D hD hi hz hI k hk hkq
          refine hI k hk ?_
          by_cases e : k = a
          · exact .inl e
          · obtain ⟨p, p1, p2, p3⟩ := pred_in hF hS hR hk (by have := hk.1; omega)
            exact .inr ⟨p, p1, by omega, p3⟩
        | succ r ih =>
          intro i D hD hi hz hI k hk hkq
          have hWi := hW i hi (by omega)
          have hri := hr i (by omega)
          refine ih (i + 1) (stepW_ok bM_bet hD hri hWi) (by omega) (by omega) (fun k' hk' hp => ?_) k hk hkq
          obtain ⟨s1, s2⟩ := stepM_ge hD hri hWi
          have old : D k' ≠ -1 → stepW bM (wayF bM l m n) l m i D k' ≠ -1 := fun h => by
            have := s1 k'
            have := ((hD k').nn h).1
            omega
          rcases hp with h1 | ⟨p, p1, p2, p3⟩
          · exact old (hI k' hk' (.inl h1))
          · by_cases e : p = i
            · subst e
              have hDp : D p ≠ -1 := by
                refine hI p p1 ?_
                by_cases e : p = a
                · exact .inl e
                · obtain ⟨p', a1, a2, a3⟩ := pred_in hF hS hR p1 (by omega)
                  exact .inr ⟨p', a1, a2, a3⟩
              have h3 := s2 hDp k' p3
              have h4 := addI_ok ((hD p).nn hDp).1 (costI_ok hri hWi).1
              omega
            · exact old (hI k' hk' (.inr ⟨p, p1, by omega, p3⟩))
      intro k hk hkq
      refine gen (q - a) a (startW_ok a) (Nat.le_refl _) (by omega) (fun k' hk' hp => ?_) k hk hkq
      rcases hp with e | ⟨p, p1, p2, _⟩
      · subst e; unfold startW; rw [if_pos rfl]; decide
      · have := p1.1; omega
    exact hRq' q ⟨q1, q2, q3⟩ (Nat.le_refl _)
  generalize hDD : runW bM (wayF bM l m n) l m (q - a) a (startW a) = D at hD1 hDq
  have hd := (hD1 q).nn hDq
  -- the block's own step
  rw [show z - q = 1 + ((j - (q + 1)) + (z - j)) by omega, runW_add]
  show addI 2 _ ≤ runW bM (wayF bM l m n) l m ((j - (q + 1)) + (z - j)) (q + 1) (stepW bM (wayF bM l m n) l m q D) z
  have hWq := hW q q1 hqz
  have hrq := hr q (by omega)
  obtain ⟨s1, s2⟩ := stepM_ge hD1 hrq hWq
  have hD2 := stepW_ok bM_bet hD1 hrq hWq
  have hop : hopsI l m q = [q + 1] := by unfold hopsI; rw [if_neg (by rw [ho]; decide), if_neg (by rw [ho]; decide), if_neg (by rw [ho]; decide)]
  have hcq : costI (wayF bM l m n) l m q = 1 := by unfold costI; rw [if_neg (by rw [ho]; decide)]
  have h2 := s2 hDq (q + 1) (by rw [hop]; simp)
  rw [hcq] at h2
  generalize stepW bM (wayF bM l m n) l m q D = D2 at hD2 h2
  have h3 : (1 : Int) ≤ D2 (q + 1) := by
    have : (1 : Int) ≤ addI (D q) 1 := by unfold addI; split <;> omega
    omega
  -- what stands in it
  rw [runW_add, show q + 1 + (j - (q + 1)) = j by omega]
  have hw0 := way_reach bM_bet hF hS (n + 1) (show Way l m (q + 1) j from hj ▸ hF.way (by omega) hqo)
  have hw1 : wayF bM l m (n + 1) (q + 1) j = runW bM (wayF bM l m n) l m (j - (q + 1)) (q + 1) (startW (q + 1)) j := rfl
  rw [hw1] at hw0
  have h4 := runM_in hr (c := 1) (by decide) (W := wayF bM l m n) (j - (q + 1)) (q + 1) (D := D2) (D0 := startW (q + 1)) hD2 (startW_ok _) (by omega) (fun k k1 k2 => hW k (by omega) (by omega)) (fun k k1 k2 => by
    unfold startW at k2 ⊢
    by_cases e : k = q + 1
    · subst e; rw [if_pos rfl]; unfold addI; split <;> omega
    · rw [if_neg e] at k2; exact absurd rfl k2) j (by omega) (by omega)
  have hD3 := runW_ok bM_bet hr (W := wayF bM l m n) (j - (q + 1)) (q + 1) hD2 (by omega) (fun k k1 k2 => hW k (by omega) (by omega))
  generalize runW bM (wayF bM l m n) l m (j - (q + 1)) (q + 1) (startW (q + 1)) j = w at hw0 h4
  generalize runW bM (wayF bM l m n) l m (j - (q + 1)) (q + 1) D2 = D3 at hD3 h4
  -- behind it
  rw [show z - j = (z - (j + 1)) + 1 by omega]
  show addI 2 w ≤ runW bM (wayF bM l m n) l m (z - (j + 1)) (j + 1) (stepW bM (wayF bM l m n) l m j D3) z
  have hWj := hW j (by omega) (by omega)
  have hrj := hr j (by omega)
  obtain ⟨t1, t2⟩ := stepM_ge hD3 hrj hWj
  have h1w := addI_ok (show (0 : Int) ≤ 1 by decide) hw0.1
  have hDj : D3 j ≠ -1 := by omega
  have hopj' : hopsI l m j = [j + 1] := by unfold hopsI; rw [if_neg (by rw [hopj]; decide), if_neg (by rw [hopj]; decide), if_neg (by rw [hopj]; decide)]
  have hcj : costI (wayF bM l m n) l m j = 1 := by unfold costI; rw [if_neg (by rw [hopj]; decide)]
  have h5 := t2 hDj (j + 1) (by rw [hopj']; simp)
  rw [hcj] at h5
  refine runM_end hr hR.reg hW (by have := addI_ok (show (0 : Int) ≤ 2 by decide) hw0.1; omega) (z - (j + 1)) (j + 1) (stepW_ok bM_bet hD3 hrj hWj) (by omega) (by omega) ⟨j + 1, by omega, by omega, ?_⟩
  refine Int.le_trans ?_ h5
  have : addI 2 w = addI (addI 1 w) 1 := by unfold addI; split <;> split <;> (try split) <;> omega
  rw [this]
  exact addI_le h4 (Int.le_refl _)
end Go.Proofs.Dk

/- Plain: sections stand in one another. -/
namespace Go.Proofs.Dk
open Go
set_option maxRecDepth 100000
set_option linter.unusedVariables false
set_option linter.unusedSimpArgs false
theorem locks_ok {l : List Ins} (h : locksI l = 0) {i : Nat} (hi : i < l.length) : badI l (scanI l).1 i = false := by
  have hw := locks_whole h
  unfold locksI at h
  rw [if_neg (show ¬ (wholeI l ≠ 0) from fun k => k hw)] at h
  by_cases ha : allF (okQ l (scanI l).1) l.length 0 = true
  · have := allF_iff.1 ha i (Nat.zero_le _) (by omega)
    unfold okQ at this
    simpa using this
  · rw [if_neg ha] at h
    cases h
theorem locks_in {l : List Ins} (h : locksI l = 0) {p q : Nat} (hpq : p < q) (hq : q < l.length) (hp3 : opAt l p = 23) (hq3 : opAt l q = 23) : q < mN (scanI l).1 p ∧ argA l p < argA l q := by
  have hs := whole_scan (locks_whole h)
  have hC := scanI_closed hs
  have hb := locks_ok h hq
  unfold badI at hb
  rw [if_pos hq3, Bool.or_eq_false_iff] at hb
  obtain ⟨hb1, hb2⟩ := hb
  obtain ⟨j, j1, j2, j3, j4, j5⟩ := hC.op_ p (by omega) (isOpen_iff.2 (.inr hp3))
  have hj : mN (scanI l).1 p = j := by unfold mN; rw [j1]; rfl
  have hopj : opAt l j = 24 := by
    show (l.getD j (0, 0, 0)).1 = 24
    rw [j4]
    unfold ends
    rw [if_neg (by rw [show (l.getD p (0, 0, 0)).1 = 23 from hp3]; decide)]
  have hlt : q < j := by
    rcases Nat.lt_trichotomy j q with hlt | he | hgt
    · exfalso
      have : freedB l q = true := anyB_iff.2 ⟨j, hlt, by simp [hopj]⟩
      rw [this] at hb1; cases hb1
    · subst he; rw [hopj] at hq3; cases hq3
    · exact hgt
  refine ⟨by omega, ?_⟩
  rcases Int.lt_or_le (argA l p) (argA l q) with h1 | h1
  · exact h1
  · exfalso
    have he : enc l (scanI l).1 p q = true := (enc_iff (isOpen_iff.2 (.inr hp3)) j1).2 ⟨hpq, by omega⟩
    have : overB l (scanI l).1 q = true := anyB_iff.2 ⟨p, hpq, by rw [he, hp3]; simp; exact h1⟩
    rw [this] at hb2; cases hb2
theorem locks_rin {l : List Ins} (h : locksI l = 0) {a z q : Nat} (ha : a ≤ q) (hz : q ≤ z) (hq : q < l.length) (hq3 : opAt l q = 23) : RIn l (scanI l).1 a z q := by
  have hs := whole_scan (locks_whole h)
  have hC := scanI_closed hs
  have hb := locks_ok h hq
  unfold badI at hb
  rw [if_pos hq3, Bool.or_eq_false_iff] at hb
  refine ⟨ha, hz, fun p p1 p2 p3 => ?_⟩
  obtain ⟨j, j1, j2, j3, j4, j5⟩ := hC.op_ p (by omega) (isOpen_iff.2 (.inl p3))
  have hj : mN (scanI l).1 p = j := by unfold mN; rw [j1]; rfl
  rcases Nat.lt_or_ge (mN (scanI l).1 p) q with h1 | h1
  · exact h1
  · exfalso
    have he : enc l (scanI l).1 p q = true := (enc_iff (isOpen_iff.2 (.inl p3)) j1).2 ⟨p2, by omega⟩
    have : overB l (scanI l).1 q = true := anyB_iff.2 ⟨p, p2, by rw [he, p3]; simp⟩
    rw [this] at hb; cases hb.2
theorem sect_mem {l : List Ins} {m : List Int} {n : Nat} : ∀ (r i : Nat), ∀ e ∈ sectS l m n r i, ∃ p, i ≤ p ∧ p < i + r ∧ opAt l p = 23 ∧ e = (argA l p, wayF bM l m n (p + 1) (mN m p) + 1)
  | 0, i, e, he => by cases he
  | r + 1, i, e, he => by
    unfold sectS at he
    rcases List.mem_append.1 he with h | h
    · split at h
      · rename_i h3
        refine ⟨i, Nat.le_refl _, by omega, h3, ?_⟩
        simpa using h
      · cases h
    · obtain ⟨p, p1, p2, p3⟩ := sect_mem r (i + 1) e h
      exact ⟨p, by omega, by omega, p3⟩
theorem fine_closed {l : List Ins} (h : locksI l = 0) : Fine l (scanI l).1 (scanI l).2.1 ∧ Closed l (scanI l).1 := ⟨whole_fine (locks_whole h), scanI_closed (whole_scan (locks_whole h))⟩
theorem sect_pair {l : List Ins} {n : Nat} (h : locksI l = 0) (hS : Come l) (hn : l.length < n) (hw : wayF bM l (scanI l).1 n 0 (l.length - 1) < 1048577) : ∀ (r i : Nat), i + r = l.length → (sectS l (scanI l).1 n r i).Pairwise (fun a b => b.2 + 2 ≤ a.2 ∧ a.1 < b.1) ∧ ∀ e ∈ sectS l (scanI l).1 n r i, 1 ≤ e.2 ∧ e.2 + 1 ≤ wayF bM l (scanI l).1 n 0 (l.length - 1) := by
  obtain ⟨hF, hC⟩ := fine_closed h
  obtain ⟨l1, l2⟩ := hF.len
  have hend : ∀ p, p < l.length → opAt l p = 23 → p < l.length - 1 := fun p hp h3 => by
    have := hF.succ hp (by rw [h3]; decide)
    omega
  have one : ∀ p, p < l.length → opAt l p = 23 → 0 ≤ wayF bM l (scanI l).1 n (p + 1) (mN (scanI l).1 p) ∧ wayF bM l (scanI l).1 n (p + 1) (mN (scanI l).1 p) + 2 ≤ wayF bM l (scanI l).1 n 0 (l.length - 1) := fun p hp h3 => by
    have k1 := way_lock hF hC hS hn hF.wayAll (locks_rin h (Nat.zero_le p) (by have := hend p hp h3; omega) hp h3) (hend p hp h3) h3
    have k2 := way_reach bM_bet hF hS n (hF.way hp (isOpen_iff.2 (.inr h3)))
    refine ⟨k2.1, ?_⟩
    unfold addI at k1
    split at k1 <;> omega
  intro r
  induction r with
  | zero => intro i hi; exact ⟨List.Pairwise.nil, fun e he => by cases he⟩
  | succ r ih =>
    intro i hi
    obtain ⟨g1, g2⟩ := ih (i + 1) (by omega)
    unfold sectS
    by_cases h3 : opAt l i = 23
    · rw [if_pos h3]
      have hi1 : i < l.length := by omega
      obtain ⟨o1, o2⟩ := one i hi1 h3
      refine ⟨List.Pairwise.cons (fun e he => ?_) g1, fun e he => ?_⟩
      · obtain ⟨p, p1, p2, p3, rfl⟩ := sect_mem r (i + 1) e he
        have hp1 : p < l.length := by omega
        obtain ⟨c1, c2⟩ := locks_in h (show i < p by omega) hp1 h3 p3
        have k1 := way_lock hF hC hS hn (hF.way hi1 (isOpen_iff.2 (.inr h3))) (locks_rin h (show i + 1 ≤ p by omega) (by omega) hp1 p3) c1 p3
        have k2 := (one p hp1 p3).1
        refine ⟨?_, c2⟩
        show _ + 1 + 2 ≤ _ + 1
        unfold addI at k1
        split at k1 <;> omega
      · rcases List.mem_cons.1 he with rfl | he
        · exact ⟨by show 1 ≤ _ + 1; omega, by show _ + 1 + 1 ≤ _; omega⟩
        · exact g2 e he
    · rw [if_neg h3, List.nil_append]
      exact ⟨g1, g2⟩
theorem put_le {D E : Nat → Int} (hD : ∀ k, StepsI (D k)) (hE : ∀ k, StepsI (E k)) (h : ∀ k, (D k = -1 ↔ E k = -1) ∧ D k ≤ E k) {k : Nat} {u v : Int} (huv : u ≤ v) (hu : 0 ≤ u) : ∀ j, (putI bL D k u j = -1 ↔ putI bM E k v j = -1) ∧ putI bL D k u j ≤ putI bM E k v j := fun j => by
  unfold putI
  by_cases e : j = k
  · subst e
    rw [if_pos rfl, if_pos rfl]
    obtain ⟨h1, h2⟩ := h j
    by_cases e2 : D j = -1
    · rw [if_pos e2, if_pos (h1.1 e2)]
      exact ⟨by constructor <;> intro <;> omega, huv⟩
    · have e3 : ¬ E j = -1 := fun k => e2 (h1.2 k)
      rw [if_neg e2, if_neg e3]
      have a1 := ((hD j).nn e2).1
      have a2 := ((hE j).nn e3).1
      unfold bL bM
      split <;> split <;> exact ⟨by constructor <;> intro <;> omega, by omega⟩
  · rw [if_neg e, if_neg e]
    exact h j
theorem puts_le {u v : Int} (huv : u ≤ v) (hu : 0 ≤ u ∧ u ≤ 1048577) (hv : v ≤ 1048577) : ∀ (ks : List Nat) {D E : Nat → Int}, (∀ k, StepsI (D k)) → (∀ k, StepsI (E k)) → (∀ k, (D k = -1 ↔ E k = -1) ∧ D k ≤ E k) → ∀ j, (ks.foldl (fun g k => putI bL g k u) D j = -1 ↔ ks.foldl (fun g k => putI bM g k v) E j = -1) ∧ ks.foldl (fun g k => putI bL g k u) D j ≤ ks.foldl (fun g k => putI bM g k v) E j
  | [], D, E, hD, hE, h, j => h j
  | k :: ks, D, E, hD, hE, h, j => puts_le huv hu hv ks (D := putI bL D k u) (E := putI bM E k v) (putI_ok bL_bet hD k hu) (putI_ok bM_bet hE k ⟨by omega, hv⟩) (put_le hD hE h huv hu.1) j
theorem loopI_le {v w A : Int} (hv : 0 ≤ v) (hvw : v ≤ w) (hw : w ≤ 1048577) (hA : 1 ≤ A) : loopI v A ≤ loopI w A := by
  have key : ∀ x : Int, 0 ≤ x → x ≤ 1048577 → (if x + 1 ≥ 1048577 then loopI x A = 1048577 else loopI x A = min (1 + A * (x + 1)) 1048577) := fun x hx hx2 => by
    unfold loopI
    by_cases h : x + 1 ≥ 1048577
    · rw [if_pos h]
      have : addI x 1 = 1048577 := by unfold addI; split <;> omega
      rw [if_pos this]
    · rw [if_neg h]
      have : addI x 1 = x + 1 := by unfold addI; split <;> omega
      rw [this, if_neg (by omega)]
      unfold addI
      omega
  have k1 := key v hv (by omega)
  have k2 := key w (by omega) hw
  have hm : A * (v + 1) ≤ A * (w + 1) := Int.mul_le_mul_of_nonneg_left (by omega) (by omega)
  have hb : loopI v A ≤ 1048577 := (loopI_cap v A)
  split at k1 <;> split at k2 <;> omega
where
  loopI_cap (v A : Int) : loopI v A ≤ 1048577 := by
    unfold loopI
    split
    · omega
    · unfold addI; split <;> omega
theorem run_le {W W' : Nat → Nat → Int} {l : List Ins} {m : List Int} (hr : ∀ i, i < l.length → rightI (l.getD i (0, 0, 0)) = true) : ∀ (r i : Nat) {D E : Nat → Int}, (∀ k, StepsI (D k)) → (∀ k, StepsI (E k)) → r + i ≤ l.length → (∀ k, i ≤ k → k < r + i → opAt l k = 21 → StepsI (W (k + 1) (mN m k)) ∧ StepsI (W' (k + 1) (mN m k)) ∧ 0 ≤ W (k + 1) (mN m k) ∧ W (k + 1) (mN m k) ≤ W' (k + 1) (mN m k)) → (∀ k, (D k = -1 ↔ E k = -1) ∧ D k ≤ E k) → ∀ j, (runW bL W l m r i D j = -1 ↔ runW bM W' l m r i E j = -1) ∧ runW bL W l m r i D j ≤ runW bM W' l m r i E j
  | 0, i, D, E, hD, hE, hl, hW, h, j => h j
  | r + 1, i, D, E, hD, hE, hl, hW, h, j => by
    have hWi := hW i (Nat.le_refl _) (by omega)
    have hri := hr i (by omega)
    have w1 := costI_ok hri (fun e => (hWi e).1)
    have w2 := costI_ok hri (fun e => (hWi e).2.1)
    have hc : costI W l m i ≤ costI W' l m i := by
      unfold costI
      by_cases e : opAt l i = 21
      · rw [if_pos e, if_pos e]
        obtain ⟨q1, q2, q3, q4⟩ := hWi e
        have hA : 1 ≤ argA l i := by
          have hri' := hri
          rw [show l.getD i (0, 0, 0) = (21, argA l i, (l.getD i (0, 0, 0)).2.2) from by rw [← e]] at hri'
          exact (right21 hri').1
        exact loopI_le q3 q4 (q2.nn (by omega)).2 hA
      · rw [if_neg e, if_neg e]; omega
    refine run_le hr r (i + 1) (stepW_ok bL_bet hD hri (fun e => (hWi e).1)) (stepW_ok bM_bet hE hri (fun e => (hWi e).2.1)) (by omega) (fun k h1 h2 => hW k (by omega) (by omega)) (fun k => ?_) j
    unfold stepW
    by_cases e : D i = -1
    · rw [if_pos e, if_pos ((h i).1.1 e)]
      exact h k
    · have e' : ¬ E i = -1 := fun x => e ((h i).1.2 x)
      rw [if_neg e, if_neg e']
      exact puts_le (addI_le (h i).2 hc) (addI_ok ((hD i).nn e).1 w1.1) (addI_ok ((hE i).nn e').1 w2.1).2 _ hD hE h k
theorem way_le {l : List Ins} {m h : List Int} (hF : Fine l m h) (hS : Come l) : ∀ (f : Nat) {a z : Nat}, Way l m a z → wayF bL l m f a z ≤ wayF bM l m f a z
  | 0, a, z, hR => Int.le_refl _
  | f + 1, a, z, hR => by
    have hlt := hR.reg.lt
    have hle := hR.reg.le
    refine (run_le (fun i hi => hF.right hi) (z - a) a (startW_ok a) (startW_ok a) (by omega) (fun k k1 k2 k3 => ?_) (fun k => ⟨Iff.rfl, Int.le_refl _⟩) z).2
    have hk := hF.way (show k < l.length by omega) (isOpen_iff.2 (.inl k3))
    exact ⟨wayF_ok bL_bet hF f hk.reg, wayF_ok bM_bet hF f hk.reg, (way_reach bL_bet hF hS f hk).1, way_le hF hS f hk⟩
theorem allI_err (n : Nat) (l : List Ins) (h : (allI bM n l).2 = 0) : (allI bL n l).2 = 0 ∧ 1 ≤ (allI bL n l).1 ∧ (allI bL n l).1 ≤ (allI bM n l).1 ∧ (allI bM n l).1 = wayF bM l (scanI l).1 n 0 (l.length - 1) + 1 ∧ (allI bM n l).1 ≤ 1048576 := by
  obtain ⟨h1, h2⟩ := all_zero h
  obtain ⟨hF, hC⟩ := fine_closed h1
  have hS := (come_is h2).2
  have r1 := way_reach bL_bet hF hS n hF.wayAll
  have r2 := way_reach bM_bet hF hS n hF.wayAll
  have r3 := way_le hF hS n hF.wayAll
  unfold allI at h ⊢
  rw [if_neg (show ¬ (locksI l ≠ 0) from fun k => k h1), if_neg (show ¬ (stacksI l ≠ 0) from fun k => k h2)] at h ⊢
  rw [if_neg (show ¬ (locksI l ≠ 0) from fun k => k h1), if_neg (show ¬ (stacksI l ≠ 0) from fun k => k h2)]
  split at h
  · cases h
  · rename_i hne
    rw [if_neg hne]
    unfold addI at hne ⊢
    split at hne
    · exact absurd rfl hne
    · rename_i h5
      rw [if_neg h5, if_neg (show ¬ (1048577 < wayF bL l (scanI l).1 n 0 (l.length - 1) + 1) by omega), if_neg (by omega)]
      exact ⟨rfl, by show 1 ≤ _ + 1; omega, by show _ + 1 ≤ _ + 1; omega, rfl, by show _ + 1 ≤ (1048576 : Int); omega⟩
end Go.Proofs.Dk

/- Plain: rounds; what a task's instructions name. -/
namespace Go.Proofs.Dk
open Go
set_option maxRecDepth 100000
set_option linter.unusedVariables false
set_option linter.unusedSimpArgs false
theorem it_all {X R : Type} {S : (X → Option R) → X → Option R} (Q : Nat → X → R → Prop) (h0 : ∀ x r, ¬ Q 0 x r) (h : ∀ f x F, (∀ y r, Q f y r → F y = some r) → ∀ r, Q (f + 1) x r → S F x = some r) : ∀ f x r, Q f x r → it S f x = some r
  | 0, x, r, hq => absurd hq (h0 x r)
  | f + 1, x, r, hq => h f x (it S f) (it_all Q h0 h f) r hq
abbrev Tsk := Int × Int × Int × Int × List Int × List Int × List Ins
abbrev Img := Int × Int × Int × Int × List Int × List (List Int) × List Tsk
abbrev Tsk.blocks (t : Tsk) : List Int := t.2.2.2.2.1
abbrev Tsk.outs (t : Tsk) : List Int := t.2.2.2.2.2.1
abbrev Tsk.code (t : Tsk) : List Ins := t.2.2.2.2.2.2
abbrev Img.inputs (m : Img) : Int := m.2.2.2.1
abbrev Img.safe (m : Img) : List Int := m.2.2.2.2.1
abbrev Img.blocks (m : Img) : List (List Int) := m.2.2.2.2.2.1
abbrev Img.tasks (m : Img) : List Tsk := m.2.2.2.2.2.2
theorem drop_eq_cons {α : Type} {l : List α} {i : Nat} {d : α} (h : i < l.length) : l.drop i = l.getD i d :: l.drop (i + 1) := by
  rw [List.drop_eq_getElem_cons h, List.getD_eq_getElem?_getD, List.getElem?_eq_getElem h]
  rfl
theorem owns_is (n : Nat) (t : Tsk) (m : Img) (p : Int) (hl : t.outs.length < n) (hn : n < 1000000) : check_job_owns.f n (t, m) p = some (t.outs.contains p) := by
  unfold check_job_owns.f check_job_owns.b0.l
  have := it_all (S := fun F (x : Int × List Int × Int × Int) => check_job_owns.b0 n F x.1 x.2.1 x.2.2.1 x.2.2.2) (fun f x r => ∃ i : Nat, x = (p, t.outs, (t.outs.length : Int), (i : Int)) ∧ i ≤ t.outs.length ∧ t.outs.length < f + i ∧ r = if (t.outs.drop i).contains p = true then .inl ((true, ()), ()) else .inr ((), ())) (fun x r ⟨i, _, h1, h2, _⟩ => by omega) (fun f x F hF r => ?_) n (p, t.outs, (t.outs.length : Int), 0) _ ⟨0, rfl, Nat.zero_le _, by omega, rfl⟩
  · rw [this, List.drop_zero]
    cases h : t.outs.contains p <;> rfl
  · rintro ⟨i, rfl, h1, h2, rfl⟩
    show check_job_owns.b0 n F p t.outs (t.outs.length : Int) (i : Int) = _
    unfold check_job_owns.b0
    rcases Nat.lt_or_ge i t.outs.length with hlt | hge
    · rw [if_pos (decide_eq_true (by omega)), if_pos (in_ix hlt), Int.toNat_natCast, next_ix (by omega), drop_eq_cons (d := (0 : Int)) hlt, List.contains_cons]
      by_cases e : t.outs.getD i 0 = p
      · rw [if_pos (beq_iff_eq.2 e), e, beq_self_eq_true, Bool.true_or, if_pos rfl]
      · rw [if_neg (fun h => e (beq_iff_eq.1 h))]
        have e2 : (p == t.outs.getD i 0) = false := by rw [beq_eq_false_iff_ne]; exact fun h => e h.symm
        rw [e2, Bool.false_or]
        exact hF _ _ ⟨i + 1, rfl, by omega, by omega, rfl⟩
    · have : i = t.outs.length := by omega
      subst this
      rw [if_neg (by simp), List.drop_length]
      rfl
end Go.Proofs.Dk

/- Plain: the instructions' names; a task's blocks. -/
namespace Go.Proofs.Dk
open Go
set_option maxRecDepth 100000
set_option linter.unusedVariables false
set_option linter.unusedSimpArgs false
def nameI (m : Img) (t : Tsk) (i : Ins) : Bool :=
  if i.1 = 15 then decide (i.2.1 < m.inputs) else if i.1 = 16 then t.outs.contains i.2.1 else if i.1 = 17 then decide (i.2.2 < ((m.blocks.getD i.2.1.toNat []).length : Int)) else if i.1 = 18 then decide (i.2.2 < ((m.blocks.getD i.2.1.toNat []).length : Int)) else true
theorem names_j (n : Nat) (t : Tsk) (m : Img) (i : Ins) (ho : t.outs.length < n) (hn : n < 1000000) (hb : i.1 = 17 ∨ i.1 = 18 → 0 ≤ i.2.1 ∧ i.2.1 < (m.blocks.length : Int)) (l : List Ins) (v k : Int) :
    check_job_names.j0 n true l v k t.1 t.2.1 t.2.2.1 t.2.2.2.1 t.2.2.2.2.1 t.2.2.2.2.2.1 t.2.2.2.2.2.2 m.1 m.2.1 m.2.2.1 m.2.2.2.1 m.2.2.2.2.1 m.2.2.2.2.2.1 m.2.2.2.2.2.2 i.1 i.2.1 i.2.2 = some (nameI m t i, l, v, k, t.1, t.2.1, t.2.2.1, t.2.2.2.1, t.2.2.2.2.1, t.2.2.2.2.2.1, t.2.2.2.2.2.2, m.1, m.2.1, m.2.2.1, m.2.2.2.1, m.2.2.2.2.1, m.2.2.2.2.2.1, m.2.2.2.2.2.2, i.1, i.2.1, i.2.2) := by
  unfold check_job_names.j0 nameI
  by_cases h15 : i.1 = 15
  · rw [if_pos (beq_iff_eq.2 h15), if_pos h15]
  rw [if_neg (fun h => h15 (beq_iff_eq.1 h)), if_neg h15]
  by_cases h16 : i.1 = 16
  · rw [if_pos (beq_iff_eq.2 h16), if_pos h16]
    have := owns_is n t m i.2.1 ho hn
    show ((check_job_owns.f n (t, m) i.2.1).bind _) = _
    rw [this]; rfl
  rw [if_neg (fun h => h16 (beq_iff_eq.1 h)), if_neg h16]
  by_cases h17 : i.1 = 17
  · have := hb (.inl h17)
    rw [if_pos (beq_iff_eq.2 h17), if_pos h17, if_pos (by rw [decide_eq_true this.1, decide_eq_true this.2]; rfl)]
  rw [if_neg (fun h => h17 (beq_iff_eq.1 h)), if_neg h17]
  by_cases h18 : i.1 = 18
  · have := hb (.inr h18)
    rw [if_pos (beq_iff_eq.2 h18), if_pos h18, if_pos (by rw [decide_eq_true this.1, decide_eq_true this.2]; rfl)]
  rw [if_neg (fun h => h18 (beq_iff_eq.1 h)), if_neg h18]
theorem names_is (n : Nat) (t : Tsk) (m : Img) (hl : t.code.length < n) (ho : t.outs.length < n) (hn : n < 1000000) (hb : ∀ i ∈ t.code, i.1 = 17 ∨ i.1 = 18 → 0 ≤ i.2.1 ∧ i.2.1 < (m.blocks.length : Int)) : check_job_names.f n (t, m) = some (if t.code.all (nameI m t) = true then 0 else 12) := by
  unfold check_job_names.f check_job_names.b1.l
  have := it_all (S := fun F (x : List Ins × Int × Int × Int × Int × Int × Int × List Int × List Int × List Ins × Int × Int × Int × Int × List Int × List (List Int) × List Tsk) => check_job_names.b1 n F x.1 x.2.1 x.2.2.1 x.2.2.2.1 x.2.2.2.2.1 x.2.2.2.2.2.1 x.2.2.2.2.2.2.1 x.2.2.2.2.2.2.2.1 x.2.2.2.2.2.2.2.2.1 x.2.2.2.2.2.2.2.2.2.1 x.2.2.2.2.2.2.2.2.2.2.1 x.2.2.2.2.2.2.2.2.2.2.2.1 x.2.2.2.2.2.2.2.2.2.2.2.2.1 x.2.2.2.2.2.2.2.2.2.2.2.2.2.1 x.2.2.2.2.2.2.2.2.2.2.2.2.2.2.1 x.2.2.2.2.2.2.2.2.2.2.2.2.2.2.2.1 x.2.2.2.2.2.2.2.2.2.2.2.2.2.2.2.2)
    (fun f x r => ∃ i : Nat, x = (t.code, (t.code.length : Int), (i : Int), t.1, t.2.1, t.2.2.1, t.2.2.2.1, t.2.2.2.2.1, t.2.2.2.2.2.1, t.2.2.2.2.2.2, m) ∧ i ≤ t.code.length ∧ t.code.length < f + i ∧ r = if (t.code.drop i).all (nameI m t) = true then .inr ((), ((t.1, t.2.1, t.2.2.1, t.2.2.2.1, t.2.2.2.2.1, t.2.2.2.2.2.1, t.2.2.2.2.2.2, m.1, m.2.1, m.2.2.1, m.2.2.2.1, m.2.2.2.2.1, m.2.2.2.2.2.1, m.2.2.2.2.2.2, ()), ())) else .inl ((12, ()), ((t.1, t.2.1, t.2.2.1, t.2.2.2.1, t.2.2.2.2.1, t.2.2.2.2.2.1, t.2.2.2.2.2.2, m.1, m.2.1, m.2.2.1, m.2.2.2.1, m.2.2.2.2.1, m.2.2.2.2.2.1, m.2.2.2.2.2.2, ()), ()))) (fun x r ⟨i, _, h1, h2, _⟩ => by omega) (fun f x F hF r => ?_) n (t.code, (t.code.length : Int), 0, t.1, t.2.1, t.2.2.1, t.2.2.2.1, t.2.2.2.2.1, t.2.2.2.2.2.1, t.2.2.2.2.2.2, m) _ ⟨0, rfl, Nat.zero_le _, by omega, rfl⟩
  · try dsimp only at this ⊢
    rw [this, List.drop_zero]
    cases h : t.code.all (nameI m t) <;> rfl
  · rintro ⟨i, rfl, h1, h2, rfl⟩
    show check_job_names.b1 n F t.code (t.code.length : Int) (i : Int) t.1 t.2.1 t.2.2.1 t.2.2.2.1 t.2.2.2.2.1 t.2.2.2.2.2.1 t.2.2.2.2.2.2 m.1 m.2.1 m.2.2.1 m.2.2.2.1 m.2.2.2.2.1 m.2.2.2.2.2.1 m.2.2.2.2.2.2 = _
    unfold check_job_names.b1
    rcases Nat.lt_or_ge i t.code.length with hlt | hge
    · have hm : t.code.getD i (0, 0, 0) ∈ t.code := by rw [List.getD_eq_getElem?_getD, List.getElem?_eq_getElem hlt]; exact List.getElem_mem hlt
      rw [if_pos (decide_eq_true (by omega)), if_pos (in_ix hlt), Int.toNat_natCast, names_j n t m _ ho hn (hb _ hm), drop_eq_cons (d := ((0 : Int), (0 : Int), (0 : Int))) hlt, List.all_cons]
      simp only [Option.bind_some]
      cases e : nameI m t (t.code.getD i (0, 0, 0)) with
      | true =>
        rw [if_neg (by simp), next_ix (by omega), Bool.true_and]
        exact hF _ _ ⟨i + 1, rfl, by omega, by omega, rfl⟩
      | false => rfl
    · have : i = t.code.length := by omega
      subst this
      rw [if_neg (by simp), List.drop_length]
      rfl
theorem lock1_len (l : List Ins) (i : Nat) : (lock1 l i).length ≤ 1 := by unfold lock1; split <;> simp
theorem lockF_len (l : List Ins) : ∀ (r i : Nat), (lockF l r i).length ≤ r
  | 0, i => by simp [lockF]
  | r + 1, i => by
    have := lockF_len l r (i + 1)
    have h1 := lock1_len l i
    rw [show lockF l (r + 1) i = lock1 l i ++ lockF l r (i + 1) from rfl, List.length_append]
    omega
theorem lockL_len (l : List Ins) : (lockL l).length ≤ l.length := by
  unfold lockL
  split
  · exact lockF_len l _ _
  · simp
theorem blocks_is (n : Nat) (t : Tsk) (m : Img) (hl : t.code.length < n) (hn3 : 3 < n) (hn : n < 1000000) : check_job_blocks.f n (t, m) = some (if locksI t.code ≠ 0 then locksI t.code else if lockL t.code = t.blocks then 0 else 11) := by
  unfold check_job_blocks.f
  rw [show nest_Locks.f n ((t, m) : Tsk × Img).1.2.2.2.2.2.2 = some (lockL t.code, locksI t.code) from locks_is2 n t.code hl hn]
  simp only [Option.bind_some]
  by_cases h0 : locksI t.code ≠ 0
  · rw [if_pos (bne_iff_ne.2 h0), if_pos h0]
  rw [if_neg (fun h => h0 (bne_iff_ne.1 h)), if_neg h0]
  by_cases hlen : (lockL t.code).length ≠ t.blocks.length
  · rw [if_pos (show ((((lockL t.code).length : Nat) : Int) != ((t.2.2.2.2.1.length : Nat) : Int)) = true from bne_iff_ne.2 (fun h => hlen (Int.ofNat.inj h))), if_neg (fun h => hlen (by rw [h]))]
  have hlen : (lockL t.code).length = t.blocks.length := Decidable.not_not.1 hlen
  rw [if_neg (show ¬ ((((lockL t.code).length : Nat) : Int) != ((t.2.2.2.2.1.length : Nat) : Int)) = true from fun h => bne_iff_ne.1 h (congrArg Int.ofNat hlen))]
  unfold check_job_blocks.b0.l
  have hk : (lockL t.code).length ≤ t.code.length := lockL_len t.code
  generalize lockL t.code = L at hlen hk
  have := it_all (S := fun F (x : List Int × Int × Int × Int × Int × Int × Int × List Int × List Int × List Ins × Int × Int × Int × Int × List Int × List (List Int) × List Tsk) => check_job_blocks.b0 n F x.1 x.2.1 x.2.2.1 x.2.2.2.1 x.2.2.2.2.1 x.2.2.2.2.2.1 x.2.2.2.2.2.2.1 x.2.2.2.2.2.2.2.1 x.2.2.2.2.2.2.2.2.1 x.2.2.2.2.2.2.2.2.2.1 x.2.2.2.2.2.2.2.2.2.2.1 x.2.2.2.2.2.2.2.2.2.2.2.1 x.2.2.2.2.2.2.2.2.2.2.2.2.1 x.2.2.2.2.2.2.2.2.2.2.2.2.2.1 x.2.2.2.2.2.2.2.2.2.2.2.2.2.2.1 x.2.2.2.2.2.2.2.2.2.2.2.2.2.2.2.1 x.2.2.2.2.2.2.2.2.2.2.2.2.2.2.2.2)
    (fun f x r => ∃ i : Nat, x = (L, (L.length : Int), (i : Int), t.1, t.2.1, t.2.2.1, t.2.2.2.1, t.2.2.2.2.1, t.2.2.2.2.2.1, t.2.2.2.2.2.2, m) ∧ i ≤ L.length ∧ L.length < f + i ∧ r = if L.drop i = t.blocks.drop i then .inr ((), ((t.1, t.2.1, t.2.2.1, t.2.2.2.1, t.2.2.2.2.1, t.2.2.2.2.2.1, t.2.2.2.2.2.2, m.1, m.2.1, m.2.2.1, m.2.2.2.1, m.2.2.2.2.1, m.2.2.2.2.2.1, m.2.2.2.2.2.2, ()), ())) else .inl ((11, ()), ((t.1, t.2.1, t.2.2.1, t.2.2.2.1, t.2.2.2.2.1, t.2.2.2.2.2.1, t.2.2.2.2.2.2, m.1, m.2.1, m.2.2.1, m.2.2.2.1, m.2.2.2.2.1, m.2.2.2.2.2.1, m.2.2.2.2.2.2, ()), ()))) (fun x r ⟨i, _, h1, h2, _⟩ => by omega) (fun f x F hF r => ?_) n (L, (L.length : Int), 0, t.1, t.2.1, t.2.2.1, t.2.2.2.1, t.2.2.2.2.1, t.2.2.2.2.2.1, t.2.2.2.2.2.2, m) _ ⟨0, rfl, Nat.zero_le _, by omega, rfl⟩
  · try dsimp only at this ⊢
    rw [this, List.drop_zero, List.drop_zero]
    by_cases h : L = t.blocks
    · rw [if_pos h, if_pos h]; rfl
    · rw [if_neg h, if_neg h]; rfl
  · rintro ⟨i, rfl, h1, h2, rfl⟩
    show check_job_blocks.b0 n F L (L.length : Int) (i : Int) t.1 t.2.1 t.2.2.1 t.2.2.2.1 t.2.2.2.2.1 t.2.2.2.2.2.1 t.2.2.2.2.2.2 m.1 m.2.1 m.2.2.1 m.2.2.2.1 m.2.2.2.2.1 m.2.2.2.2.2.1 m.2.2.2.2.2.2 = _
    unfold check_job_blocks.b0
    rcases Nat.lt_or_ge i L.length with hlt | hge
    · have hlt2 : i < t.2.2.2.2.1.length := by have : t.blocks.length = t.2.2.2.2.1.length := rfl; omega
      rw [if_pos (decide_eq_true (by omega)), if_pos (in_ix hlt), if_pos (in_ix hlt2), Int.toNat_natCast, drop_eq_cons (d := (0 : Int)) hlt, show t.blocks.drop i = t.2.2.2.2.1.getD i 0 :: t.blocks.drop (i + 1) from drop_eq_cons (d := (0 : Int)) hlt2]
      by_cases e : L.getD i 0 = t.2.2.2.2.1.getD i 0
      · rw [if_neg (fun h => bne_iff_ne.1 h e), next_ix (by omega), e]
        refine hF _ _ ⟨i + 1, rfl, by omega, by omega, ?_⟩
        simp only [List.cons.injEq, true_and]
      · rw [if_pos (bne_iff_ne.2 e), if_neg (fun h => e (List.cons.inj h).1)]
    · have : i = L.length := by omega
      subst this
      rw [if_neg (by simp), List.drop_length, hlen, List.drop_length]
      rfl
end Go.Proofs.Dk

/- Plain: whether an instruction has bytes. -/
namespace Go.Proofs.Dk
open Go
set_option maxRecDepth 100000
set_option linter.unusedVariables false
set_option linter.unusedSimpArgs false
theorem wrap_u64 (n : Int) : IntKind.u64.wrap n = n % 18446744073709551616 := by simp [IntKind.wrap, IntKind.bits, IntKind.signed]
theorem turn_in (n : Nat) (a : Int) : ∃ y, code_turn.f n a = some y ∧ 0 ≤ y ∧ y < 18446744073709551616 := by
  unfold code_turn.f
  refine ⟨_, rfl, ?_, ?_⟩
  · unfold bits
    rw [wrap_u64]
    exact Int.emod_nonneg _ (by decide)
  · unfold bits
    rw [wrap_u64]
    exact Int.emod_lt_of_pos _ (by decide)
theorem put_loop (n : Nat) : ∀ (f g : Nat) (o : List Int) (v : Int), 0 ≤ v → v < 128 ^ g → g < f → o.length + g < 1000 → ∃ o' v', it (fun F (x : List Int × Int) => code_Put.b0 n F x.1 x.2) f (o, v) = some (o', v') ∧ o'.length ≤ o.length + g
  | 0, g, o, v, h0, h1, hg, h2 => by omega
  | f + 1, g, o, v, h0, h1, hg, h2 => by
    have ih := put_loop n f
    show ∃ o' v', code_Put.b0 n (it _ f) o v = some (o', v') ∧ _
    generalize it (fun F (x : List Int × Int) => code_Put.b0 n F x.1 x.2) f = F at ih ⊢
    unfold code_Put.b0
    by_cases h : 128 ≤ v
    · obtain _ | g := g
      · rw [Int.pow_zero] at h1
        omega
      rw [if_pos (decide_eq_true h), if_pos (by rw [decide_eq_true (by omega), decide_eq_true (by omega)]; rfl)]
      have hd : v.tdiv 128 = v / 128 := Int.tdiv_eq_ediv_of_nonneg h0
      have hv : v / 128 < 128 ^ g := by
        rw [Int.pow_succ] at h1
        exact Int.ediv_lt_of_lt_mul (by decide) h1
      obtain ⟨o', v', h3, h4⟩ := ih g (o ++ [(IntKind.wrap .u8 (IntKind.wrap .u64 ((v.tmod 128) + 128)))]) ((IntKind.wrap .u64 (v.tdiv 128))) (by rw [wrap_u64]; exact Int.emod_nonneg _ (by decide)) (by
        rw [wrap_u64, hd]
        exact Int.lt_of_le_of_lt (by omega) hv) (by omega) (by rw [List.length_append]; show _ + 1 + g < 1000; omega)
      rw [List.length_append] at h4
      exact ⟨o', v', h3, by have : [IntKind.u8.wrap (IntKind.u64.wrap (v.tmod 128 + 128))].length = 1 := rfl; omega⟩
    · rw [if_neg (by simpa using h)]
      exact ⟨o, v, rfl, by omega⟩
theorem strNums_size (l : List Int) : (strNums l).size = l.length := by
  unfold strNums ByteArray.size
  simp
theorem put_is (n : Nat) (hn : 10 < n) (a : Int) : ∃ y, code_Put.f n a = some y ∧ y.size ≤ 11 := by
  obtain ⟨u, h1, h2, h3⟩ := turn_in n a
  unfold code_Put.f code_Put.b0.l
  rw [h1, Option.bind_some]
  obtain ⟨o, v, h4, h5⟩ := put_loop n n 10 [] u h2 (Int.lt_trans h3 (by decide)) hn (by decide)
  have h5 : o.length ≤ 10 := by simpa using h5
  rw [h4, Option.bind_some]
  dsimp only
  rw [if_pos (by rw [decide_eq_true (by omega), decide_eq_true (by omega)]; rfl)]
  refine ⟨_, rfl, ?_⟩
  rw [strNums_size, List.length_append]
  show _ + 1 ≤ 11
  omega
theorem of_some (n : Nat) (x : Ins) : ∃ y, op_of.f n x.1 = some y := by
  have h := right_is n x
  unfold op_Right.f at h
  match h2 : op_of.f n x.1 with
  | some y => exact ⟨y, rfl⟩
  | none => rw [h2] at h; cases h
theorem loop_len (y : ByteArray) : ∀ (k i : Nat) (r : List UInt8), y.size - i = k → r.length ≤ (ByteArray.toList.loop y i r).length
  | 0, i, r, h => by
    unfold ByteArray.toList.loop
    rw [if_neg (by omega), List.length_reverse]
    exact Nat.le_refl _
  | k + 1, i, r, h => by
    unfold ByteArray.toList.loop
    rw [if_pos (by omega)]
    have := loop_len y k (i + 1) (y.get! i :: r) (by omega)
    rw [List.length_cons] at this
    omega
theorem nil_list : (ByteArray.mk #[]).toList = [] := by
  unfold ByteArray.toList ByteArray.toList.loop
  rw [if_neg (by decide)]
  rfl
theorem list_ne {y : ByteArray} (h : 0 < y.size) : (y.toList == (ByteArray.mk #[]).toList) = false := by
  rw [nil_list, beq_eq_false_iff_ne]
  intro h1
  have : (ByteArray.toList.loop y 0 []).length = 0 := by
    have : y.toList = ByteArray.toList.loop y 0 [] := rfl
    rw [← this, h1]
    rfl
  unfold ByteArray.toList.loop at this
  rw [if_pos h] at this
  have h2 := loop_len y _ (0 + 1) [y.get! 0] rfl
  rw [this] at h2
  exact absurd h2 (Nat.not_succ_le_zero 0)
theorem encode_is (n : Nat) (hn : 10 < n) (x : Ins) : ∃ y, op_Encode.f n x = some y ∧ y.size ≤ 30 ∧ (y.toList == (ByteArray.mk #[]).toList) = !rightI x := by
  obtain ⟨o, ho⟩ := of_some n x
  obtain ⟨p, hp1, hp2⟩ := put_is n hn x.2.1
  obtain ⟨q, hq1, hq2⟩ := put_is n hn x.2.2
  have hs : (strNums ([(IntKind.wrap .u8 x.1)])).size = 1 := strNums_size _
  unfold op_Encode.f op_Args.f
  have hr : op_Right.f n (x.1, x.2.1, x.2.2) = some (rightI x) := right_is n x
  rw [hr, Option.bind_some]
  cases hb : rightI x with
  | false => exact ⟨_, rfl, by decide, by rw [beq_self_eq_true]; rfl⟩
  | true =>
    rw [if_neg (by simp), ho, hp1, hq1]
    simp only [Option.bind_some]
    split
    · rw [if_pos (decide_eq_true (by omega))]
      split
      · have : (strNums ([(IntKind.wrap .u8 x.1)]) ++ p).size = 1 + p.size := by rw [ByteArray.size_append, hs]
        rw [if_pos (decide_eq_true (by omega))]
        refine ⟨_, rfl, ?_, ?_⟩
        · rw [ByteArray.size_append, this]; omega
        · exact list_ne (by rw [ByteArray.size_append, this]; omega)
      · have : (strNums ([(IntKind.wrap .u8 x.1)]) ++ p).size = 1 + p.size := by rw [ByteArray.size_append, hs]
        exact ⟨_, rfl, by omega, list_ne (by omega)⟩
    · split
      · rw [if_pos (decide_eq_true (by omega))]
        have : (strNums ([(IntKind.wrap .u8 x.1)]) ++ q).size = 1 + q.size := by rw [ByteArray.size_append, hs]
        exact ⟨_, rfl, by omega, list_ne (by omega)⟩
      · exact ⟨_, rfl, by omega, list_ne (by omega)⟩
end Go.Proofs.Dk

/- Plain: whether a task of an image can be. -/
namespace Go.Proofs.Dk
open Go
set_option maxRecDepth 100000
set_option linter.unusedVariables false
set_option linter.unusedSimpArgs false
def Says (o : Option Bool) (p : Prop) : Prop := ∃ b, o = some b ∧ (b = true ↔ p)
theorem Says.dec {p : Prop} [Decidable p] : Says (some (decide p)) p := ⟨_, rfl, decide_eq_true_iff⟩
theorem Says.and {o : Option Bool} {f : Bool → Option Bool} {p q : Prop} (h : Says o p) (k : Says (f true) q) (g : f false = some false) : Says (o.bind f) (p ∧ q) := by
  obtain ⟨b, h1, h2⟩ := h
  obtain ⟨c, k1, k2⟩ := k
  rw [h1]
  cases b with
  | true => exact ⟨c, k1, by rw [k2]; exact ⟨fun e => ⟨h2.1 rfl, e⟩, fun e => e.2⟩⟩
  | false => exact ⟨false, g, ⟨fun e => absurd e (by decide), fun e => absurd (h2.2 e.1) (by decide)⟩⟩
theorem Says.iff {o : Option Bool} {p q : Prop} (h : Says o p) (k : p ↔ q) : Says o q := by
  obtain ⟨b, h1, h2⟩ := h
  exact ⟨b, h1, h2.trans k⟩
theorem Says.no {p : Prop} (h : ¬ p) : Says (some false) p := ⟨false, rfl, fun e => absurd e (by decide), fun e => absurd e h⟩
def Rises (e : Int) : Int → List Int → Prop
  | _, [] => True
  | b, x :: l => b < x ∧ x < e ∧ Rises e x l
theorem rises_is (n : Nat) (l : List Int) (e : Int) (he : 0 ≤ e) (hen : e + 1 < n) (hn : n < 1000000) : Says (image_rises.f n l e) (Rises e (-1) l) := by
  unfold image_rises.f image_rises.b0.l
  have := it_all (S := fun F (x : Int × Int × List Int × Int × Int) => image_rises.b0 n F x.1 x.2.1 x.2.2.1 x.2.2.2.1 x.2.2.2.2) (fun f x r => ∃ (i : Nat) (b : Int) (c : Bool), x = (e, b, l, (l.length : Int), (i : Int)) ∧ (i ≤ l.length ∧ (i : Int) ≤ b + 1 ∧ b < e) ∧ e < b + f ∧ (c = true ↔ Rises e b (l.drop i)) ∧ r = if c = true then .inr ((), ()) else .inl ((false, ()), ())) (fun x r ⟨i, b, c, _, h1, h2, _⟩ => by omega) (fun f x F hF r => ?_) n (e, -1, l, (l.length : Int), 0)
  · classical
    refine ⟨decide (Rises e (-1) l), ?_, decide_eq_true_iff⟩
    rw [this _ ⟨0, -1, decide (Rises e (-1) l), rfl, ⟨Nat.zero_le _, by omega, by omega⟩, by omega, decide_eq_true_iff, rfl⟩]
    cases decide (Rises e (-1) l) <;> rfl
  · rintro ⟨i, b, c, rfl, h1, h2, hc, rfl⟩
    show image_rises.b0 n F e b l (l.length : Int) (i : Int) = _
    unfold image_rises.b0
    rcases Nat.lt_or_ge i l.length with hlt | hge
    · rw [drop_eq_cons (d := (0 : Int)) hlt] at hc
      rw [if_pos (decide_eq_true (by omega)), if_pos (in_ix hlt), Int.toNat_natCast, next_ix (by omega)]
      have hno : ∀ (h : ¬ (b < l.getD i 0 ∧ l.getD i 0 < e)), c = false := fun h => by
        cases c with
        | false => rfl
        | true => exact absurd ⟨(hc.1 rfl).1, (hc.1 rfl).2.1⟩ h
      by_cases g1 : l.getD i 0 ≤ b
      · rw [if_pos (decide_eq_true g1), hno (by omega)]; rfl
      rw [if_neg (by simpa using g1)]
      by_cases g2 : l.getD i 0 ≥ e
      · rw [if_pos (decide_eq_true g2), hno (by omega)]; rfl
      rw [if_neg (by simpa using g2)]
      exact hF _ _ ⟨i + 1, l.getD i 0, c, rfl, by omega, by omega, hc.trans ⟨fun h => h.2.2, fun h => ⟨by omega, by omega, h⟩⟩, rfl⟩
    · have : i = l.length := by omega
      subst this
      rw [List.drop_length] at hc
      rw [if_neg (by simp), if_pos (hc.2 trivial)]
theorem Rises.len {e : Int} : ∀ {l : List Int} {b : Int}, Rises e b l → b < e → (l.length : Int) ≤ e - 1 - b
  | [], b, _, h => by simp; omega
  | x :: l, b, h, h1 => by
    have := Rises.len h.2.2 h.2.1
    have := h.1
    rw [List.length_cons]
    omega
theorem Rises.mem {e : Int} : ∀ {l : List Int} {b : Int}, Rises e b l → ∀ x ∈ l, b < x ∧ x < e
  | x :: l, b, h, y, hy => by
    rcases List.mem_cons.1 hy with rfl | hy
    · exact ⟨h.1, h.2.1⟩
    · have := Rises.mem h.2.2 y hy
      have := h.1
      omega
end Go.Proofs.Dk

/- Plain: places that rise, as the document says; instructions' bytes. -/
namespace Go.Proofs.Dk
open Go
set_option maxRecDepth 100000
set_option linter.unusedVariables false
set_option linter.unusedSimpArgs false
theorem nil_of_size {y : ByteArray} (h : y.size = 0) : y.toList = [] := by
  unfold ByteArray.toList ByteArray.toList.loop
  rw [if_neg (by omega)]
  rfl
noncomputable def catE (n : Nat) (s : ByteArray) (l : List Ins) : ByteArray := l.foldl (fun s x => s ++ (op_Encode.f n x).getD (ByteArray.mk #[])) s
theorem encode_size (n : Nat) (hn : 10 < n) {x : Ins} (hx : rightI x = true) : ∃ y, op_Encode.f n x = some y ∧ 1 ≤ y.size ∧ y.size ≤ 30 := by
  obtain ⟨y, h1, h2, h3⟩ := encode_is n hn x
  refine ⟨y, h1, ?_, h2⟩
  rcases Nat.eq_zero_or_pos y.size with h | h
  · rw [nil_of_size h, nil_list, hx] at h3
    exact absurd h3 (by decide)
  · exact h
theorem catE_size (n : Nat) (hn : 10 < n) : ∀ (l : List Ins) (s : ByteArray), (∀ x ∈ l, rightI x = true) → s.size + l.length ≤ (catE n s l).size
  | [], s, _ => Nat.le_refl _
  | x :: l, s, h => by
    obtain ⟨y, h1, h2, _⟩ := encode_size n hn (h x List.mem_cons_self)
    have := catE_size n hn l (s ++ (op_Encode.f n x).getD (ByteArray.mk #[])) fun y hy => h y (List.mem_cons_of_mem _ hy)
    rw [ByteArray.size_append, h1, Option.getD_some] at this
    show _ ≤ (catE n (s ++ (op_Encode.f n x).getD (ByteArray.mk #[])) l).size
    rw [h1, Option.getD_some, List.length_cons]
    omega
def CodeOk (l : List Ins) : Prop := 1 ≤ l.length ∧ l.length ≤ 200 ∧ ∀ x ∈ l, rightI x = true
theorem code_is (n : Nat) (hn : 200 < n) (l : List Ins) : Says ((op_Code.f n l).bind fun y4 => some (!(y4.toList == (ByteArray.mk #[]).toList))) (CodeOk l) := by
  unfold op_Code.f op_Code.b0.l
  by_cases hl : ¬ l.length ≤ 200
  · rw [if_pos (decide_eq_true (by omega)), Option.bind_some, beq_self_eq_true]
    exact Says.no (fun h => hl h.2.1)
  have hl : l.length ≤ 200 := Decidable.not_not.1 hl
  rw [if_neg (by simp; omega)]
  have := it_all (S := fun F (x : ByteArray × List Ins × Int × Int) => op_Code.b0 n F x.1 x.2.1 x.2.2.1 x.2.2.2) (fun f x r => ∃ (i : Nat) (s : ByteArray), x = (s, l, (l.length : Int), (i : Int)) ∧ i ≤ l.length ∧ l.length < f + i ∧ s.size ≤ 30 * i ∧ r = if (l.drop i).all rightI = true then .inr ((catE n s (l.drop i), ()), ()) else .inl ((ByteArray.mk #[], ()), ())) (fun x r ⟨i, s, _, h1, h2, _⟩ => by omega) (fun f x F hF r => ?_) n (ByteArray.mk #[], l, (l.length : Int), 0) _ ⟨0, _, rfl, Nat.zero_le _, by omega, by decide, rfl⟩
  · rw [this, List.drop_zero, Option.bind_some]
    cases h : l.all rightI with
    | true =>
      have hr : ∀ x ∈ l, rightI x = true := List.all_eq_true.1 h
      have hs := catE_size n (by omega) l (ByteArray.mk #[]) hr
      refine Says.iff (p := 1 ≤ l.length) ?_ ⟨fun h => ⟨h, hl, hr⟩, fun h => h.1⟩
      refine ⟨_, rfl, ?_⟩
      show (!((catE n (ByteArray.mk #[]) l).toList == (ByteArray.mk #[]).toList)) = true ↔ _
      by_cases h1 : 1 ≤ l.length
      · rw [list_ne (by omega)]
        exact ⟨fun _ => h1, fun _ => rfl⟩
      · have : l = [] := List.length_eq_zero_iff.1 (by omega)
        subst this
        rw [show catE n (ByteArray.mk #[]) [] = ByteArray.mk #[] from rfl, beq_self_eq_true]
        exact ⟨fun h => absurd h (by decide), fun h => absurd h h1⟩
    | false =>
      rw [if_neg (by decide)]
      show Says (some (!((ByteArray.mk #[]).toList == (ByteArray.mk #[]).toList))) _
      rw [beq_self_eq_true]
      exact Says.no (fun k => by rw [List.all_eq_true.2 k.2.2] at h; cases h)
  · rintro ⟨i, s, rfl, h1, h2, hs, rfl⟩
    show op_Code.b0 n F s l (l.length : Int) (i : Int) = _
    unfold op_Code.b0
    rcases Nat.lt_or_ge i l.length with hlt | hge
    · obtain ⟨y, e1, e2, e3⟩ := encode_is n (by omega) (l.getD i (0, 0, 0))
      rw [if_pos (decide_eq_true (by omega)), if_pos (in_ix hlt), Int.toNat_natCast, next_ix (by omega), show op_Encode.f n ((l.getD i (0, 0, 0)).1, (l.getD i (0, 0, 0)).2.1, (l.getD i (0, 0, 0)).2.2) = some y from e1, Option.bind_some, e3, drop_eq_cons (d := ((0 : Int), (0 : Int), (0 : Int))) hlt, List.all_cons]
      cases hb : rightI (l.getD i (0, 0, 0)) with
      | false => rfl
      | true =>
        rw [if_neg (by decide), if_pos (decide_eq_true (by omega)), Bool.true_and]
        refine hF _ _ ⟨i + 1, _, rfl, by omega, by omega, by rw [ByteArray.size_append]; omega, ?_⟩
        rw [show catE n s (l.getD i (0, 0, 0) :: l.drop (i + 1)) = catE n (s ++ (op_Encode.f n (l.getD i (0, 0, 0))).getD (ByteArray.mk #[])) (l.drop (i + 1)) from rfl, e1, Option.getD_some]
    · have : i = l.length := by omega
      subst this
      rw [if_neg (by simp), List.drop_length]
      rfl
end Go.Proofs.Dk

/- Plain: whether a task can be. -/
namespace Go.Proofs.Dk
open Go
set_option maxRecDepth 100000
set_option linter.unusedVariables false
set_option linter.unusedSimpArgs false
def NumsOk (t : Tsk) : Prop := (1 ≤ t.1 ∧ t.1 ≤ 100) ∧ (1 ≤ t.2.1 ∧ t.2.1 ≤ 1048576) ∧ (1 ≤ t.2.2.1 ∧ t.2.2.1 ≤ t.2.1) ∧ (0 ≤ t.2.2.2.1 ∧ t.2.2.2.1 ≤ 1048576)
def TaskOk (m : Img) (t : Tsk) : Prop := NumsOk t ∧ Rises m.blocks.length (-1) t.blocks ∧ Rises m.safe.length (-1) t.outs ∧ CodeOk t.code
theorem numbers_is (n : Nat) (t : Tsk) : Says ((image_Task_numbers.f n t).bind fun y1 => some (Sh.eqT (.arr 4 (.int .i64)) y1 [t.1, t.2.1, t.2.2.1, t.2.2.2.1])) (NumsOk t) := by
  obtain ⟨a, b, c, d, t⟩ := t
  unfold image_Task_numbers.f NumsOk
  refine ⟨_, rfl, ?_⟩
  dsimp only
  rw [show ∀ x1 x2 x3 x4 y1 y2 y3 y4 : Int, Sh.eqT (.arr 4 (.int .i64)) [x1, x2, x3, x4] [y1, y2, y3, y4] = (x1 == y1 && (x2 == y2 && (x3 == y3 && (x4 == y4 && true)))) from fun _ _ _ _ _ _ _ _ => rfl]
  simp only [Bool.and_eq_true, beq_iff_eq, and_true]
  constructor
  · rintro ⟨h1, h2, h3, h4⟩
    repeat' split at h1
    all_goals (repeat' split at h4)
    all_goals (rw [h2] at h3; repeat' split at h2)
    all_goals (repeat' split at h3)
    all_goals omega
  · rintro ⟨⟨h1, h2⟩, ⟨h3, h4⟩, ⟨h5, h6⟩, h7, h8⟩
    have e : (if (if 1048576 < b then 1048576 else b) > 1 then (if 1048576 < b then 1048576 else b) else 1) = b := by
      rw [if_neg (show ¬ 1048576 < b by omega)]; split <;> omega
    rw [e, if_neg (show ¬ 100 < a by omega), if_neg (show ¬ b < c by omega), if_neg (show ¬ 1048576 < d by omega)]
    refine ⟨?_, rfl, ?_, ?_⟩ <;> (split <;> omega)
theorem task_right_is (n : Nat) (hn : 200 < n) (hn2 : n < 1000000) (m : Img) (t : Tsk) (hb : m.blocks.length + 1 < n) (ho : m.safe.length + 1 < n) : Says (image_Task_right.f n t m) (TaskOk m t) := by
  obtain ⟨b, h1, h2⟩ := numbers_is n t
  unfold image_Task_right.f
  unfold Option.bind at h1
  rw [show image_Task_numbers.f n (t.1, t.2.1, t.2.2.1, t.2.2.2.1, t.2.2.2.2.1, t.2.2.2.2.2.1, t.2.2.2.2.2.2) = image_Task_numbers.f n t from rfl]
  match hy : image_Task_numbers.f n t with
  | none => rw [hy] at h1; cases h1
  | some y =>
    rw [hy] at h1
    have h1 : Sh.eqT (.arr 4 (.int .i64)) y [t.1, t.2.1, t.2.2.1, t.2.2.2.1] = b := Option.some.inj h1
    rw [Option.bind_some, h1]
    cases b with
    | false => exact Says.no (fun h => by have := h2.2 h.1; cases this)
    | true =>
      rw [if_neg (by decide)]
      have hN : NumsOk t := h2.1 rfl
      by_cases h0 : t.code.length = 0
      · rw [if_pos (show (((t.2.2.2.2.2.2.length : Nat) : Int) == 0) = true from beq_iff_eq.2 (by have : t.code.length = t.2.2.2.2.2.2.length := rfl; omega))]
        exact Says.no (fun h => by have := h.2.2.2.1; omega)
      · rw [if_neg (show ¬ (((t.2.2.2.2.2.2.length : Nat) : Int) == 0) = true from fun h => h0 (by have h := beq_iff_eq.1 h; have : t.code.length = t.2.2.2.2.2.2.length := rfl; omega))]
        refine Says.iff (p := Rises m.blocks.length (-1) t.blocks ∧ Rises m.safe.length (-1) t.outs ∧ CodeOk t.code) ?_ ⟨fun h => ⟨hN, h⟩, fun h => h.2⟩
        exact Says.and (rises_is n t.blocks (m.blocks.length : Int) (by omega) (by omega) hn2) (Says.and (rises_is n t.outs (m.safe.length : Int) (by omega) (by omega) hn2) (code_is n hn t.code) rfl) rfl
end Go.Proofs.Dk

/- Plain: whether an image can be. -/
namespace Go.Proofs.Dk
open Go
set_option maxRecDepth 100000
set_option linter.unusedVariables false
set_option linter.unusedSimpArgs false
def apart : List Int → List Int → Bool
  | _, [] => true
  | s, x :: l => !s.contains x && apart (s ++ [x]) l
def stopS : List Int → List Int → List Int
  | s, [] => s
  | s, x :: l => if s.contains x = true then s else stopS (s ++ [x]) l
theorem stopS_all : ∀ {l s : List Int}, apart s l = true → stopS s l = s ++ l
  | [], s, _ => by simp [stopS]
  | x :: l, s, h => by
    unfold apart at h
    rw [Bool.and_eq_true, Bool.not_eq_true'] at h
    unfold stopS
    rw [if_neg (by rw [h.1]; decide), stopS_all h.2, List.append_assoc]
    rfl
theorem apart_append : ∀ {l k s : List Int}, apart s (l ++ k) = (apart s l && apart (s ++ l) k)
  | [], k, s => by simp [apart]
  | x :: l, k, s => by
    rw [List.cons_append, show apart s (x :: (l ++ k)) = (!s.contains x && apart (s ++ [x]) (l ++ k)) from rfl, show apart s (x :: l) = (!s.contains x && apart (s ++ [x]) l) from rfl, apart_append, Bool.and_assoc, List.append_assoc]
    rfl
def own (s : List Int) : List Bool := (List.range 16).map fun i => s.contains ((i : Nat) : Int)
theorem own_get (s : List Int) {o : Int} (h0 : 0 ≤ o) (h1 : o < 16) : (own s).getD o.toNat false = s.contains o := by
  unfold own
  rw [List.getD_eq_getElem?_getD, List.getElem?_map, List.getElem?_range (by omega)]
  simp [Int.toNat_of_nonneg h0]
theorem own_set (s : List Int) {o : Int} (h0 : 0 ≤ o) (h1 : o < 16) : (own s).set o.toNat true = own (s ++ [o]) := by
  apply List.ext_getElem
  · simp [own]
  · intro i h2 h3
    have hi : i < 16 := by simpa [own] using h3
    rw [List.getElem_set]
    unfold own
    simp only [List.getElem_map, List.getElem_range, List.contains_append]
    by_cases h : o.toNat = i
    · rw [if_pos h]
      have : ((i : Nat) : Int) = o := by omega
      rw [this]
      simp
    · rw [if_neg h]
      have : ((i : Nat) : Int) ≠ o := by omega
      simp [this]
theorem owned_loop (n : Nat) (m : Img) (T : List Tsk) (a k : Int) (l : List Int) (hl : l.length < n) (hn : n < 1000000) (hb : ∀ x ∈ l, 0 ≤ x ∧ x < 16) (s : List Int) : image_Right.b1.l n (T, a, k, l, (l.length : Int), 0, m.1, m.2.1, m.2.2.1, m.2.2.2.1, m.2.2.2.2.1, m.2.2.2.2.2.1, m.2.2.2.2.2.2, own s) = some (if apart s l = true then .inr ((T, a, k, ()), ((m.1, m.2.1, m.2.2.1, m.2.2.2.1, m.2.2.2.2.1, m.2.2.2.2.2.1, m.2.2.2.2.2.2, ()), (own (stopS s l), ()), ())) else .inl ((false, ()), ((m.1, m.2.1, m.2.2.1, m.2.2.2.1, m.2.2.2.2.1, m.2.2.2.2.2.1, m.2.2.2.2.2.2, ()), (own (stopS s l), ()), ()))) := by
  unfold image_Right.b1.l
  refine it_all (S := fun F (x : List Tsk × Int × Int × List Int × Int × Int × Int × Int × Int × Int × List Int × List (List Int) × List Tsk × List Bool) => image_Right.b1 n F x.1 x.2.1 x.2.2.1 x.2.2.2.1 x.2.2.2.2.1 x.2.2.2.2.2.1 x.2.2.2.2.2.2.1 x.2.2.2.2.2.2.2.1 x.2.2.2.2.2.2.2.2.1 x.2.2.2.2.2.2.2.2.2.1 x.2.2.2.2.2.2.2.2.2.2.1 x.2.2.2.2.2.2.2.2.2.2.2.1 x.2.2.2.2.2.2.2.2.2.2.2.2.1 x.2.2.2.2.2.2.2.2.2.2.2.2.2)
    (fun f x r => ∃ (i : Nat) (s : List Int), x = (T, a, k, l, (l.length : Int), (i : Int), m.1, m.2.1, m.2.2.1, m.2.2.2.1, m.2.2.2.2.1, m.2.2.2.2.2.1, m.2.2.2.2.2.2, own s) ∧ i ≤ l.length ∧ l.length < f + i ∧ r = if apart s (l.drop i) = true then .inr ((T, a, k, ()), ((m.1, m.2.1, m.2.2.1, m.2.2.2.1, m.2.2.2.2.1, m.2.2.2.2.2.1, m.2.2.2.2.2.2, ()), (own (stopS s (l.drop i)), ()), ())) else .inl ((false, ()), ((m.1, m.2.1, m.2.2.1, m.2.2.2.1, m.2.2.2.2.1, m.2.2.2.2.2.1, m.2.2.2.2.2.2, ()), (own (stopS s (l.drop i)), ()), ()))) (fun x r ⟨i, s, _, h1, h2, _⟩ => by omega) (fun f x F hF r => ?_) n _ _ ⟨0, s, rfl, Nat.zero_le _, by omega, rfl⟩
  rintro ⟨i, s, rfl, h1, h2, rfl⟩
  show image_Right.b1 n F T a k l (l.length : Int) (i : Int) m.1 m.2.1 m.2.2.1 m.2.2.2.1 m.2.2.2.2.1 m.2.2.2.2.2.1 m.2.2.2.2.2.2 (own s) = _
  unfold image_Right.b1
  rcases Nat.lt_or_ge i l.length with hlt | hge
  · have hm : l.getD i 0 ∈ l := by rw [List.getD_eq_getElem?_getD, List.getElem?_eq_getElem hlt]; exact List.getElem_mem hlt
    obtain ⟨h3, h4⟩ := hb _ hm
    have h5 : (decide (0 ≤ l.getD i 0) && decide (l.getD i 0 < 16)) = true := by rw [decide_eq_true h3, decide_eq_true h4]; rfl
    rw [if_pos (decide_eq_true (by omega)), if_pos (in_ix hlt), Int.toNat_natCast, if_pos h5, own_get s h3 h4, drop_eq_cons (d := (0 : Int)) hlt, next_ix (by omega)]
    unfold apart stopS
    cases h : s.contains (l.getD i 0) with
    | true => rfl
    | false =>
      rw [if_neg (show ¬ (false = true) by decide), if_neg (show ¬ (false = true) by decide), if_pos h5, own_set s h3 h4, Bool.not_false, Bool.true_and]
      exact hF _ _ ⟨i + 1, _, rfl, by omega, by omega, rfl⟩
  · have : i = l.length := by omega
    subst this
    rw [if_neg (by simp), List.drop_length]
    rfl
def TasksOk (m : Img) : List Int → List Tsk → Prop
  | _, [] => True
  | s, t :: l => TaskOk m t ∧ apart s t.outs = true ∧ TasksOk m (s ++ t.outs) l
theorem TasksOk.all {m : Img} : ∀ {l : List Tsk} {s : List Int}, TasksOk m s l ↔ (∀ t ∈ l, TaskOk m t) ∧ apart s (l.flatMap Tsk.outs) = true
  | [], s => by simp [TasksOk, apart]
  | t :: l, s => by
    unfold TasksOk
    rw [TasksOk.all, List.flatMap_cons, apart_append, Bool.and_eq_true, List.forall_mem_cons]
    exact ⟨fun ⟨h1, h2, h3, h4⟩ => ⟨⟨h1, h3⟩, h2, h4⟩, fun ⟨⟨h1, h3⟩, h2, h4⟩ => ⟨h1, h2, h3, h4⟩⟩
open Classical in
noncomputable def stopT (m : Img) : List Int → List Tsk → List Int
  | s, [] => s
  | s, t :: l => if TaskOk m t then (if apart s t.outs = true then stopT m (s ++ t.outs) l else stopS s t.outs) else s
theorem tasks_loop (n : Nat) (hn : 200 < n) (hn2 : n < 1000000) (m : Img) (hbl : m.blocks.length + 1 < n) (hs : m.safe.length ≤ 16) (hT : m.tasks.length < n) :
    Says ((image_Right.b2.l n (m.tasks, (m.tasks.length : Int), 0, m.1, m.2.1, m.2.2.1, m.2.2.2.1, m.2.2.2.2.1, m.2.2.2.2.2.1, m.2.2.2.2.2.2, own [])).bind fun y => Sum.elim (fun z => some z.1.1) (fun z => some true) y) (TasksOk m [] m.tasks) := by
  unfold image_Right.b2.l
  have hit := it_all (S := fun F (x : List Tsk × Int × Int × Int × Int × Int × Int × List Int × List (List Int) × List Tsk × List Bool) => image_Right.b2 n F x.1 x.2.1 x.2.2.1 x.2.2.2.1 x.2.2.2.2.1 x.2.2.2.2.2.1 x.2.2.2.2.2.2.1 x.2.2.2.2.2.2.2.1 x.2.2.2.2.2.2.2.2.1 x.2.2.2.2.2.2.2.2.2.1 x.2.2.2.2.2.2.2.2.2.2)
    (fun f x r => ∃ (i : Nat) (s : List Int) (c : Bool), x = (m.tasks, (m.tasks.length : Int), (i : Int), m.1, m.2.1, m.2.2.1, m.2.2.2.1, m.2.2.2.2.1, m.2.2.2.2.2.1, m.2.2.2.2.2.2, own s) ∧ i ≤ m.tasks.length ∧ m.tasks.length < f + i ∧ (c = true ↔ TasksOk m s (m.tasks.drop i)) ∧ r = if c = true then .inr ((), ((m.1, m.2.1, m.2.2.1, m.2.2.2.1, m.2.2.2.2.1, m.2.2.2.2.2.1, m.2.2.2.2.2.2, ()), (own (stopT m s (m.tasks.drop i)), ()), ())) else .inl ((false, ()), ((m.1, m.2.1, m.2.2.1, m.2.2.2.1, m.2.2.2.2.1, m.2.2.2.2.2.1, m.2.2.2.2.2.2, ()), (own (stopT m s (m.tasks.drop i)), ()), ()))) (fun x r ⟨i, s, c, _, h1, h2, _⟩ => by omega) (fun f x F hF r => ?_) n (m.tasks, (m.tasks.length : Int), 0, m.1, m.2.1, m.2.2.1, m.2.2.2.1, m.2.2.2.2.1, m.2.2.2.2.2.1, m.2.2.2.2.2.2, own [])
  · have := Classical.propDecidable (TasksOk m [] m.tasks)
    refine ⟨decide (TasksOk m [] m.tasks), ?_, decide_eq_true_iff⟩
    rw [hit _ ⟨0, [], decide (TasksOk m [] m.tasks), rfl, Nat.zero_le _, by omega, decide_eq_true_iff, rfl⟩, Option.bind_some]
    cases decide (TasksOk m [] m.tasks) <;> rfl
  · rintro ⟨i, s, c, rfl, h1, h2, hc, rfl⟩
    show image_Right.b2 n F m.tasks (m.tasks.length : Int) (i : Int) m.1 m.2.1 m.2.2.1 m.2.2.2.1 m.2.2.2.2.1 m.2.2.2.2.2.1 m.2.2.2.2.2.2 (own s) = _
    unfold image_Right.b2
    rcases Nat.lt_or_ge i m.tasks.length with hlt | hge
    · rw [drop_eq_cons (d := ((0 : Int), (0 : Int), (0 : Int), (0 : Int), ([] : List Int), ([] : List Int), ([] : List Ins))) hlt] at hc ⊢
      rw [if_pos (decide_eq_true (by omega)), if_pos (in_ix hlt), Int.toNat_natCast]
      generalize m.tasks.getD i (0, 0, 0, 0, [], [], []) = t at hc ⊢
      obtain ⟨b, e1, e2⟩ := task_right_is n hn hn2 m t hbl (by omega)
      rw [show image_Task_right.f n (t.1, t.2.1, t.2.2.1, t.2.2.2.1, t.2.2.2.2.1, t.2.2.2.2.2.1, t.2.2.2.2.2.2) (m.1, m.2.1, m.2.2.1, m.2.2.2.1, m.2.2.2.2.1, m.2.2.2.2.2.1, m.2.2.2.2.2.2) = some b from e1, Option.bind_some]
      cases b with
      | false =>
        have ht : ¬ TaskOk m t := fun h => by have := e2.2 h; cases this
        have hc0 : c = false := by cases c with
          | false => rfl
          | true => exact absurd (hc.1 rfl).1 ht
        rw [hc0]
        unfold stopT
        rw [if_neg ht]
        rfl
      | true =>
        have ht : TaskOk m t := e2.1 rfl
        have hr := ht.2.2.1
        have hlen := hr.len (by omega)
        have hmem := hr.mem
        rw [if_neg (by decide), owned_loop n m m.tasks _ _ t.outs (by omega) hn2 (fun x hx => by have := hmem x hx; omega) s, Option.bind_some]
        unfold stopT
        rw [if_pos ht]
        cases ha : apart s t.outs with
        | false =>
          have hc0 : c = false := by cases c with
            | false => rfl
            | true => have := (hc.1 rfl).2.1; rw [ha] at this; cases this
          rw [hc0]
          rfl
        | true =>
          rw [if_pos rfl, stopS_all ha, if_pos rfl]
          dsimp only [Sum.elim_inr]
          rw [next_ix (by omega)]
          exact hF _ _ ⟨i + 1, s ++ t.outs, c, rfl, by omega, by omega, hc.trans ⟨fun h => h.2.2, fun h => ⟨ht, ha, h⟩⟩, rfl⟩
    · have : i = m.tasks.length := by omega
      subst this
      rw [List.drop_length] at hc ⊢
      rw [if_neg (by simp), if_pos (hc.2 trivial)]
      rfl
end Go.Proofs.Dk

/- Plain: whether an image can be. -/
namespace Go.Proofs.Dk
open Go
set_option maxRecDepth 100000
set_option linter.unusedVariables false
set_option linter.unusedSimpArgs false
def ImgNums (m : Img) : Prop := (0 ≤ m.1 ∧ m.1 ≤ 100) ∧ (1 ≤ m.2.1 ∧ m.2.1 ≤ 100) ∧ (1 ≤ m.2.2.1 ∧ m.2.2.1 ≤ 100) ∧ (0 ≤ m.2.2.2.1 ∧ m.2.2.2.1 ≤ 16) ∧ m.safe.length ≤ 16 ∧ m.blocks.length ≤ 8 ∧ (1 ≤ m.tasks.length ∧ m.tasks.length ≤ 8)
def WordsOk (l : List (List Int)) : Prop := ∀ b ∈ l, 1 ≤ b.length ∧ b.length ≤ 8
def RightP (m : Img) : Prop := ImgNums m ∧ WordsOk m.blocks ∧ TasksOk m [] m.tasks
theorem words_loop (n : Nat) (hn2 : n < 1000000) (m : Img) (hT : m.blocks.length < n) (F : Option Bool) :
    ∃ c, (c = true ↔ WordsOk m.blocks) ∧ image_Right.b0.l n (m.blocks, (m.blocks.length : Int), 0, m.1, m.2.1, m.2.2.1, m.2.2.2.1, m.2.2.2.2.1, m.2.2.2.2.2.1, m.2.2.2.2.2.2) = some (if c = true then .inr ((), ((m.1, m.2.1, m.2.2.1, m.2.2.2.1, m.2.2.2.2.1, m.2.2.2.2.2.1, m.2.2.2.2.2.2, ()), ())) else .inl ((false, ()), ((m.1, m.2.1, m.2.2.1, m.2.2.2.1, m.2.2.2.2.1, m.2.2.2.2.2.1, m.2.2.2.2.2.2, ()), ()))) := by
  unfold image_Right.b0.l
  have := Classical.propDecidable (WordsOk m.blocks)
  refine ⟨decide (WordsOk m.blocks), decide_eq_true_iff, ?_⟩
  refine it_all (S := fun F (x : List (List Int) × Int × Int × Int × Int × Int × Int × List Int × List (List Int) × List Tsk) => image_Right.b0 n F x.1 x.2.1 x.2.2.1 x.2.2.2.1 x.2.2.2.2.1 x.2.2.2.2.2.1 x.2.2.2.2.2.2.1 x.2.2.2.2.2.2.2.1 x.2.2.2.2.2.2.2.2.1 x.2.2.2.2.2.2.2.2.2)
    (fun f x r => ∃ (i : Nat) (c : Bool), x = (m.blocks, (m.blocks.length : Int), (i : Int), m.1, m.2.1, m.2.2.1, m.2.2.2.1, m.2.2.2.2.1, m.2.2.2.2.2.1, m.2.2.2.2.2.2) ∧ i ≤ m.blocks.length ∧ m.blocks.length < f + i ∧ (c = true ↔ WordsOk (m.blocks.drop i)) ∧ r = if c = true then .inr ((), ((m.1, m.2.1, m.2.2.1, m.2.2.2.1, m.2.2.2.2.1, m.2.2.2.2.2.1, m.2.2.2.2.2.2, ()), ())) else .inl ((false, ()), ((m.1, m.2.1, m.2.2.1, m.2.2.2.1, m.2.2.2.2.1, m.2.2.2.2.2.1, m.2.2.2.2.2.2, ()), ()))) (fun x r ⟨i, c, _, h1, h2, _⟩ => by omega) (fun f x F hF r => ?_) n _ _ ⟨0, decide (WordsOk m.blocks), rfl, Nat.zero_le _, by omega, decide_eq_true_iff, rfl⟩
  rintro ⟨i, c, rfl, h1, h2, hc, rfl⟩
  show image_Right.b0 n F m.blocks (m.blocks.length : Int) (i : Int) m.1 m.2.1 m.2.2.1 m.2.2.2.1 m.2.2.2.2.1 m.2.2.2.2.2.1 m.2.2.2.2.2.2 = _
  unfold image_Right.b0
  rcases Nat.lt_or_ge i m.blocks.length with hlt | hge
  · rw [drop_eq_cons (d := ([] : List Int)) hlt] at hc
    rw [if_pos (decide_eq_true (by omega)), if_pos (in_ix hlt), Int.toNat_natCast]
    generalize m.blocks.getD i [] = b at hc ⊢
    have hc : c = true ↔ (1 ≤ b.length ∧ b.length ≤ 8) ∧ WordsOk (m.blocks.drop (i + 1)) := hc.trans List.forall_mem_cons
    have hno : ∀ (h : ¬ (1 ≤ b.length ∧ b.length ≤ 8)), c = false := fun h => by
      cases c with
      | false => rfl
      | true => exact absurd (hc.1 rfl).1 h
    by_cases g1 : b.length = 0
    · rw [if_pos (beq_iff_eq.2 (by omega)), hno (by omega)]; rfl
    rw [if_neg (fun h => g1 (by have := beq_iff_eq.1 h; omega))]
    by_cases g2 : b.length ≤ 8
    · rw [if_neg (by simp; omega), next_ix (by omega)]
      exact hF _ _ ⟨i + 1, c, rfl, by omega, by omega, hc.trans ⟨fun h => h.2, fun h => ⟨by omega, h⟩⟩, rfl⟩
    · rw [if_pos (decide_eq_true (by omega)), hno (by omega)]; rfl
  · have : i = m.blocks.length := by omega
    subst this
    rw [List.drop_length] at hc
    rw [if_neg (by simp), if_pos (hc.2 (fun b hb => by cases hb))]
theorem and7 {a b c d e f g : Bool} {A B C D E F G : Prop} (ha : a = true ↔ A) (hb : b = true ↔ B) (hc : c = true ↔ C) (hd : d = true ↔ D) (he : e = true ↔ E) (hf : f = true ↔ F) (hg : g = true ↔ G) : (a && (b && (c && (d && (e && (f && g)))))) = true ↔ A ∧ B ∧ C ∧ D ∧ E ∧ F ∧ G := by
  simp only [Bool.and_eq_true, ha, hb, hc, hd, he, hf, hg]
theorem right_is_img (n : Nat) (hn : 200 < n) (hn2 : n < 1000000) (m : Img) : Says (image_Right.f n m) (RightP m) := by
  unfold image_Right.f
  have hN : ∀ {b : Bool}, (b = true ↔ ImgNums m) → ∀ {o : Option Bool}, (ImgNums m → Says o (RightP m)) → Says (if (!b) = true then some false else o) (RightP m) := fun {b} hb {o} ho => by
    cases b with
    | false => exact Says.no (fun h => by have := hb.2 h.1; cases this)
    | true => exact ho (hb.1 rfl)
  refine hN ?_ ?_
  · refine and7 ?_ ?_ ?_ ?_ ?_ ?_ ?_
    all_goals (rw [beq_iff_eq])
    · generalize m.1 = a; constructor <;> intro h <;> (repeat' split at *) <;> omega
    · generalize m.2.1 = a; constructor <;> intro h <;> (repeat' split at *) <;> omega
    · generalize m.2.2.1 = a; constructor <;> intro h <;> (repeat' split at *) <;> omega
    · generalize m.2.2.2.1 = a; constructor <;> intro h <;> (repeat' split at *) <;> omega
    · show (m.safe.length : Int) = _ ↔ _
      generalize m.safe.length = a; constructor <;> intro h <;> (repeat' split at *) <;> omega
    · show (m.blocks.length : Int) = _ ↔ _
      generalize m.blocks.length = a; constructor <;> intro h <;> (repeat' split at *) <;> omega
    · show (m.tasks.length : Int) = _ ↔ _
      generalize m.tasks.length = a; constructor <;> intro h <;> (repeat' split at *) <;> omega
  · intro hI
    obtain ⟨_, _, _, _, h5, h6, h7⟩ := id hI
    obtain ⟨c, hc, e⟩ := words_loop n hn2 m (by omega) none
    rw [e, Option.bind_some]
    cases c with
    | false => exact Says.no (fun h => by have := hc.2 h.2.1; cases this)
    | true => exact (tasks_loop n hn hn2 m (by omega) h5 (by omega)).iff ⟨fun h => ⟨hI, hc.1 rfl, h⟩, fun h => h.2.2⟩
end Go.Proofs.Dk

/- Plain: whether an image can be, as the document says. -/
namespace Go.Proofs.Dk
open Go
set_option maxRecDepth 100000
set_option linter.unusedVariables false
set_option linter.unusedSimpArgs false
def LightP (m : Img) : Prop := m.safe.length + m.blocks.length + m.tasks.length ≤ 80 ∧ ∀ t ∈ m.tasks, t.code.length ≤ 4019
end Go.Proofs.Dk

/- Plain: what is wrong with a task. -/
namespace Go.Proofs.Dk
open Go
set_option maxRecDepth 100000
set_option linter.unusedVariables false
set_option linter.unusedSimpArgs false
theorem lockF_mem (l : List Ins) : ∀ (r i p : Nat), i ≤ p → p < i + r → opAt l p = 23 → argA l p ∈ lockF l r i
  | 0, i, p, h1, h2, h3 => by omega
  | r + 1, i, p, h1, h2, h3 => by
    rw [show lockF l (r + 1) i = lock1 l i ++ lockF l r (i + 1) from rfl, List.mem_append]
    by_cases h : i = p
    · subst h
      left
      unfold lock1
      rw [if_pos h3]
      exact List.mem_cons_self
    · exact .inr (lockF_mem l r (i + 1) p (by omega) (by omega) h3)
theorem locked_mem {l : List Ins} (h : locksI l = 0) {i : Nat} (hi : i < l.length) (ho : opAt l i = 17 ∨ opAt l i = 18) : argA l i ∈ lockL l := by
  have hb := locks_ok h hi
  unfold badI at hb
  rw [if_neg (by omega), if_pos ho, Bool.not_eq_false'] at hb
  unfold underB at hb
  obtain ⟨k, h1, h2⟩ := anyB_iff.1 hb
  simp only [Bool.and_eq_true, beq_iff_eq] at h2
  unfold lockL
  rw [if_pos h, ← h2.2.2]
  exact lockF_mem l _ _ k (Nat.zero_le _) (by omega) h2.2.1
theorem locked_blocks {m : Img} {t : Tsk} (hl : locksI t.code = 0) (hb : lockL t.code = t.blocks) (ht : TaskOk m t) : ∀ i ∈ t.code, i.1 = 17 ∨ i.1 = 18 → 0 ≤ i.2.1 ∧ i.2.1 < (m.blocks.length : Int) := by
  intro x hx ho
  obtain ⟨i, hi, e⟩ := List.getElem_of_mem hx
  have e : t.code.getD i (0, 0, 0) = x := by rw [getD_in hi, e]
  have h := locked_mem hl hi (by unfold opAt; rw [e]; exact ho)
  rw [hb] at h
  have := ht.2.1.mem _ h
  unfold argA at this
  rw [e] at this
  omega
open Classical in
noncomputable def taskI (n : Nat) (m : Img) (i : Int) : Int :=
  if RightP m then
    if i < 0 ∨ i ≥ (m.tasks.length : Int) then 14
    else
      let t := m.tasks.getD i.toNat (0, 0, 0, 0, [], [], [])
      if (allI bM n t.code).2 ≠ 0 then (allI bM n t.code).2 else if lockL t.code = t.blocks then (if t.code.all (nameI m t) = true then 0 else 12) else 11
  else 12
theorem RightP.task {m : Img} (h : RightP m) {i : Int} (h0 : 0 ≤ i) (h1 : i < (m.tasks.length : Int)) : TaskOk m (m.tasks.getD i.toNat (0, 0, 0, 0, [], [], [])) ∧ m.tasks.getD i.toNat (0, 0, 0, 0, [], [], []) ∈ m.tasks := by
  have hlt : i.toNat < m.tasks.length := by omega
  have hm : m.tasks.getD i.toNat ((0 : Int), (0 : Int), (0 : Int), (0 : Int), ([] : List Int), ([] : List Int), ([] : List Ins)) ∈ m.tasks := by rw [List.getD_eq_getElem?_getD, List.getElem?_eq_getElem hlt]; exact List.getElem_mem hlt
  exact ⟨(TasksOk.all.1 h.2.2).1 _ hm, hm⟩
theorem task_is (n : Nat) (hn : 200 < n) (hn2 : n < 1000000) (m : Img) (i : Int) : check_Task.f n m i = some (taskI n m i) := by
  obtain ⟨b, e1, e2⟩ := right_is_img n hn hn2 m
  unfold check_Task.f
  rw [show image_Right.f n (m.1, m.2.1, m.2.2.1, m.2.2.2.1, m.2.2.2.2.1, m.2.2.2.2.2.1, m.2.2.2.2.2.2) = some b from e1, Option.bind_some]
  unfold taskI
  cases b with
  | false =>
    rw [if_pos (show (!false) = true from rfl), if_neg (show ¬ RightP m from fun h => by have := e2.2 h; cases this)]
  | true =>
    have hR := e2.1 rfl
    rw [if_pos hR, if_neg (by decide)]
    by_cases h0 : i < 0
    · rw [if_pos (decide_eq_true h0), if_pos (.inl h0)]
    rw [if_neg (by simpa using h0)]
    by_cases h1 : i ≥ (m.tasks.length : Int)
    · rw [if_pos (show decide (i ≥ (m.2.2.2.2.2.2.length : Int)) = true from decide_eq_true h1), if_pos (.inr h1)]
    rw [if_neg (show ¬ decide (i ≥ (m.2.2.2.2.2.2.length : Int)) = true from fun h => h1 (of_decide_eq_true h)), if_neg (show ¬ (i < 0 ∨ i ≥ (m.tasks.length : Int)) by omega), if_pos (show (decide (0 ≤ i) && decide (i < (m.2.2.2.2.2.2.length : Int))) = true by rw [decide_eq_true (by omega), decide_eq_true (show i < (m.2.2.2.2.2.2.length : Int) from by have : (m.tasks.length : Int) = (m.2.2.2.2.2.2.length : Int) := rfl; omega)]; rfl)]
    obtain ⟨ht, hm⟩ := hR.task (i := i) (by omega) (by omega)
    rw [show m.2.2.2.2.2.2.getD i.toNat (0, 0, 0, 0, [], [], []) = m.tasks.getD i.toNat (0, 0, 0, 0, [], [], []) from rfl]
    generalize m.tasks.getD i.toNat (0, 0, 0, 0, [], [], []) = t at ht ⊢
    have hc : t.code.length < n := by have := ht.2.2.2.2.1; omega
    have hol : t.outs.length < n := by have := ht.2.2.1.len (by omega); have := hR.1.2.2.2.2.1; omega
    have hS : check_job_steps.f n ((t.1, t.2.1, t.2.2.1, t.2.2.2.1, t.2.2.2.2.1, t.2.2.2.2.2.1, t.2.2.2.2.2.2), (m.1, m.2.1, m.2.2.1, m.2.2.2.1, m.2.2.2.2.1, m.2.2.2.2.2.1, m.2.2.2.2.2.2)) = some (allI bM n t.code).2 := by
      unfold check_job_steps.f
      rw [show cost_Worst.f n (((t.1, t.2.1, t.2.2.1, t.2.2.2.1, t.2.2.2.2.1, t.2.2.2.2.2.1, t.2.2.2.2.2.2), (m.1, m.2.1, m.2.2.1, m.2.2.2.1, m.2.2.2.2.1, m.2.2.2.2.2.1, m.2.2.2.2.2.2)) : Tsk × Img).1.2.2.2.2.2.2 = some (allI bM n t.code) from worst_is n t.code hc (by omega) hn2]
      rfl
    rw [hS, Option.bind_some]
    dsimp only
    by_cases hz : (allI bM n t.code).2 ≠ 0
    · rw [if_pos (bne_iff_ne.2 hz), if_pos hz]
    rw [if_neg (fun h => hz (bne_iff_ne.1 h)), if_neg hz]
    have hlk := (all_zero (Decidable.not_not.1 hz)).1
    have hB : check_job_blocks.f n ((t.1, t.2.1, t.2.2.1, t.2.2.2.1, t.2.2.2.2.1, t.2.2.2.2.2.1, t.2.2.2.2.2.2), (m.1, m.2.1, m.2.2.1, m.2.2.2.1, m.2.2.2.2.1, m.2.2.2.2.2.1, m.2.2.2.2.2.2)) = some (if lockL t.code = t.blocks then 0 else 11) := by
      have := blocks_is n t m hc (by omega) hn2
      rw [if_neg (fun h => h hlk)] at this
      exact this
    rw [hB, Option.bind_some]
    by_cases hb : lockL t.code = t.blocks
    · rw [if_pos hb, if_pos hb, if_neg (by decide)]
      have hN : check_job_names.f n ((t.1, t.2.1, t.2.2.1, t.2.2.2.1, t.2.2.2.2.1, t.2.2.2.2.2.1, t.2.2.2.2.2.2), (m.1, m.2.1, m.2.2.1, m.2.2.2.1, m.2.2.2.2.1, m.2.2.2.2.2.1, m.2.2.2.2.2.2)) = _ := names_is n t m hc hol hn2 (locked_blocks hlk hb ht)
      rw [hN, Option.bind_some]
      cases t.code.all (nameI m t) <;> rfl
    · rw [if_neg hb, if_neg hb]
      rfl
end Go.Proofs.Dk

/- Plain: images that ask little. -/
namespace Go.Proofs.Dk
open Go
set_option maxRecDepth 100000
set_option linter.unusedVariables false
set_option linter.unusedSimpArgs false
def cut100 (k : Nat) : Int := if (100 : Int) < (k : Int) then 100 else (k : Int)
def cut10000 (k : Nat) : Int := if (10000 : Int) < (k : Int) then 10000 else (k : Int)
theorem cut100_in (k : Nat) : 0 ≤ cut100 k ∧ cut100 k ≤ 100 := by unfold cut100; split <;> omega
theorem cut10000_in (k : Nat) : 0 ≤ cut10000 k ∧ cut10000 k ≤ 10000 := by unfold cut10000; split <;> omega
def lightB (a : Int) (l : List (List Int)) : Int := l.foldl (fun a b => a + cut100 b.length) a
def lightT (a : Int) (l : List Tsk) : Int := l.foldl (fun a t => a + cut100 t.blocks.length + cut100 t.outs.length + (cut10000 t.code.length).tdiv 20) a
theorem lightB_ge : ∀ {l : List (List Int)} {a : Int}, a ≤ lightB a l ∧ lightB a l ≤ a + 100 * l.length
  | [], a => by simp [lightB]
  | b :: l, a => by
    have := lightB_ge (l := l) (a := a + cut100 b.length)
    have := cut100_in b.length
    rw [show lightB a (b :: l) = lightB (a + cut100 b.length) l from rfl, List.length_cons]
    omega
theorem lightT_ge : ∀ {l : List Tsk} {a : Int}, a ≤ lightT a l ∧ ∀ t ∈ l, a + (cut10000 t.code.length).tdiv 20 ≤ lightT a l
  | [], a => by simp [lightT]
  | t :: l, a => by
    obtain ⟨h1, h2⟩ := lightT_ge (l := l) (a := a + cut100 t.blocks.length + cut100 t.outs.length + (cut10000 t.code.length).tdiv 20)
    have h3 := cut100_in t.blocks.length
    have h4 := cut100_in t.outs.length
    have h5 := cut10000_in t.code.length
    have h6 : (cut10000 t.code.length).tdiv 20 = cut10000 t.code.length / 20 := Int.tdiv_eq_ediv_of_nonneg h5.1
    rw [show lightT a (t :: l) = lightT (a + cut100 t.blocks.length + cut100 t.outs.length + (cut10000 t.code.length).tdiv 20) l from rfl, List.forall_mem_cons]
    refine ⟨by omega, by omega, fun u hu => ?_⟩
    have := h2 u hu
    omega
theorem lightB_is (n : Nat) (hn : n < 1000000) (m : Img) (hT : m.blocks.length < n) (a : Int) (ha : 0 ≤ a ∧ a ≤ 80) : camshaftlaw11_Light.b0.l n (a, 0, m.1, m.2.1, m.2.2.1, m.2.2.2.1, m.2.2.2.2.1, m.2.2.2.2.2.1, m.2.2.2.2.2.2) = some (lightB a m.blocks, m.1, m.2.1, m.2.2.1, m.2.2.2.1, m.2.2.2.2.1, m.2.2.2.2.2.1, m.2.2.2.2.2.2) := by
  unfold camshaftlaw11_Light.b0.l
  refine it_all (S := fun F (x : Int × Int × Int × Int × Int × Int × List Int × List (List Int) × List Tsk) => camshaftlaw11_Light.b0 n F x.1 x.2.1 x.2.2.1 x.2.2.2.1 x.2.2.2.2.1 x.2.2.2.2.2.1 x.2.2.2.2.2.2.1 x.2.2.2.2.2.2.2.1 x.2.2.2.2.2.2.2.2)
    (fun f x r => ∃ (i : Nat) (b : Int), x = (b, (i : Int), m.1, m.2.1, m.2.2.1, m.2.2.2.1, m.2.2.2.2.1, m.2.2.2.2.2.1, m.2.2.2.2.2.2) ∧ i ≤ m.blocks.length ∧ m.blocks.length < f + i ∧ (0 ≤ b ∧ b ≤ 80 + 100 * i) ∧ r = (lightB b (m.blocks.drop i), m.1, m.2.1, m.2.2.1, m.2.2.2.1, m.2.2.2.2.1, m.2.2.2.2.2.1, m.2.2.2.2.2.2)) (fun x r ⟨i, b, _, h1, h2, _⟩ => by omega) (fun f x F hF r => ?_) n _ _ ⟨0, a, rfl, Nat.zero_le _, by omega, by omega, rfl⟩
  rintro ⟨i, b, rfl, h1, h2, hb, rfl⟩
  show camshaftlaw11_Light.b0 n F b (i : Int) m.1 m.2.1 m.2.2.1 m.2.2.2.1 m.2.2.2.2.1 m.2.2.2.2.2.1 m.2.2.2.2.2.2 = _
  unfold camshaftlaw11_Light.b0
  rcases Nat.lt_or_ge i m.blocks.length with hlt | hge
  · rw [if_pos (show decide ((i : Int) < (m.2.2.2.2.2.1.length : Int)) = true from decide_eq_true (by exact_mod_cast hlt)), if_pos (show (decide (0 ≤ (i : Int)) && decide ((i : Int) < (m.2.2.2.2.2.1.length : Int))) = true from in_ix hlt), Int.toNat_natCast, next_ix (by omega), drop_eq_cons (d := ([] : List Int)) hlt]
    have hc := cut100_in (m.blocks.getD i []).length
    show F (IntKind.wrap .i64 (b + cut100 (m.blocks.getD i []).length), _) = _
    rw [wrap_id (show -9223372036854775808 ≤ b + cut100 (m.blocks.getD i []).length by omega) (show b + cut100 (m.blocks.getD i []).length ≤ 9223372036854775807 by omega)]
    exact hF _ _ ⟨i + 1, _, rfl, by omega, by omega, by omega, rfl⟩
  · have : i = m.blocks.length := by omega
    subst this
    rw [if_neg (by simp), List.drop_length]
    rfl
theorem lightT_is (n : Nat) (hn : n < 1000000) (m : Img) (hT : m.tasks.length < n) (hB : m.blocks.length < n) (a : Int) (ha : 0 ≤ a ∧ a ≤ 80 + 100 * m.blocks.length) : camshaftlaw11_Light.b1.l n (a, 0, m.1, m.2.1, m.2.2.1, m.2.2.2.1, m.2.2.2.2.1, m.2.2.2.2.2.1, m.2.2.2.2.2.2) = some (lightT a m.tasks, m.1, m.2.1, m.2.2.1, m.2.2.2.1, m.2.2.2.2.1, m.2.2.2.2.2.1, m.2.2.2.2.2.2) := by
  unfold camshaftlaw11_Light.b1.l
  refine it_all (S := fun F (x : Int × Int × Int × Int × Int × Int × List Int × List (List Int) × List Tsk) => camshaftlaw11_Light.b1 n F x.1 x.2.1 x.2.2.1 x.2.2.2.1 x.2.2.2.2.1 x.2.2.2.2.2.1 x.2.2.2.2.2.2.1 x.2.2.2.2.2.2.2.1 x.2.2.2.2.2.2.2.2)
    (fun f x r => ∃ (i : Nat) (b : Int), x = (b, (i : Int), m.1, m.2.1, m.2.2.1, m.2.2.2.1, m.2.2.2.2.1, m.2.2.2.2.2.1, m.2.2.2.2.2.2) ∧ i ≤ m.tasks.length ∧ m.tasks.length < f + i ∧ (0 ≤ b ∧ b ≤ 80 + 100 * m.blocks.length + 700 * i) ∧ r = (lightT b (m.tasks.drop i), m.1, m.2.1, m.2.2.1, m.2.2.2.1, m.2.2.2.2.1, m.2.2.2.2.2.1, m.2.2.2.2.2.2)) (fun x r ⟨i, b, _, h1, h2, _⟩ => by omega) (fun f x F hF r => ?_) n _ _ ⟨0, a, rfl, Nat.zero_le _, by omega, by omega, rfl⟩
  rintro ⟨i, b, rfl, h1, h2, hb, rfl⟩
  show camshaftlaw11_Light.b1 n F b (i : Int) m.1 m.2.1 m.2.2.1 m.2.2.2.1 m.2.2.2.2.1 m.2.2.2.2.2.1 m.2.2.2.2.2.2 = _
  unfold camshaftlaw11_Light.b1
  rcases Nat.lt_or_ge i m.tasks.length with hlt | hge
  · rw [if_pos (show decide ((i : Int) < (m.2.2.2.2.2.2.length : Int)) = true from decide_eq_true (by exact_mod_cast hlt)), if_pos (show (decide (0 ≤ (i : Int)) && decide ((i : Int) < (m.2.2.2.2.2.2.length : Int))) = true from in_ix hlt), Int.toNat_natCast, next_ix (by omega), drop_eq_cons (d := ((0 : Int), (0 : Int), (0 : Int), (0 : Int), ([] : List Int), ([] : List Int), ([] : List Ins))) hlt]
    rw [show m.2.2.2.2.2.2.getD i (0, 0, 0, 0, [], [], []) = m.tasks.getD i (0, 0, 0, 0, [], [], []) from rfl]
    generalize m.tasks.getD i (0, 0, 0, 0, [], [], []) = t
    have h3 := cut100_in t.blocks.length
    have h4 := cut100_in t.outs.length
    have h5 := cut10000_in t.code.length
    have h6 : (cut10000 t.code.length).tdiv 20 = cut10000 t.code.length / 20 := Int.tdiv_eq_ediv_of_nonneg h5.1
    show F (IntKind.wrap .i64 (IntKind.wrap .i64 (IntKind.wrap .i64 (b + cut100 t.blocks.length) + cut100 t.outs.length) + IntKind.wrap .i64 ((cut10000 t.code.length).tdiv 20)), _) = _
    rw [wrap_id (e := (cut10000 t.code.length).tdiv 20) (by omega) (by omega), wrap_id (e := b + cut100 t.blocks.length) (by omega) (by omega), wrap_id (e := b + cut100 t.blocks.length + cut100 t.outs.length) (by omega) (by omega), wrap_id (e := b + cut100 t.blocks.length + cut100 t.outs.length + (cut10000 t.code.length).tdiv 20) (by omega) (by omega)]
    exact hF _ _ ⟨i + 1, _, rfl, by omega, by omega, by omega, rfl⟩
  · have : i = m.tasks.length := by omega
    subst this
    rw [if_neg (by simp), List.drop_length]
    rfl
theorem light_is (n : Nat) (hn0 : 200 < n) (hn : n < 1000000) (m : Img) (hs : m.safe.length < 9000000000000000 ∧ m.blocks.length < 9000000000000000 ∧ m.tasks.length < 9000000000000000) : camshaftlaw11_Light.f n m = some 0 ∨ (camshaftlaw11_Light.f n m = some 1 ∧ LightP m) := by
  unfold camshaftlaw11_Light.f
  have e : IntKind.wrap .i64 (IntKind.wrap .i64 ((m.safe.length : Int) + (m.blocks.length : Int)) + (m.tasks.length : Int)) = (m.safe.length : Int) + (m.blocks.length : Int) + (m.tasks.length : Int) := by
    rw [wrap_id (e := (m.safe.length : Int) + (m.blocks.length : Int)) (by omega) (by omega), wrap_id (by omega) (by omega)]
  rw [show IntKind.wrap .i64 (IntKind.wrap .i64 ((m.2.2.2.2.1.length : Int) + (m.2.2.2.2.2.1.length : Int)) + (m.2.2.2.2.2.2.length : Int)) = (m.safe.length : Int) + (m.blocks.length : Int) + (m.tasks.length : Int) from e]
  by_cases h : (m.safe.length : Int) + (m.blocks.length : Int) + (m.tasks.length : Int) > 80
  · rw [if_pos (decide_eq_true h)]
    exact .inl rfl
  rw [if_neg (by simpa using h), lightB_is n hn m (by omega) _ (by omega), Option.bind_some]
  obtain ⟨hB1, hB2⟩ := lightB_ge (l := m.blocks) (a := (m.safe.length : Int) + (m.blocks.length : Int) + (m.tasks.length : Int))
  rw [show camshaftlaw11_Light.b1.l n _ = _ from lightT_is n hn m (by omega) (by omega) (lightB ((m.safe.length : Int) + (m.blocks.length : Int) + (m.tasks.length : Int)) m.blocks) (by omega), Option.bind_some]
  dsimp only
  obtain ⟨hT1, hT2⟩ := lightT_ge (l := m.tasks) (a := lightB ((m.safe.length : Int) + (m.blocks.length : Int) + (m.tasks.length : Int)) m.blocks)
  split
  · exact .inl rfl
  · rename_i h2
    have h2 : lightT (lightB ((m.safe.length : Int) + (m.blocks.length : Int) + (m.tasks.length : Int)) m.blocks) m.tasks ≤ 200 := by simpa using h2
    refine .inr ⟨rfl, by omega, fun t ht => ?_⟩
    have h3 := hT2 t ht
    have h5 := cut10000_in t.code.length
    have h6 : (cut10000 t.code.length).tdiv 20 = cut10000 t.code.length / 20 := Int.tdiv_eq_ediv_of_nonneg h5.1
    have h7 : cut10000 t.code.length ≤ 4019 := by omega
    unfold cut10000 at h7
    split at h7 <;> omega
end Go.Proofs.Dk

/- Plain: slots, locks, all. -/
namespace Go.Proofs.Dk
open Go
set_option maxRecDepth 100000
set_option linter.unusedVariables false
set_option linter.unusedSimpArgs false
abbrev taskAt (m : Img) (i : Int) : Tsk := m.tasks.getD i.toNat (0, 0, 0, 0, [], [], [])
theorem taskI_zero {n : Nat} {m : Img} {i : Int} (h : taskI n m i = 0) : RightP m ∧ (0 ≤ i ∧ i < (m.tasks.length : Int)) ∧ (allI bM n (taskAt m i).code).2 = 0 ∧ lockL (taskAt m i).code = (taskAt m i).blocks ∧ (taskAt m i).code.all (nameI m (taskAt m i)) = true := by
  unfold taskI at h
  split at h
  · rename_i hR
    split at h
    · cases h
    · dsimp only at h
      split at h
      · rename_i h1
        exact absurd h h1
      · rename_i h1
        split at h
        · rename_i h2
          split at h
          · rename_i h3
            exact ⟨hR, by omega, Decidable.not_not.1 h1, h2, h3⟩
          · cases h
        · cases h
  · cases h
noncomputable def slotsI (n : Nat) (m : Img) (i : Int) : Int × Int :=
  if taskI n m i ≠ 0 then (0, taskI n m i) else ((allI bM n (taskAt m i).code).1 + 2 * m.1 + m.2.1 + m.2.2.1, 0)
noncomputable def lockedI (n : Nat) (m : Img) (i : Int) : List Int × Int :=
  if taskI n m i ≠ 0 then ([], taskI n m i) else ((sectI n (taskAt m i).code).1.map Prod.snd, 0)
theorem ix_some {i : Int} {k : Nat} (h0 : 0 ≤ i) (h1 : i < (k : Int)) : (decide (0 ≤ i) && decide (i < (k : Int))) = true := by rw [decide_eq_true h0, decide_eq_true h1]; rfl
theorem slots_is (n : Nat) (hn : 200 < n) (hn2 : n < 1000000) (m : Img) (i : Int) : check_Slots.f n m i = some (slotsI n m i) := by
  unfold check_Slots.f slotsI
  rw [show check_Task.f n (m.1, m.2.1, m.2.2.1, m.2.2.2.1, m.2.2.2.2.1, m.2.2.2.2.2.1, m.2.2.2.2.2.2) i = _ from task_is n hn hn2 m i, Option.bind_some]
  by_cases h : taskI n m i ≠ 0
  · rw [if_pos (bne_iff_ne.2 h), if_pos h]
  rw [if_neg (fun k => h (bne_iff_ne.1 k)), if_neg h]
  obtain ⟨hR, ⟨h0, h1⟩, h2, h3, h4⟩ := taskI_zero (Decidable.not_not.1 h)
  obtain ⟨ht, hm⟩ := hR.task h0 h1
  have hc : (taskAt m i).code.length < n := Nat.lt_of_le_of_lt ht.2.2.2.2.1 (by omega)
  rw [if_pos (show (decide (0 ≤ i) && decide (i < (m.2.2.2.2.2.2.length : Int))) = true from ix_some h0 h1)]
  rw [show cost_Worst.f n (m.2.2.2.2.2.2.getD i.toNat (0, 0, 0, 0, [], [], [])).2.2.2.2.2.2 = _ from worst_is n (taskAt m i).code hc (by omega) hn2, Option.bind_some]
  try dsimp only
  obtain ⟨_, a1, a2, _, a3⟩ := allI_err n _ h2
  obtain ⟨n1, n2, n3, _⟩ := hR.1
  rw [h2, wrap_id (e := m.1 + m.2.1) (by omega) (by omega), wrap_id (e := m.1 + m.2.1 + (allI bM n (taskAt m i).code).1) (by omega) (by omega), wrap_id (e := m.1 + m.2.1 + (allI bM n (taskAt m i).code).1 + m.2.2.1) (by omega) (by omega), wrap_id (by omega) (by omega)]
  congr 2
  omega
theorem len_loop (n : Nat) (hn : n < 1000000) (e : Int) (s : List (Int × Int)) (hs : s.length < n) : check_Locked.b0.l n (e, [], s, (s.length : Int), 0) = some (e, s.map Prod.snd) := by
  unfold check_Locked.b0.l
  refine it_all (S := fun F (x : Int × List Int × List (Int × Int) × Int × Int) => check_Locked.b0 n F x.1 x.2.1 x.2.2.1 x.2.2.2.1 x.2.2.2.2)
    (fun f x r => ∃ i : Nat, x = (e, (s.take i).map Prod.snd, s, (s.length : Int), (i : Int)) ∧ i ≤ s.length ∧ s.length < f + i ∧ r = (e, s.map Prod.snd)) (fun x r ⟨i, _, h1, h2, _⟩ => by omega) (fun f x F hF r => ?_) n _ _ ⟨0, rfl, Nat.zero_le _, by omega, rfl⟩
  rintro ⟨i, rfl, h1, h2, rfl⟩
  show check_Locked.b0 n F e ((s.take i).map Prod.snd) s (s.length : Int) (i : Int) = _
  unfold check_Locked.b0
  rcases Nat.lt_or_ge i s.length with hlt | hge
  · have hl : ((s.take i).map Prod.snd).length = i := by rw [List.length_map, List.length_take]; omega
    rw [if_pos (decide_eq_true (by omega)), if_pos (in_ix hlt), if_pos (by rw [decide_eq_true (by omega), decide_eq_true (by omega)]; rfl), Int.toNat_natCast, next_ix (by omega)]
    refine hF _ _ ⟨i + 1, ?_, by omega, by omega, rfl⟩
    have e : (s.take i).map Prod.snd ++ [(s.getD i (0, 0)).2] = (s.take (i + 1)).map Prod.snd := by
      rw [List.take_add_one, List.getD_eq_getElem?_getD, List.getElem?_eq_getElem hlt, List.map_append]
      rfl
    rw [← e]
  · have : i = s.length := by omega
    subst this
    rw [if_neg (by simp), List.take_length]
theorem sectI_err {n : Nat} {l : List Ins} (h : (allI bM n l).2 = 0) : (sectI n l).2 = 0 := by
  unfold sectI
  rw [if_neg (fun k => k h)]
theorem sectL_len : ∀ {l : List Ins} {m : List Int} {n : Nat} (r i : Nat), (sectS l m n r i).length ≤ r
  | l, m, n, 0, i => by simp [sectS]
  | l, m, n, r + 1, i => by
    have := sectL_len (l := l) (m := m) (n := n) r (i + 1)
    unfold sectS
    rw [List.length_append]
    split <;> simp <;> omega
theorem sectI_len2 (n : Nat) (l : List Ins) : (sectI n l).1.length ≤ l.length := by
  unfold sectI
  split
  · simp
  · exact sectL_len _ _
theorem locked_is (n : Nat) (hn : 200 < n) (hn2 : n < 1000000) (m : Img) (i : Int) : check_Locked.f n m i = some (lockedI n m i) := by
  unfold check_Locked.f lockedI
  rw [show check_Task.f n (m.1, m.2.1, m.2.2.1, m.2.2.2.1, m.2.2.2.2.1, m.2.2.2.2.2.1, m.2.2.2.2.2.2) i = _ from task_is n hn hn2 m i, Option.bind_some]
  by_cases h : taskI n m i ≠ 0
  · rw [if_pos (bne_iff_ne.2 h), if_pos h]
  rw [if_neg (fun k => h (bne_iff_ne.1 k)), if_neg h]
  obtain ⟨hR, ⟨h0, h1⟩, h2, h3, h4⟩ := taskI_zero (Decidable.not_not.1 h)
  obtain ⟨ht, hm⟩ := hR.task h0 h1
  have hc : (taskAt m i).code.length < n := Nat.lt_of_le_of_lt ht.2.2.2.2.1 (by omega)
  have hsl := sectI_len2 n (taskAt m i).code
  rw [if_pos (show (decide (0 ≤ i) && decide (i < (m.2.2.2.2.2.2.length : Int))) = true from ix_some h0 h1)]
  rw [show cost_Sections.f n (m.2.2.2.2.2.2.getD i.toNat (0, 0, 0, 0, [], [], [])).2.2.2.2.2.2 = _ from sections_is n (taskAt m i).code hc (by omega) hn2, Option.bind_some, len_loop n hn2 _ _ (by omega), Option.bind_some, sectI_err h2]
end Go.Proofs.Dk

/- Plain: the statements' images. -/
namespace Go.Proofs.Dk
open Go
set_option maxRecDepth 100000
set_option linter.unusedVariables false
abbrev TskS : Sh := .pair (.int .i64) (.pair (.int .i64) (.pair (.int .i64) (.pair (.int .i64) (.pair (.sl (.int .i64)) (.pair (.sl (.int .i64)) (.sl (.pair (.int .i64) (.pair (.int .i64) (.int .i64)))))))))
abbrev ImgS : Sh := .pair (.int .i64) (.pair (.int .i64) (.pair (.int .i64) (.pair (.int .i64) (.pair (.sl (.int .i64)) (.pair (.sl (.sl (.int .i64))) (.sl TskS))))))
theorem img_light (n : Nat) (hn0 : 200 < n) (hn : n < 1000000) {m : Img} (h : Sh.Sm ImgS m) : camshaftlaw11_Light.f n m = some 0 ∨ (camshaftlaw11_Light.f n m = some 1 ∧ LightP m) :=
  light_is n hn0 hn m (by
    have h1 : m.safe.length ≤ 140737488351232 := h.2.2.2.2.1
    have h2 : m.blocks.length ≤ 140737488351232 := h.2.2.2.2.2.1
    have h3 : m.tasks.length ≤ 140737488351232 := h.2.2.2.2.2.2
    omega)
theorem sect_lock {l : List Ins} {m : List Int} {n : Nat} : ∀ (r i : Nat), (sectS l m n r i).length = (lockF l r i).length
  | 0, i => rfl
  | r + 1, i => by
    have := sect_lock (l := l) (m := m) (n := n) r (i + 1)
    rw [show lockF l (r + 1) i = lock1 l i ++ lockF l r (i + 1) from rfl]
    unfold sectS lock1
    rw [List.length_append, List.length_append, this]
    split <;> rfl
theorem sect_facts {l : List Ins} (hl : l.length < 20000) (h : (allI bM 20000 l).2 = 0) : (sectI 20000 l).1.length = (lockL l).length ∧ (∀ e ∈ (sectI 20000 l).1, 1 ≤ e.2 ∧ e.2 + 2 ≤ (allI bM 20000 l).1) ∧ (sectI 20000 l).1.Pairwise (fun a b => b.2 + 2 ≤ a.2 ∧ a.1 < b.1) := by
  obtain ⟨h1, h2⟩ := all_zero h
  obtain ⟨b1, b2, b3, b4, b5⟩ := allI_err 20000 l h
  have hsI : sectI 20000 l = (sectS l (scanI l).1 20000 l.length 0, 0) := by unfold sectI; rw [if_neg (fun k => k h)]
  rw [hsI]
  obtain ⟨g1, g2⟩ := sect_pair (n := 20000) h1 (come_is h2).2 hl (by omega) l.length 0 (by omega)
  refine ⟨?_, fun e he => ⟨(g2 e he).1, by have := (g2 e he).2; omega⟩, g1⟩
  unfold lockL
  rw [if_pos h1]
  exact sect_lock _ _
theorem known12 : camshaftlaw12_known.f 20000 = some true := by kernel_rfl
end Go.Proofs.Dk

/- CheckLocked is true. -/
namespace Go.Proofs.Dk
open Go
set_option maxRecDepth 100000
set_option linter.unusedVariables false
theorem camshaftlaw12_CheckLocked_true (a0 : (Int × (Int × (Int × (Int × ((List Int) × ((List (List Int)) × (List (Int × (Int × (Int × (Int × ((List Int) × ((List Int) × (List (Int × (Int × Int))))))))))))))))) (a1 : Int) (ok0 : Sh.Ok (.pair (.int .i64) (.pair (.int .i64) (.pair (.int .i64) (.pair (.int .i64) (.pair (.sl (.int .i64)) (.pair (.sl (.sl (.int .i64))) (.sl (.pair (.int .i64) (.pair (.int .i64) (.pair (.int .i64) (.pair (.int .i64) (.pair (.sl (.int .i64)) (.pair (.sl (.int .i64)) (.sl (.pair (.int .i64) (.pair (.int .i64) (.int .i64))))))))))))))))) a0) (ok1 : Sh.Ok (.int .i64) a1) (sm0 : Sh.Sm (.pair (.int .i64) (.pair (.int .i64) (.pair (.int .i64) (.pair (.int .i64) (.pair (.sl (.int .i64)) (.pair (.sl (.sl (.int .i64))) (.sl (.pair (.int .i64) (.pair (.int .i64) (.pair (.int .i64) (.pair (.int .i64) (.pair (.sl (.int .i64)) (.pair (.sl (.int .i64)) (.sl (.pair (.int .i64) (.pair (.int .i64) (.int .i64))))))))))))))))) a0) : ∃ n, camshaftlaw12_CheckLocked.f n a0 a1 = some true := by
  refine ⟨20000, ?_⟩
  unfold camshaftlaw12_CheckLocked.f
  have hn1 : 200 < 20000 := by decide
  have hn2 : 20000 < 1000000 := by decide
  rcases img_light 20000 hn1 hn2 sm0 with h | ⟨h, hL⟩
  · rw [show camshaftlaw11_Light.f 20000 (a0.1, a0.2.1, a0.2.2.1, a0.2.2.2.1, a0.2.2.2.2.1, a0.2.2.2.2.2.1, a0.2.2.2.2.2.2) = some 0 from h, Option.bind_some, if_pos (by decide), known12]
    rfl
  rw [show camshaftlaw11_Light.f 20000 (a0.1, a0.2.1, a0.2.2.1, a0.2.2.2.1, a0.2.2.2.2.1, a0.2.2.2.2.2.1, a0.2.2.2.2.2.2) = some 1 from h, Option.bind_some, if_neg (by decide)]
  rw [show check_Locked.f 20000 (a0.1, a0.2.1, a0.2.2.1, a0.2.2.2.1, a0.2.2.2.2.1, a0.2.2.2.2.2.1, a0.2.2.2.2.2.2) a1 = _ from locked_is 20000 hn1 hn2 a0 a1, Option.bind_some]
  rw [show check_Slots.f 20000 (a0.1, a0.2.1, a0.2.2.1, a0.2.2.2.1, a0.2.2.2.2.1, a0.2.2.2.2.2.1, a0.2.2.2.2.2.2) a1 = _ from slots_is 20000 hn1 hn2 a0 a1, Option.bind_some]
  unfold lockedI slotsI
  by_cases hz : taskI 20000 a0 a1 ≠ 0
  · rw [if_pos hz, if_pos hz, if_pos (bne_iff_ne.2 hz), if_pos (beq_self_eq_true _), if_pos (by rfl), if_pos (by rfl), known12]
    rfl
  obtain ⟨hR, ⟨h0, h1⟩, h2, h3, h4⟩ := taskI_zero (Decidable.not_not.1 hz)
  obtain ⟨ht, hm⟩ := hR.task h0 h1
  rw [if_neg hz, if_neg hz]
  dsimp only
  rw [if_neg (by decide), if_neg (by decide), if_pos (show (decide (0 ≤ a1) && decide (a1 < (a0.2.2.2.2.2.2.length : Int))) = true from ix_some h0 h1)]
  obtain ⟨n1, n2, n3, _⟩ := hR.1
  obtain ⟨_, b1, b2, _, b3⟩ := allI_err 20000 _ h2
  have hc : (taskAt a0 a1).code.length ≤ 200 := ht.2.2.2.2.1
  obtain ⟨s1, s2, s3⟩ := sect_facts (l := (taskAt a0 a1).code) (by omega) h2
  rw [h3] at s1
  rw [if_neg (show ¬ (((((sectI 20000 (taskAt a0 a1).code).1.map Prod.snd).length : Nat) : Int) != (((a0.2.2.2.2.2.2.getD a1.toNat (0, 0, 0, 0, [], [], [])).2.2.2.2.1.length : Nat) : Int)) = true from fun k => bne_iff_ne.1 k (by rw [List.length_map, s1]))]
  have hs := sectI_len2 20000 (taskAt a0 a1).code
  generalize (sectI 20000 (taskAt a0 a1).code).1 = s at *
  generalize (allI bM 20000 (taskAt a0 a1).code).1 = w at *
  have hloop : camshaftlaw12_CheckLocked.b0.l 20000 (s.map Prod.snd, w + 2 * a0.1 + a0.2.1 + a0.2.2.1, 0, a0.1, a0.2.1, a0.2.2.1, a0.2.2.2.1, a0.2.2.2.2.1, a0.2.2.2.2.2.1, a0.2.2.2.2.2.2) = some (.inr ((w + 2 * a0.1 + a0.2.1 + a0.2.2.1, ()), ((a0.1, a0.2.1, a0.2.2.1, a0.2.2.2.1, a0.2.2.2.2.1, a0.2.2.2.2.2.1, a0.2.2.2.2.2.2, ()), ()))) := by
    unfold camshaftlaw12_CheckLocked.b0.l
    refine it_all (S := fun F (x : List Int × Int × Int × Int × Int × Int × Int × List Int × List (List Int) × List Tsk) => camshaftlaw12_CheckLocked.b0 20000 F x.1 x.2.1 x.2.2.1 x.2.2.2.1 x.2.2.2.2.1 x.2.2.2.2.2.1 x.2.2.2.2.2.2.1 x.2.2.2.2.2.2.2.1 x.2.2.2.2.2.2.2.2.1 x.2.2.2.2.2.2.2.2.2)
      (fun f x r => ∃ (i : Nat), x = (s.map Prod.snd, w + 2 * a0.1 + a0.2.1 + a0.2.2.1, (i : Int), a0.1, a0.2.1, a0.2.2.1, a0.2.2.2.1, a0.2.2.2.2.1, a0.2.2.2.2.2.1, a0.2.2.2.2.2.2) ∧ i ≤ s.length ∧ s.length < f + i ∧ r = .inr ((w + 2 * a0.1 + a0.2.1 + a0.2.2.1, ()), ((a0.1, a0.2.1, a0.2.2.1, a0.2.2.2.1, a0.2.2.2.2.1, a0.2.2.2.2.2.1, a0.2.2.2.2.2.2, ()), ()))) (fun x r ⟨i, _, k1, k2, _⟩ => by omega) (fun f x F hF r => ?_) 20000 _ _ ⟨0, rfl, Nat.zero_le _, by omega, rfl⟩
    rintro ⟨i, rfl, k1, k2, rfl⟩
    show camshaftlaw12_CheckLocked.b0 20000 F (s.map Prod.snd) (w + 2 * a0.1 + a0.2.1 + a0.2.2.1) (i : Int) a0.1 a0.2.1 a0.2.2.1 a0.2.2.2.1 a0.2.2.2.2.1 a0.2.2.2.2.2.1 a0.2.2.2.2.2.2 = _
    unfold camshaftlaw12_CheckLocked.b0
    have hml : (s.map Prod.snd).length = s.length := List.length_map ..
    rcases Nat.lt_or_ge i s.length with hlt | hge
    · have hget : ∀ {j : Nat}, j < s.length → (s.map Prod.snd).getD j 0 = (s.getD j (0, 0)).2 := fun {j} hj => by
        rw [List.getD_eq_getElem?_getD, List.getD_eq_getElem?_getD, List.getElem?_map, List.getElem?_eq_getElem hj]
        rfl
      have hmem : s.getD i (0, 0) ∈ s := by rw [List.getD_eq_getElem?_getD, List.getElem?_eq_getElem hlt]; exact List.getElem_mem hlt
      obtain ⟨g1, g2⟩ := s2 _ hmem
      rw [if_pos (decide_eq_true (by omega)), if_pos (in_ix (by omega)), Int.toNat_natCast, hget hlt, next_ix (by omega), if_neg (fun k => absurd (of_decide_eq_true k) (by omega)), if_pos (in_ix (by omega)), if_neg (fun k => absurd (of_decide_eq_true k) (by omega))]
      by_cases hi0 : 0 < i
      · rw [if_pos (decide_eq_true (by omega)), if_pos (in_ix (by omega)), len1_ix hi0 (by omega), if_pos (in_ix (by omega)), Int.toNat_natCast, hget (show i - 1 < s.length by omega)]
        have h5 := List.pairwise_iff_getElem.1 s3 (i - 1) i (by omega) hlt (by omega)
        rw [List.getD_eq_getElem?_getD, List.getD_eq_getElem?_getD, List.getElem?_eq_getElem hlt, List.getElem?_eq_getElem (show i - 1 < s.length by omega)]
        rw [if_neg (fun k => absurd (of_decide_eq_true k) (by have h6 : s[i].2 + 2 ≤ s[i - 1].2 := h5.1; simp only [Option.getD_some]; omega))]
        exact hF _ _ ⟨i + 1, rfl, by omega, by omega, rfl⟩
      · rw [if_neg (by simp; omega)]
        exact hF _ _ ⟨i + 1, rfl, by omega, by omega, rfl⟩
    · have : i = s.length := by omega
      subst this
      rw [if_neg (by simp)]
  rw [hloop, Option.bind_some]
  dsimp only [Sum.elim_inr]
  rw [wrap_id (e := a0.2.1 + a0.2.2.1) (by omega) (by omega), wrap_id (e := a0.2.1 + a0.2.2.1 + 1) (by omega) (by omega), if_pos (decide_eq_true (by omega)), known12]
  rfl
end Go.Proofs.Dk

namespace Go.Proofs.Ytmacohlmfghffaa.checkLocked
open Go.ChangeShapes Go.WideShapes Go.ChangeAt Go.RowKit Go.Proofs.Dk
open Go.ChangeMaps (open_string shut_string)
set_option linter.unusedVariables false
theorem own : ownKnob Try.prog.godebug = none := by kernel_rfl
theorem laidOut : laidOutB Try.prog = true := by kernel_rfl
set_option maxRecDepth 100000 in
theorem lifted (os : Os) (started : os.Started) (H : Type) (enc : TypeId × Value → H) :
    ReturnsInHanded {} Try.checked os 5 .any (Rows.checkLockedSpec.pre6 enc Try.prog Try.f5 Rows.checkLockedRow.domain false) (Rows.checkLockedSpec.post enc Try.prog Try.f5 false true false false) := by
  refine returnsInHanded_of_change_sized (C := Try.checked) own started (by kernel_rfl) Try.func5
    (ChangeSpec.witness6 (enc := enc) (C := Try.checked) false ⟨#[], #[.agg #[.int .i64 0, .int .i64 0, .int .i64 0, .int .i64 0, .slice none 0 0, .slice none 0 0, .slice none 0 0], .int .i64 0], []⟩ 8 (by kernel_rfl) (by kernel_rfl) (by kernel_rfl) (by kernel_rfl)) ?_
  intro W base args ds gs before hval0 hW hcnd hsz0 _
  have hval : ∀ (j : Nat) t v, Try.f5.params[j]? = some t → args[j]? = some v → Value.okWide Try.prog W .any base t v := hval0
  have hW' := hW
  obtain ⟨p, q, hA0, hV, rfl, hfz, hnd⟩ := hW
  have hA : DataW.TrodAll enc Try.prog W 0 (fun _ => true) true Try.f5.params.toList args.toList ds p := hA0
  rw [Try.params5] at hA hval
  obtain ⟨v0, vs0, d0, ds0, p0, q0, hargs, rfl, rfl, h0, r0⟩ := trodAll_cons hA
  obtain ⟨v1, vs1, d1, ds1, p1, q1, rfl, rfl, rfl, h1, r1⟩ := trodAll_cons r0
  obtain ⟨rfl, rfl, rfl⟩ := trodAll_nil r1
  obtain rfl : args = #[v0, v1] := by cases args; simp_all
  obtain ⟨rfl, rfl⟩ := trodVars_none hV
  have lt0 : ∀ x ∈ p0, x.block < W.heap.size := by have k := h0; obtain ⟨m, hm⟩ := k; exact DataW.trod_lt m _ _ _ hm
  obtain ⟨a0, vr0, ok0, kk0⟩ := opened3 (s := (.pair (.int .i64) (.pair (.int .i64) (.pair (.int .i64) (.pair (.int .i64) (.pair (.sl (.int .i64)) (.pair (.sl (.sl (.int .i64))) (.sl (.pair (.int .i64) (.pair (.int .i64) (.pair (.int .i64) (.pair (.int .i64) (.pair (.sl (.int .i64)) (.pair (.sl (.int .i64)) (.sl (.pair (.int .i64) (.pair (.int .i64) (.int .i64)))))))))))))))))) 9 (by kernel_rfl) (by kernel_rfl) (hval 0 26 v0 rfl rfl) h0
  have sm0 := opened_sm (s := (.pair (.int .i64) (.pair (.int .i64) (.pair (.int .i64) (.pair (.int .i64) (.pair (.sl (.int .i64)) (.pair (.sl (.sl (.int .i64))) (.sl (.pair (.int .i64) (.pair (.int .i64) (.pair (.int .i64) (.pair (.int .i64) (.pair (.sl (.int .i64)) (.pair (.sl (.int .i64)) (.sl (.pair (.int .i64) (.pair (.int .i64) (.int .i64)))))))))))))))))) 9 0 (t := 26) (by kernel_rfl) hsz0 rfl rfl kk0 h0
  have lt1 : ∀ x ∈ p1, x.block < W.heap.size := by have k := h1; obtain ⟨m, hm⟩ := k; exact DataW.trod_lt m _ _ _ hm
  obtain ⟨a1, vr1, ok1⟩ := opened (s := (.int .i64)) 9 (by kernel_rfl) (by kernel_rfl) (hval 1 3 v1 rfl rfl) h1
  obtain ⟨N, hN⟩ := camshaftlaw12_CheckLocked_true a0 a1 ok0 ok1 sm0
  refine (law_calls (S := camshaftlaw12_CheckLocked.fs N) (x := ((a0, a1, ()), ())) (y := true) (fun hH hA hx hρ hk => (camshaftlaw12_CheckLocked.ok N).ok hH hA hx hρ hk) (A := [Sh.val (.pair (.int .i64) (.pair (.int .i64) (.pair (.int .i64) (.pair (.int .i64) (.pair (.sl (.int .i64)) (.pair (.sl (.sl (.int .i64))) (.sl (.pair (.int .i64) (.pair (.int .i64) (.pair (.int .i64) (.pair (.int .i64) (.pair (.sl (.int .i64)) (.pair (.sl (.int .i64)) (.sl (.pair (.int .i64) (.pair (.int .i64) (.int .i64))))))))))))))))) a0, Sh.val (.int .i64) a1]) (args := [v0, v1]) (.cons _ _ _ _ vr0 (.cons _ _ _ _ vr1 .nil)) (by kernel_rfl) hN (fun _ _ => rfl) (fun _ => rfl)).mono fun e W' hE => ?_
  obtain ⟨he, bel⟩ := hE
  subst he
  exact ⟨_, rfl, _, _, _, [], _, [], hW', trodAll_mk1 (shut_bool Try.underlying4 _), ⟨_, _, (Below.trod laidOut (by kernel_rfl) (of_decide_eq_true (by kernel_rfl)) h0 bel lt0), ⟨_, _, (Below.trod laidOut (by kernel_rfl) (of_decide_eq_true (by kernel_rfl)) h1 bel lt1), rfl, rfl⟩, rfl⟩, rfl, bel.frame _, fun h => by cases h⟩
theorem over : Rows.checkLockedRow.holds Try.pinned (OpenSpec.ofChange Rows.checkLockedSpec) :=
  OpenClaim.holds_of_wide 5 Try.f5 rfl rfl rfl rfl rfl rfl rfl ⟨rfl, rfl, rfl, rfl, rfl⟩ rfl rfl rfl rfl rfl (by kernel_rfl) Try.func5 (by kernel_rfl)
    (of_decide_eq_true (by kernel_rfl)) (by unfold Func.isWrapper; first | (rw [if_pos (by decide +kernel)]; kernel_rfl) | (rw [if_neg (by decide +kernel)]; exact ⟨rfl, rfl⟩))
    (fun os started H enc _ => lifted os started H enc)
theorem proved : Rows.CheckLockedSaid := over
#print axioms proved
end Go.Proofs.Ytmacohlmfghffaa.checkLocked
namespace Go.Proofs.Ytmacohlmfghffaa
theorem checkLocked_holds : Rows.CheckLockedSaid := checkLocked.proved
end Go.Proofs.Ytmacohlmfghffaa
