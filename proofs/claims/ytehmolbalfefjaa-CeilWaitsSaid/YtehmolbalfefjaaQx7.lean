-- by myprint.py (NOTES.md): the machine side, out of Lean's own print of the program
import Derived.Test.YtehmolbalfefjaaQx0
import Derived.Test.YtehmolbalfefjaaQx6
namespace Go.Proofs.Ytehmolbalfefjaa.Q
open Go.RowKit Go.Proofs.YtehmolbalfefjaaW.PrintWords Go.Proofs.YtehmolbalfefjaaW.PrintLast Go.Proofs.YtehmolbalfefjaaW.PrintMore
attribute [local go_sem] max2_int min2_int max_two min_two max_three min_three max_four min_four   -- for this text's walks alone
set_option linter.unusedVariables false
set_option linter.unusedSimpArgs false

/-! ### camshaftref13_Right: function 18 -/
def camshaftref13_Right.l0 : Nat → Int → List (S62) → Int → Option (Bool)
  | 0, _, _, _ => none
  | k + 1, x0, x1, x5 => if x5 < (x1.length : Int) then (if 0 ≤ x5 then ((camshaftref13_one.f k x0 ((rd_T62 x1 x5).f0) ((rd_T62 x1 x5).f1) ((rd_T62 x1 x5).f2)).bind fun t160 => (if t160 = true then (camshaftref13_Right.l0 k x0 x1 (wrap64 (x5 + 1))) else (some false))) else (none)) else (if x0 ≥ 0 then (if x0 ≤ 8 then (some (decide ((x1.length : Int) ≤ 8))) else (some false)) else (some false))
def camshaftref13_Right.f (k : Nat) (a0 : Int) (l1 : List (S62)) : Option (Bool) := camshaftref13_Right.l0 k a0 l1 0
theorem camshaftref13_Right.mono_l : ∀ k, (∀ y0 y1 y2, LeO (camshaftref13_Right.l0 k y0 y1 y2) (camshaftref13_Right.l0 (k + 1) y0 y1 y2))
  | 0 => fun _ _ _ r h => by simp [camshaftref13_Right.l0] at h
  | k + 1 => by
    have ih0 := camshaftref13_Right.mono_l k
    · intro y0 y1 y2
      unfold camshaftref13_Right.l0
      repeat' first
      | (with_reducible exact ih0 _ _ _)
      | (with_reducible exact camshaftref13_one.mono _ _ _ _ _)
      | (with_reducible exact LeO.refl _)
      | (with_reducible exact LeO.none _)
      | (with_reducible refine LeO.ite ?_ ?_)
      | (with_reducible refine LeO.bind ?_ (fun _ => ?_))
      | exact ih0 _ _ _
      | exact camshaftref13_one.mono _ _ _ _ _
      | exact LeO.none _
      | refine LeO.ite ?_ ?_
      | refine LeO.bind ?_ (fun _ => ?_)
theorem camshaftref13_Right.mono : ∀ a0 a1 k, LeO (camshaftref13_Right.f k a0 a1) (camshaftref13_Right.f (k + 1) a0 a1) := by
  intro a0 a1 k
  have ih0 := camshaftref13_Right.mono_l k
  unfold camshaftref13_Right.f
  repeat' first
      | (with_reducible exact ih0 _ _ _)
      | (with_reducible exact camshaftref13_one.mono _ _ _ _ _)
      | (with_reducible exact LeO.refl _)
      | (with_reducible exact LeO.none _)
      | (with_reducible refine LeO.ite ?_ ?_)
      | (with_reducible refine LeO.bind ?_ (fun _ => ?_))
      | exact ih0 _ _ _
      | exact camshaftref13_one.mono _ _ _ _ _
      | exact LeO.none _
      | refine LeO.ite ?_ ?_
      | refine LeO.bind ?_ (fun _ => ?_)
set_option maxHeartbeats 8000000 in
set_option maxRecDepth 100000 in
theorem camshaftref13_Right.calls (k : Nat) (a0 : Int) (A1 : Option Addr) (c1 : Nat) (l1 : List (S62)) (r : Bool) (w : World) (hr1 : Kd.C k62 w A1 l1.length l1) (hc1 : l1.length ≤ c1) (h : camshaftref13_Right.f k a0 l1 = some r) :
    Calls Try.prog 18 #[.int .i64 a0, .slice A1 l1.length c1] w fun e w' => e = .returned (.bool r) ∧ Below w.heap.size w w' := by
  have hu62 := Try.underlying62
  have HR1 := Aside0.mk hr1
  have HC1 := Aside0.mk hc1
  clear hr1 hc1
  have HB := Aside0.mk (Below.refl w.heap.size w)
  have H : (camshaftref13_Right.l0 k a0 l1 0) = some r := h
  clear h
  have H' := Aside0.mk H
  clear H
  go_enter Try.func18, Try.ntmps18
  go_wp2
  go_loopg [5] k (fun kq v5 w' => ∃ (x5_1 : Int), v5 = .int .i64 x5_1 ∧ Aside0 (camshaftref13_Right.l0 kq a0 l1 x5_1 = some r) ∧ Aside0 (kq ≤ k) ∧ Aside0 (Below w.heap.size w w'))
  case atStart => exact ⟨(0), (by first | rfl | (simp; done) | (simp [*]; done)), H', ⟨Nat.le_refl _⟩, ⟨by repeat (first | (with_reducible first | exact HB.out | apply below_alloc | apply pw_below_drewN | apply below_drew1) | exact HB.out)⟩⟩
  case round =>
    clear H'
    try clear c1
    try clear p2
    obtain ⟨x5_1, rfl, HA, HK1, HB⟩ := hrel
    cases gk with
    | zero => exact absurd HA.out (by simp [camshaftref13_Right.l0])
    | succ k1 =>
      have H := HA.out
      clear HA
      simp only [camshaftref13_Right.l0] at H
      by_cases c3 : x5_1 < (l1.length : Int)
      · rw [if_pos c3] at H
        have c3b0 : decide (x5_1 < (l1.length : Int)) = true := decide_eq_true c3
        clear c3
        by_cases c4 : 0 ≤ x5_1
        · rw [if_pos c4] at H
          have c4b0 : decide (0 ≤ x5_1) = true := decide_eq_true c4
          clear c4
          replace H := Option.bind_eq_some_iff.mp H
          obtain ⟨t160, A50, H⟩ := H
          replace H : (if t160 = true then (camshaftref13_Right.l0 k1 a0 l1 (wrap64 (x5_1 + 1))) else (some false)) = some r := H
          have A5 := Aside0.mk A50
          clear A50
          by_cases c6 : t160 = true
          · subst c6
            have H1 : (camshaftref13_Right.l0 k1 a0 l1 (wrap64 (x5_1 + 1))) = some r := by rw [if_pos rfl] at H; exact H
            clear H
            have H := H1
            clear H1
            have H' := Aside0.mk H
            clear H
            have p159 : 0 ≤ (x5_1 : Int) := of_decide_eq_true (by first | (with_reducible assumption) | assumption)
            have q159 : x5_1 < (l1.length : Int) := of_decide_eq_true (by first | (with_reducible assumption) | assumption)
            obtain ⟨ad159, A159_1, c159_1, A159_2, c159_2, e159, hx159_0, hx159_1, hx159_2, hl159_1, hi159_1, hl159_2, hi159_2⟩ := at_T62 HR1.out x5_1 p159 q159
            cases e159
            replace hx159_0 := (HB.out.cell (World.block_lt_of_cell? w _ hx159_0)).trans hx159_0
            replace hx159_1 := (HB.out.cell (World.block_lt_of_cell? w _ hx159_1)).trans hx159_1
            replace hx159_2 := (HB.out.cell (World.block_lt_of_cell? w _ hx159_2)).trans hx159_2
            have HR159_1 := Aside0.mk hi159_1
            have HC159_1 := Aside0.mk hl159_1
            clear hi159_1 hl159_1
            have HR159_2 := Aside0.mk hi159_2
            have HC159_2 := Aside0.mk hl159_2
            clear hi159_2 hl159_2
            replace p159 := eq_true p159
            replace q159 := eq_true q159
            go_wp2_with (first | ((with_reducible refine gate_callee (f := 39) rfl ?_); refine goesL_ (some 17) rfl rfl Try.func39 (by kernel_rfl) rfl #[.int .i64 a0, .agg #[.int .i64 ((rd_T62 l1 x5_1).f0), .slice A159_1 ((rd_T62 l1 x5_1).f1).length c159_1, .slice A159_2 ((rd_T62 l1 x5_1).f2).length c159_2]] rfl (by (try simp only [List.map_toArray, List.map_cons, List.map_nil]); first | done | rfl | (simp only [List.length_drop, List.length_take]; rfl)) ?_; (with_reducible refine (camshaftref13_one.calls k1 a0 ((rd_T62 l1 x5_1).f0) _ _ ((rd_T62 l1 x5_1).f1) _ _ ((rd_T62 l1 x5_1).f2) true _ ?side1 ?side2 ?side3 ?side4 A5.out).mono ?_); (case side1 => repeat (first | exact (Kd.C_below HR159_1.out HB.out) | (with_reducible refine Kd.C_alloc ?_ _) | (with_reducible refine Kd.C_drewN ?_ _) | (with_reducible refine Kd.C_drew ?_))); (case side2 => exact HC159_1.out); (case side3 => repeat (first | exact (Kd.C_below HR159_2.out HB.out) | (with_reducible refine Kd.C_alloc ?_ _) | (with_reducible refine Kd.C_drewN ?_ _) | (with_reducible refine Kd.C_drew ?_))); (case side4 => exact HC159_2.out); rintro e w7 ⟨rfl, hb⟩; refine ⟨_, rfl, ?_⟩; have n0_ := Aside0.mk (below_step (by repeat (first | (with_reducible first | exact HB.out | apply below_alloc | apply pw_below_drewN | apply below_drew1) | exact HB.out)) hb); clear HB; have HB := n0_; clear n0_; (try clear hb); (try clear hb2); (try clear hk); (try clear hi)))
            go_roundg k1
            case measure => have := HK1.out; omega
            case rel => exact ⟨(wrap64 (x5_1 + 1)), (by first | rfl | (simp; done) | (simp [*]; done)), H', ⟨by have := HK1.out; omega⟩, ⟨by repeat (first | (with_reducible first | exact HB.out | apply below_alloc | apply pw_below_drewN | apply below_drew1) | exact HB.out)⟩⟩
          · replace c6 := Bool.eq_false_iff.mpr c6
            subst c6
            have H1 : (some false) = some r := by rw [if_neg (show ¬ (false = true) by decide)] at H; exact H
            clear H
            have H := H1
            clear H1
            obtain rfl := Option.some.inj H
            have p159 : 0 ≤ (x5_1 : Int) := of_decide_eq_true (by first | (with_reducible assumption) | assumption)
            have q159 : x5_1 < (l1.length : Int) := of_decide_eq_true (by first | (with_reducible assumption) | assumption)
            obtain ⟨ad159, A159_1, c159_1, A159_2, c159_2, e159, hx159_0, hx159_1, hx159_2, hl159_1, hi159_1, hl159_2, hi159_2⟩ := at_T62 HR1.out x5_1 p159 q159
            cases e159
            replace hx159_0 := (HB.out.cell (World.block_lt_of_cell? w _ hx159_0)).trans hx159_0
            replace hx159_1 := (HB.out.cell (World.block_lt_of_cell? w _ hx159_1)).trans hx159_1
            replace hx159_2 := (HB.out.cell (World.block_lt_of_cell? w _ hx159_2)).trans hx159_2
            have HR159_1 := Aside0.mk hi159_1
            have HC159_1 := Aside0.mk hl159_1
            clear hi159_1 hl159_1
            have HR159_2 := Aside0.mk hi159_2
            have HC159_2 := Aside0.mk hl159_2
            clear hi159_2 hl159_2
            replace p159 := eq_true p159
            replace q159 := eq_true q159
            go_wp2_with (first | ((with_reducible refine gate_callee (f := 39) rfl ?_); refine goesL_ (some 17) rfl rfl Try.func39 (by kernel_rfl) rfl #[.int .i64 a0, .agg #[.int .i64 ((rd_T62 l1 x5_1).f0), .slice A159_1 ((rd_T62 l1 x5_1).f1).length c159_1, .slice A159_2 ((rd_T62 l1 x5_1).f2).length c159_2]] rfl (by (try simp only [List.map_toArray, List.map_cons, List.map_nil]); first | done | rfl | (simp only [List.length_drop, List.length_take]; rfl)) ?_; (with_reducible refine (camshaftref13_one.calls k1 a0 ((rd_T62 l1 x5_1).f0) _ _ ((rd_T62 l1 x5_1).f1) _ _ ((rd_T62 l1 x5_1).f2) false _ ?side1 ?side2 ?side3 ?side4 A5.out).mono ?_); (case side1 => repeat (first | exact (Kd.C_below HR159_1.out HB.out) | (with_reducible refine Kd.C_alloc ?_ _) | (with_reducible refine Kd.C_drewN ?_ _) | (with_reducible refine Kd.C_drew ?_))); (case side2 => exact HC159_1.out); (case side3 => repeat (first | exact (Kd.C_below HR159_2.out HB.out) | (with_reducible refine Kd.C_alloc ?_ _) | (with_reducible refine Kd.C_drewN ?_ _) | (with_reducible refine Kd.C_drew ?_))); (case side4 => exact HC159_2.out); rintro e w8 ⟨rfl, hb⟩; refine ⟨_, rfl, ?_⟩; have n0_ := Aside0.mk (below_step (by repeat (first | (with_reducible first | exact HB.out | apply below_alloc | apply pw_below_drewN | apply below_drew1) | exact HB.out)) hb); clear HB; have HB := n0_; clear n0_; (try clear hb); (try clear hb2); (try clear hk); (try clear hi)))
            go_ret
            exact ⟨by first | rfl | (simp [errW_none, errW_some] <;> rfl) | (simp [*, errW_none, errW_some] <;> rfl), by repeat (first | (with_reducible first | exact HB.out | apply below_alloc | apply pw_below_drewN | apply below_drew1) | exact HB.out)⟩
        · rw [if_neg c4] at H
          exact absurd H (by simp)
      · rw [if_neg c3] at H
        have c3b0 : decide (x5_1 < (l1.length : Int)) = false := decide_eq_false c3
        clear c3
        by_cases c9 : a0 ≥ 0
        · rw [if_pos c9] at H
          have c9b0 : decide (0 ≤ a0) = true := decide_eq_true c9
          clear c9
          by_cases c10 : a0 ≤ 8
          · rw [if_pos c10] at H
            have c10b0 : decide (a0 ≤ 8) = true := decide_eq_true c10
            clear c10
            obtain rfl := Option.some.inj H
            go_wp2
            go_ret
            exact ⟨by first | rfl | (simp [errW_none, errW_some] <;> rfl) | (simp [*, errW_none, errW_some] <;> rfl), by repeat (first | (with_reducible first | exact HB.out | apply below_alloc | apply pw_below_drewN | apply below_drew1) | exact HB.out)⟩
          · rw [if_neg c10] at H
            have c10b0 : decide (a0 ≤ 8) = false := decide_eq_false c10
            clear c10
            obtain rfl := Option.some.inj H
            go_wp2
            go_ret
            exact ⟨by first | rfl | (simp [errW_none, errW_some] <;> rfl) | (simp [*, errW_none, errW_some] <;> rfl), by repeat (first | (with_reducible first | exact HB.out | apply below_alloc | apply pw_below_drewN | apply below_drew1) | exact HB.out)⟩
        · rw [if_neg c9] at H
          have c9b0 : decide (0 ≤ a0) = false := decide_eq_false c9
          clear c9
          obtain rfl := Option.some.inj H
          go_wp2
          go_ret
          exact ⟨by first | rfl | (simp [errW_none, errW_some] <;> rfl) | (simp [*, errW_none, errW_some] <;> rfl), by repeat (first | (with_reducible first | exact HB.out | apply below_alloc | apply pw_below_drewN | apply below_drew1) | exact HB.out)⟩

/-! ### camshaftlaw13_Plain: function 19 -/
def camshaftlaw13_Plain.l0 : Nat → List (S37) → List (S62) → Int → Option ((List (S62)))
  | 0, _, _, _ => none
  | k + 1, x0, x3, x4 => if x4 < (x0.length : Int) then (if 0 ≤ x4 then (if x3.length < 2513169434916 then (camshaftlaw13_Plain.l0 k x0 (x3 ++ [(⟨(rd_T37 x0 x4).f0, (rd_T37 x0 x4).f1, (rd_T37 x0 x4).f2⟩ : S62)]) (wrap64 (x4 + 1))) else (none)) else (none)) else (some x3)
def camshaftlaw13_Plain.f (k : Nat) (l0 : List (S37)) : Option ((List (S62))) := camshaftlaw13_Plain.l0 k l0 ([] : List (S62)) 0
theorem camshaftlaw13_Plain.mono_l : ∀ k, (∀ y0 y1 y2, LeO (camshaftlaw13_Plain.l0 k y0 y1 y2) (camshaftlaw13_Plain.l0 (k + 1) y0 y1 y2))
  | 0 => fun _ _ _ r h => by simp [camshaftlaw13_Plain.l0] at h
  | k + 1 => by
    have ih0 := camshaftlaw13_Plain.mono_l k
    · intro y0 y1 y2
      unfold camshaftlaw13_Plain.l0
      repeat' first
      | (with_reducible exact ih0 _ _ _)
      | (with_reducible exact LeO.refl _)
      | (with_reducible exact LeO.none _)
      | (with_reducible refine LeO.ite ?_ ?_)
      | (with_reducible refine LeO.bind ?_ (fun _ => ?_))
      | exact ih0 _ _ _
      | exact LeO.none _
      | refine LeO.ite ?_ ?_
      | refine LeO.bind ?_ (fun _ => ?_)
theorem camshaftlaw13_Plain.mono : ∀ a0 k, LeO (camshaftlaw13_Plain.f k a0) (camshaftlaw13_Plain.f (k + 1) a0) := by
  intro a0 k
  have ih0 := camshaftlaw13_Plain.mono_l k
  unfold camshaftlaw13_Plain.f
  repeat' first
      | (with_reducible exact ih0 _ _ _)
      | (with_reducible exact LeO.refl _)
      | (with_reducible exact LeO.none _)
      | (with_reducible refine LeO.ite ?_ ?_)
      | (with_reducible refine LeO.bind ?_ (fun _ => ?_))
      | exact ih0 _ _ _
      | exact LeO.none _
      | refine LeO.ite ?_ ?_
      | refine LeO.bind ?_ (fun _ => ?_)
def camshaftlaw13_Plain.T5 : Bool × List (List Nat × List Nat) := (true, [([], []), ([], []), ([], []), ([1, 2], [1, 2]), ([3], [3]), ([4], [4]), ([], []), ([], []), ([6, 7], [6, 7]), ([8], [8]), ([9], [9]), ([], []), ([], []), ([11, 12], [11, 12]), ([13], [13]), ([14], [14]), ([5, 10, 15], [5, 10, 15]), ([16], [16]), ([0, 17], [0, 17]), ([18, 18, 0, 1, 2, 3, 4, 5, 6, 7, 8, 9, 10, 11, 12, 13, 14, 15, 16, 17, 18], [0, 18])])
def camshaftlaw13_Plain.B5 : List Nat := [0, 0, 0, 6, 14, 30, 0, 0, 192, 448, 960, 0, 0, 6144, 14336, 30720, 65534, 131070, 262143, 524287]
theorem camshaftlaw13_Plain.tab5 : rtab .any (opsOf Try.f19 5) = camshaftlaw13_Plain.T5 := by kernel_rfl
theorem camshaftlaw13_Plain.bits5 : waitsOk camshaftlaw13_Plain.T5.2 camshaftlaw13_Plain.B5 = true := by kernel_rfl
set_option maxHeartbeats 8000000 in
set_option maxRecDepth 100000 in
theorem camshaftlaw13_Plain.calls (k : Nat) (P0_ : Nat → Prop) (A0 : Option Addr) (c0 : Nat) (l0 : List (S37)) (r : List (S62)) (w : World) (hs0 : Kd.V k37 37 w w.heap.size (fun k_ => P0_ k_) (.slice A0 l0.length c0) l0) (h : camshaftlaw13_Plain.f k l0 = some r) :
    Calls Try.prog 19 #[.slice A0 l0.length c0] w fun e w' => ∃ v0_ : Value, e = .returned (v0_) ∧ Kd.N k62 62 w' w.heap.size (fun k_ => (P0_ k_ ∨ w.heap.size ≤ k_)) v0_ r ∧ Below w.heap.size w w' := by
  have hu62 := Try.underlying62
  have HO0 := Aside0.mk (show Kd.V k37 37 w w.heap.size (fun k_ => (P0_ k_ ∨ w.heap.size ≤ k_)) (.slice A0 l0.length c0) l0 from Kd.V_mono hs0 (fun k_ hk => .inl hk))
  have HB := Aside0.mk (Below.refl w.heap.size w)
  have H : (camshaftlaw13_Plain.l0 k l0 ([] : List (S62)) 0) = some r := h
  clear h
  have H' := Aside0.mk H
  clear H
  go_enter Try.func19, Try.ntmps19
  go_wp2
  go_loopg [3, 4] k (fun kq v3 v4 w' => ∃ (x3_1 : List (S62)) (x4_1 : Int), v4 = .int .i64 x4_1 ∧ Aside0 (camshaftlaw13_Plain.l0 kq l0 x3_1 x4_1 = some r) ∧ Aside0 (kq ≤ k) ∧ Aside0 (Kd.V k37 37 w' w.heap.size (fun k_ => (P0_ k_ ∨ w.heap.size ≤ k_) ∧ some k_ ≠ (v3 : Value).ownBlock) (.slice A0 l0.length c0) l0) ∧ Aside0 (Kd.N k62 62 w' w.heap.size (fun k_ => (P0_ k_ ∨ w.heap.size ≤ k_)) v3 x3_1) ∧ Aside0 (Below w.heap.size w w'))
  case atStart => exact ⟨(([] : List (S62))), (0), (by first | rfl | (simp; done) | (simp [*]; done)), H', ⟨Nat.le_refl _⟩, ⟨by (with_reducible repeat (first | apply Kd.V_alloc | apply Kd.V_drewN | apply Kd.V_drew)); exact Kd.V_mono HO0.out (fun _ hk => ⟨hk, (by simp [Value.ownBlock])⟩)⟩, ⟨by first | exact Kd.S_nil _ _ _ _ _ | exact Kd.N_nil _ _ _ _ _ | exact Kd.V_nil _ _ _ _ _ | exact Kd.Q_nil _ _ _ _ _ | exact Kd.R_nil _ _ _ _ _⟩, ⟨by repeat (first | (with_reducible first | exact HB.out | apply below_alloc | apply pw_below_drewN | apply below_drew1) | exact HB.out)⟩⟩
  case round =>
    clear H'
    try clear c1
    obtain ⟨x3_1, x4_1, rfl, HA, HK1, HO_0, HO_3, HB⟩ := hrel
    cases gk with
    | zero => exact absurd HA.out (by simp [camshaftlaw13_Plain.l0])
    | succ k1 =>
      have H := HA.out
      clear HA
      simp only [camshaftlaw13_Plain.l0] at H
      by_cases c2 : x4_1 < (l0.length : Int)
      · rw [if_pos c2] at H
        have c2b0 : decide (x4_1 < (l0.length : Int)) = true := decide_eq_true c2
        clear c2
        by_cases c3 : 0 ≤ x4_1
        · rw [if_pos c3] at H
          have c3b0 : decide (0 ≤ x4_1) = true := decide_eq_true c3
          clear c3
          by_cases c4 : x3_1.length < 2513169434916
          · rw [if_pos c4] at H
            have LMc4 := Aside0.mk c4
            clear c4
            obtain ⟨y164, hy164⟩ : ∃ y_ : List (S62), y_ = (x3_1 ++ [(⟨(rd_T37 l0 x4_1).f0, (rd_T37 l0 x4_1).f1, (rd_T37 l0 x4_1).f2⟩ : S62)]) := ⟨_, rfl⟩
            replace H : (camshaftlaw13_Plain.l0 k1 l0 y164 (wrap64 (x4_1 + 1))) = some r := by first | (rw [hy164]; with_reducible exact H) | (have H2_ := (Option.bind_some _ _).symm.trans H; rw [hy164]; with_reducible exact H2_) | (have H2_ := (Option.bind_some _ _).symm.trans H; with_reducible exact H2_) | with_reducible exact H | (rw [hy164]; exact H) | exact H
            have Ny164 := Aside0.mk hy164
            clear hy164
            have H' := Aside0.mk H
            clear H
            try go_wp2
            have n0_ := Aside0.mk (Kd.V_drew HO_0.out)
            have n1_ := Aside0.mk (Kd.N_drew HO_3.out)
            have n2_ := Aside0.mk (below_drew1 HB.out)
            clear HO_0
            clear HO_3
            clear HB
            have HO_0 := n0_
            have HO_3 := n1_
            have HB := n2_
            clear n0_ n1_ n2_
            have p161 : 0 ≤ (x4_1 : Int) := of_decide_eq_true (by first | (with_reducible assumption) | assumption)
            have q161 : x4_1 < (l0.length : Int) := of_decide_eq_true (by first | (with_reducible assumption) | assumption)
            obtain ⟨ad161, A161_1, c161_1, A161_2, c161_2, e161, hx161_0, hx161_1, hx161_2, hl161_1, hi161_1, hl161_2, hi161_2⟩ := at_T37 (Kd.V_reads' HO_0.out).2.2 x4_1 p161 q161
            cases e161
            obtain ⟨ce161, hce161, hMe161, hcc161⟩ := Kd.V_get HO_0.out z37 x4_1 p161 (by first | exact q161 | exact of_decide_eq_true (by first | (with_reducible assumption) | assumption) | (have e_ := (Kd.V_reads' HO_0.out).1; omega))
            obtain ⟨ua161_1, uc161_1, ua161_2, uc161_2, rfl, ul161_1, ge161_1, ul161_2, ge161_2⟩ := k37_openF hMe161
            have hv161_1 := hcc161 1 _ rfl
            rw [add_field _ _ 1 (by omega)] at hv161_1
            replace hv161_1 := Option.some.inj (hv161_1.symm.trans hx161_1)
            injection hv161_1 with hva_ hvn_ hvc_
            rw [hva_] at ge161_1
            rw [hvc_] at ul161_1
            have HL161_1 := Aside0.mk (show Kd.V (Kd.int .i64) 3 _ w.heap.size _ _ ((rd_T37 l0 x4_1).f1) from Kd.V_mk ul161_1 ge161_1)
            clear hva_ hvn_ hvc_ ge161_1 ul161_1
            have hv161_2 := hcc161 2 _ rfl
            rw [add_field _ _ 2 (by omega)] at hv161_2
            replace hv161_2 := Option.some.inj (hv161_2.symm.trans hx161_2)
            injection hv161_2 with hva_ hvn_ hvc_
            rw [hva_] at ge161_2
            rw [hvc_] at ul161_2
            have HL161_2 := Aside0.mk (show Kd.V (Kd.int .i64) 3 _ w.heap.size _ _ ((rd_T37 l0 x4_1).f2) from Kd.V_mk ul161_2 ge161_2)
            clear hva_ hvn_ hvc_ ge161_2 ul161_2
            clear hcc161 hce161
            have HR161_1 := Aside0.mk hi161_1
            have HC161_1 := Aside0.mk hl161_1
            clear hi161_1 hl161_1
            have HR161_2 := Aside0.mk hi161_2
            have HC161_2 := Aside0.mk hl161_2
            clear hi161_2 hl161_2
            replace p161 := eq_true p161
            replace q161 := eq_true q161
            have p162 : 0 ≤ (x4_1 : Int) := of_decide_eq_true (by first | (with_reducible assumption) | assumption)
            have q162 : x4_1 < (l0.length : Int) := of_decide_eq_true (by first | (with_reducible assumption) | assumption)
            obtain ⟨ad162, A162_1, c162_1, A162_2, c162_2, e162, hx162_0, hx162_1, hx162_2, hl162_1, hi162_1, hl162_2, hi162_2⟩ := at_T37 (Kd.V_reads' HO_0.out).2.2 x4_1 p162 q162
            obtain rfl : ad161 = ad162 := (by injection e162)
            obtain ⟨ce162, hce162, hMe162, hcc162⟩ := Kd.V_get HO_0.out z37 x4_1 p162 (by first | exact q162 | exact of_decide_eq_true (by first | (with_reducible assumption) | assumption) | (have e_ := (Kd.V_reads' HO_0.out).1; omega))
            obtain ⟨ua162_1, uc162_1, ua162_2, uc162_2, rfl, ul162_1, ge162_1, ul162_2, ge162_2⟩ := k37_openF hMe162
            have hv162_1 := hcc162 1 _ rfl
            rw [add_field _ _ 1 (by omega)] at hv162_1
            replace hv162_1 := Option.some.inj (hv162_1.symm.trans hx162_1)
            injection hv162_1 with hva_ hvn_ hvc_
            rw [hva_] at ge162_1
            rw [hvc_] at ul162_1
            have HL162_1 := Aside0.mk (show Kd.V (Kd.int .i64) 3 _ w.heap.size _ _ ((rd_T37 l0 x4_1).f1) from Kd.V_mk ul162_1 ge162_1)
            clear hva_ hvn_ hvc_ ge162_1 ul162_1
            have hv162_2 := hcc162 2 _ rfl
            rw [add_field _ _ 2 (by omega)] at hv162_2
            replace hv162_2 := Option.some.inj (hv162_2.symm.trans hx162_2)
            injection hv162_2 with hva_ hvn_ hvc_
            rw [hva_] at ge162_2
            rw [hvc_] at ul162_2
            have HL162_2 := Aside0.mk (show Kd.V (Kd.int .i64) 3 _ w.heap.size _ _ ((rd_T37 l0 x4_1).f2) from Kd.V_mk ul162_2 ge162_2)
            clear hva_ hvn_ hvc_ ge162_2 ul162_2
            clear hcc162 hce162
            have HR162_1 := Aside0.mk hi162_1
            have HC162_1 := Aside0.mk hl162_1
            clear hi162_1 hl162_1
            have HR162_2 := Aside0.mk hi162_2
            have HC162_2 := Aside0.mk hl162_2
            clear hi162_2 hl162_2
            replace p162 := eq_true p162
            replace q162 := eq_true q162
            have ea_ := Option.some.inj (hx161_1.symm.trans hx162_1)
            injection ea_ with ea_ en_ ec_
            subst ea_
            subst ec_
            clear en_
            have ea_ := Option.some.inj (hx161_2.symm.trans hx162_2)
            injection ea_ with ea_ en_ ec_
            subst ea_
            subst ec_
            clear en_
            have p163 : 0 ≤ (x4_1 : Int) := of_decide_eq_true (by first | (with_reducible assumption) | assumption)
            have q163 : x4_1 < (l0.length : Int) := of_decide_eq_true (by first | (with_reducible assumption) | assumption)
            obtain ⟨ad163, A163_1, c163_1, A163_2, c163_2, e163, hx163_0, hx163_1, hx163_2, hl163_1, hi163_1, hl163_2, hi163_2⟩ := at_T37 (Kd.V_reads' HO_0.out).2.2 x4_1 p163 q163
            obtain rfl : ad161 = ad163 := (by injection e163)
            obtain ⟨ce163, hce163, hMe163, hcc163⟩ := Kd.V_get HO_0.out z37 x4_1 p163 (by first | exact q163 | exact of_decide_eq_true (by first | (with_reducible assumption) | assumption) | (have e_ := (Kd.V_reads' HO_0.out).1; omega))
            obtain ⟨ua163_1, uc163_1, ua163_2, uc163_2, rfl, ul163_1, ge163_1, ul163_2, ge163_2⟩ := k37_openF hMe163
            have hv163_1 := hcc163 1 _ rfl
            rw [add_field _ _ 1 (by omega)] at hv163_1
            replace hv163_1 := Option.some.inj (hv163_1.symm.trans hx163_1)
            injection hv163_1 with hva_ hvn_ hvc_
            rw [hva_] at ge163_1
            rw [hvc_] at ul163_1
            have HL163_1 := Aside0.mk (show Kd.V (Kd.int .i64) 3 _ w.heap.size _ _ ((rd_T37 l0 x4_1).f1) from Kd.V_mk ul163_1 ge163_1)
            clear hva_ hvn_ hvc_ ge163_1 ul163_1
            have hv163_2 := hcc163 2 _ rfl
            rw [add_field _ _ 2 (by omega)] at hv163_2
            replace hv163_2 := Option.some.inj (hv163_2.symm.trans hx163_2)
            injection hv163_2 with hva_ hvn_ hvc_
            rw [hva_] at ge163_2
            rw [hvc_] at ul163_2
            have HL163_2 := Aside0.mk (show Kd.V (Kd.int .i64) 3 _ w.heap.size _ _ ((rd_T37 l0 x4_1).f2) from Kd.V_mk ul163_2 ge163_2)
            clear hva_ hvn_ hvc_ ge163_2 ul163_2
            clear hcc163 hce163
            have HR163_1 := Aside0.mk hi163_1
            have HC163_1 := Aside0.mk hl163_1
            clear hi163_1 hl163_1
            have HR163_2 := Aside0.mk hi163_2
            have HC163_2 := Aside0.mk hl163_2
            clear hi163_2 hl163_2
            replace p163 := eq_true p163
            replace q163 := eq_true q163
            have ea_ := Option.some.inj (hx161_1.symm.trans hx163_1)
            injection ea_ with ea_ en_ ec_
            subst ea_
            subst ec_
            clear en_
            have ea_ := Option.some.inj (hx161_2.symm.trans hx163_2)
            injection ea_ with ea_ en_ ec_
            subst ea_
            subst ec_
            clear en_
            refine start_ (n := 20) (S := fun w' => w'.cell? (ad161.add ((x4_1).toNat * 3)) = some (.int .i64 ((rd_T37 l0 x4_1).f0)) ∧ w'.cell? ⟨(ad161.add ((x4_1).toNat * 3)).block, (ad161.add ((x4_1).toNat * 3)).off + 1, none⟩ = some (.slice A161_1 ((rd_T37 l0 x4_1).f1).length c161_1) ∧ w'.cell? ⟨(ad161.add ((x4_1).toNat * 3)).block, (ad161.add ((x4_1).toNat * 3)).off + 2, none⟩ = some (.slice A161_2 ((rd_T37 l0 x4_1).f2).length c161_2) ∧ w'.cell? (ad161.add ((x4_1).toNat * 3)) = some (.int .i64 ((rd_T37 l0 x4_1).f0)) ∧ w'.cell? ⟨(ad161.add ((x4_1).toNat * 3)).block, (ad161.add ((x4_1).toNat * 3)).off + 1, none⟩ = some (.slice A161_1 ((rd_T37 l0 x4_1).f1).length c161_1) ∧ w'.cell? ⟨(ad161.add ((x4_1).toNat * 3)).block, (ad161.add ((x4_1).toNat * 3)).off + 2, none⟩ = some (.slice A161_2 ((rd_T37 l0 x4_1).f2).length c161_2) ∧ w'.cell? (ad161.add ((x4_1).toNat * 3)) = some (.int .i64 ((rd_T37 l0 x4_1).f0)) ∧ w'.cell? ⟨(ad161.add ((x4_1).toNat * 3)).block, (ad161.add ((x4_1).toNat * 3)).off + 1, none⟩ = some (.slice A161_1 ((rd_T37 l0 x4_1).f1).length c161_1) ∧ w'.cell? ⟨(ad161.add ((x4_1).toNat * 3)).block, (ad161.add ((x4_1).toNat * 3)).off + 2, none⟩ = some (.slice A161_2 ((rd_T37 l0 x4_1).f2).length c161_2)) (ds := [17, 18]) #[false, false, false, false, false, false, false, false, false, false, false, false, false, false, false, false, false, false, false, false] (by kernel_rfl) rfl rfl ⟨hx161_0, hx161_1, hx161_2, hx162_0, hx162_1, hx162_2, hx163_0, hx163_1, hx163_2⟩ (fun hHeld => ?_); refine with_tabW camshaftlaw13_Plain.tab5 camshaftlaw13_Plain.bits5 (fun HT_ HW_ => ?_)
            generalize wr.drew = w5 at HO_0 HO_3 HB HL161_1 HL161_2 HL162_1 HL162_2 HL163_1 HL163_2 HR161_1 HR161_2 HR162_1 HR162_2 HR163_1 HR163_2 hx161_0 hx161_1 hx161_2 hx162_0 hx162_1 hx162_2 hx163_0 hx163_1 hx163_2 hHeld ⊢
            refine pure_ (i := 0) (N := some 11) (v := ?_) (a' := ?_) #[true, false, false, false, false, false, false, false, false, false, false, false, false, false, false, false, false, false, false, false] rfl rfl (any_of HT_.out (by kernel_rfl)) (fun _ _ _ h => h) (Or.inl ⟨by rfl, ?_⟩) ?_ ?_
            rotate_left
            · intro w'
              go_simp
              with_reducible rfl
            rotate_left
            · simp only [Act.put, List.setIfInBounds_toArray, List.set_cons_zero, List.set_cons_succ, i64_w, i32_w]
              rfl
            refine pure_ (i := 1) (N := some 12) (v := ?_) (a' := ?_) #[true, true, false, false, false, false, false, false, false, false, false, false, false, false, false, false, false, false, false, false] rfl rfl (any_of HT_.out (by kernel_rfl)) (fun _ _ _ h => h) (Or.inl ⟨by rfl, ?_⟩) ?_ ?_
            rotate_left
            · intro w'
              go_simp
              with_reducible rfl
            rotate_left
            · simp only [Act.put, List.setIfInBounds_toArray, List.set_cons_zero, List.set_cons_succ, i64_w, i32_w]
              rfl
            refine pure_ (i := 2) (N := some 13) (v := ?_) (a' := ?_) #[true, true, true, false, false, false, false, false, false, false, false, false, false, false, false, false, false, false, false, false] rfl rfl (any_of HT_.out (by kernel_rfl)) (fun _ _ _ h => h) (Or.inl ⟨by rfl, ?_⟩) ?_ ?_
            rotate_left
            · intro w'
              go_simp
              with_reducible rfl
            rotate_left
            · simp only [Act.put, List.setIfInBounds_toArray, List.set_cons_zero, List.set_cons_succ, i64_w, i32_w]
              rfl
            refine pure_ (i := 3) (N := some 14) (v := ?_) (a' := ?_) #[true, true, true, true, false, false, false, false, false, false, false, false, false, false, false, false, false, false, false, false] rfl rfl (any_of HT_.out (by kernel_rfl)) (fun _ _ _ h => h) (Or.inl ⟨by rfl, ?_⟩) ?_ ?_
            rotate_left
            · intro w'
              go_simp
              with_reducible rfl
            rotate_left
            · simp only [Act.put, List.setIfInBounds_toArray, List.set_cons_zero, List.set_cons_succ, i64_w, i32_w]
              rfl
            refine pure_ (i := 4) (N := some 15) (v := ?_) (a' := ?_) #[true, true, true, true, true, false, false, false, false, false, false, false, false, false, false, false, false, false, false, false] rfl rfl (any_of HT_.out (by kernel_rfl)) (fun _ _ _ h => h) (Or.inl ⟨by rfl, ?_⟩) ?_ ?_
            rotate_left
            · intro w'
              go_simp
              with_reducible rfl
            rotate_left
            · simp only [Act.put, List.setIfInBounds_toArray, List.set_cons_zero, List.set_cons_succ, i64_w, i32_w]
              rfl
            refine pure_ (i := 6) (N := some 17) (v := ?_) (a' := ?_) #[true, true, true, true, true, false, true, false, false, false, false, false, false, false, false, false, false, false, false, false] rfl rfl (any_of HT_.out (by kernel_rfl)) (fun _ _ _ h => h) (Or.inl ⟨by rfl, ?_⟩) ?_ ?_
            rotate_left
            · intro w'
              go_simp
              with_reducible rfl
            rotate_left
            · simp only [Act.put, List.setIfInBounds_toArray, List.set_cons_zero, List.set_cons_succ, i64_w, i32_w]
              rfl
            refine pure_ (i := 7) (N := some 18) (v := ?_) (a' := ?_) #[true, true, true, true, true, false, true, true, false, false, false, false, false, false, false, false, false, false, false, false] rfl rfl (any_of HT_.out (by kernel_rfl)) (fun _ _ _ h => h) (Or.inl ⟨by rfl, ?_⟩) ?_ ?_
            rotate_left
            · intro w'
              go_simp
              with_reducible rfl
            rotate_left
            · simp only [Act.put, List.setIfInBounds_toArray, List.set_cons_zero, List.set_cons_succ, i64_w, i32_w]
              rfl
            refine pure_ (i := 8) (N := some 19) (v := ?_) (a' := ?_) #[true, true, true, true, true, false, true, true, true, false, false, false, false, false, false, false, false, false, false, false] rfl rfl (any_of HT_.out (by kernel_rfl)) (fun _ _ _ h => h) (Or.inl ⟨by rfl, ?_⟩) ?_ ?_
            rotate_left
            · intro w'
              go_simp
              with_reducible rfl
            rotate_left
            · simp only [Act.put, List.setIfInBounds_toArray, List.set_cons_zero, List.set_cons_succ, i64_w, i32_w]
              rfl
            refine pure_ (i := 9) (N := some 20) (v := ?_) (a' := ?_) #[true, true, true, true, true, false, true, true, true, true, false, false, false, false, false, false, false, false, false, false] rfl rfl (any_of HT_.out (by kernel_rfl)) (fun _ _ _ h => h) (Or.inl ⟨by rfl, ?_⟩) ?_ ?_
            rotate_left
            · intro w'
              go_simp
              with_reducible rfl
            rotate_left
            · simp only [Act.put, List.setIfInBounds_toArray, List.set_cons_zero, List.set_cons_succ, i64_w, i32_w]
              rfl
            refine pure_ (i := 11) (N := some 22) (v := ?_) (a' := ?_) #[true, true, true, true, true, false, true, true, true, true, false, true, false, false, false, false, false, false, false, false] rfl rfl (any_of HT_.out (by kernel_rfl)) (fun _ _ _ h => h) (Or.inl ⟨by rfl, ?_⟩) ?_ ?_
            rotate_left
            · intro w'
              go_simp
              with_reducible rfl
            rotate_left
            · simp only [Act.put, List.setIfInBounds_toArray, List.set_cons_zero, List.set_cons_succ, i64_w, i32_w]
              rfl
            refine pure_ (i := 12) (N := some 23) (v := ?_) (a' := ?_) #[true, true, true, true, true, false, true, true, true, true, false, true, true, false, false, false, false, false, false, false] rfl rfl (any_of HT_.out (by kernel_rfl)) (fun _ _ _ h => h) (Or.inl ⟨by rfl, ?_⟩) ?_ ?_
            rotate_left
            · intro w'
              go_simp
              with_reducible rfl
            rotate_left
            · simp only [Act.put, List.setIfInBounds_toArray, List.set_cons_zero, List.set_cons_succ, i64_w, i32_w]
              rfl
            refine pure_ (i := 13) (N := some 24) (v := ?_) (a' := ?_) #[true, true, true, true, true, false, true, true, true, true, false, true, true, true, false, false, false, false, false, false] rfl rfl (any_of HT_.out (by kernel_rfl)) (fun _ _ _ h => h) (Or.inl ⟨by rfl, ?_⟩) ?_ ?_
            rotate_left
            · intro w'
              go_simp
              with_reducible rfl
            rotate_left
            · simp only [Act.put, List.setIfInBounds_toArray, List.set_cons_zero, List.set_cons_succ, i64_w, i32_w]
              rfl
            refine pure_ (i := 14) (N := some 25) (v := ?_) (a' := ?_) #[true, true, true, true, true, false, true, true, true, true, false, true, true, true, true, false, false, false, false, false] rfl rfl (any_of HT_.out (by kernel_rfl)) (fun _ _ _ h => h) (Or.inl ⟨by rfl, ?_⟩) ?_ ?_
            rotate_left
            · intro w'
              go_simp
              with_reducible rfl
            rotate_left
            · simp only [Act.put, List.setIfInBounds_toArray, List.set_cons_zero, List.set_cons_succ, i64_w, i32_w]
              rfl
            refine take_ (i := 5) (N := some 16) (v := ?_) (a' := ?_) #[true, true, true, true, true, true, true, true, true, true, false, true, true, true, true, false, false, false, false, false] rfl rfl (take_ofW HT_.out HW_.out (by kernel_rfl)) (fun _ _ _ h => h) (Or.inl ⟨by rfl, ?_⟩) hHeld ?_ ?_
            rotate_left
            · rintro w' ⟨s0, s1, s2, s3, s4, s5, s6, s7, s8⟩
              go_simp
              with_reducible rfl
            rotate_left
            · simp only [Act.put, List.setIfInBounds_toArray, List.set_cons_zero, List.set_cons_succ, i64_w, i32_w]
              rfl
            refine take_ (i := 10) (N := some 21) (v := ?_) (a' := ?_) #[true, true, true, true, true, true, true, true, true, true, true, true, true, true, true, false, false, false, false, false] rfl rfl (take_ofW HT_.out HW_.out (by kernel_rfl)) (fun _ _ _ h => h) (Or.inl ⟨by rfl, ?_⟩) hHeld ?_ ?_
            rotate_left
            · rintro w' ⟨s0, s1, s2, s3, s4, s5, s6, s7, s8⟩
              go_simp
              with_reducible rfl
            rotate_left
            · simp only [Act.put, List.setIfInBounds_toArray, List.set_cons_zero, List.set_cons_succ, i64_w, i32_w]
              rfl
            refine take_ (i := 15) (N := some 26) (v := ?_) (a' := ?_) #[true, true, true, true, true, true, true, true, true, true, true, true, true, true, true, true, false, false, false, false] rfl rfl (take_ofW HT_.out HW_.out (by kernel_rfl)) (fun _ _ _ h => h) (Or.inl ⟨by rfl, ?_⟩) hHeld ?_ ?_
            rotate_left
            · rintro w' ⟨s0, s1, s2, s3, s4, s5, s6, s7, s8⟩
              go_simp
              with_reducible rfl
            rotate_left
            · simp only [Act.put, List.setIfInBounds_toArray, List.set_cons_zero, List.set_cons_succ, i64_w, i32_w]
              rfl
            refine pure_ (i := 16) (N := some 27) (v := ?_) (a' := ?_) #[true, true, true, true, true, true, true, true, true, true, true, true, true, true, true, true, true, false, false, false] rfl rfl (any_of HT_.out (by kernel_rfl)) (fun _ _ _ h => h) (Or.inl ⟨by rfl, ?_⟩) ?_ ?_
            rotate_left
            · intro w'
              go_simp
              with_reducible rfl
            rotate_left
            · simp only [Act.put, List.setIfInBounds_toArray, List.set_cons_zero, List.set_cons_succ, i64_w, i32_w]
              rfl
            refine last_ (i := 17) (N := some 28) #[true, true, true, true, true, true, true, true, true, true, true, true, true, true, true, true, true, true, false, false] rfl rfl (one_of HT_.out (by kernel_rfl)) (by decide) (fun K hK => ?_)
            refine value_ (w1 := ?_) (v := ?_) (by rfl) rfl ?_ ?_
            rotate_left 2
            · go_simp
              constructor
              · rfl
              · rfl
            refine hK.out _ _ ?_
            clear hK K
            refine norm_ (a' := ?_) ?_ ?_
            rotate_left
            · show Act.put _ (some 28) _ = _
              simp only [Act.put, List.setIfInBounds_toArray, List.set_cons_zero, List.set_cons_succ, i64_w, i32_w]
              rfl
            refine last_ (i := 18) (N := some 29) #[true, true, true, true, true, true, true, true, true, true, true, true, true, true, true, true, true, true, true, false] rfl rfl (one_of HT_.out (by kernel_rfl)) (by decide) (fun K hK => ?_)
            refine Kd.N_append_step k62 (w0 := w) w.heap.size (by rfl) (.tmp 11) (.tmp 28) 27 62 (.agg #[(.int .i64 0), (.slice none 0 0), (.slice none 0 0)]) 56 rfl Try.underlying27 info62 rfl (by decide) (by omega) u3 x3_1 (⟨(rd_T37 l0 x4_1).f0, (rd_T37 l0 x4_1).f1, (rd_T37 l0 x4_1).f2⟩ : S62) [.int .i64 ((rd_T37 l0 x4_1).f0), .slice A161_1 ((rd_T37 l0 x4_1).f1).length c161_1, .slice A161_2 ((rd_T37 l0 x4_1).f2).length c161_2] (fun k_ => (P0_ k_ ∨ w.heap.size ≤ k_)) (fun k_ => ((fun k_ => (P0_ k_ ∨ w.heap.size ≤ k_))) k_ ∧ some k_ ≠ (u3 : Value).ownBlock) rfl rfl ?aP (fun _ hk => hk) ?aF ?aO ?aB ?aS ?aL ?_
            (case aP => exact (k62_mkF _ _ (⟨(rd_T37 l0 x4_1).f0, (rd_T37 l0 x4_1).f1, (rd_T37 l0 x4_1).f2⟩ : S62) (Kd.V_reads' (Kd.V_mono (ok' := (fun k_ => ((fun k_ => (P0_ k_ ∨ w.heap.size ≤ k_))) k_ ∧ some k_ ≠ (u3 : Value).ownBlock)) (HL162_1.out) (fun k_ hk => ⟨hk.1, hk.2⟩))).2.1 (Kd.V_F (Kd.V_mono (ok' := (fun k_ => ((fun k_ => (P0_ k_ ∨ w.heap.size ≤ k_))) k_ ∧ some k_ ≠ (u3 : Value).ownBlock)) (HL162_1.out) (fun k_ hk => ⟨hk.1, hk.2⟩))) (Kd.V_reads' (Kd.V_mono (ok' := (fun k_ => ((fun k_ => (P0_ k_ ∨ w.heap.size ≤ k_))) k_ ∧ some k_ ≠ (u3 : Value).ownBlock)) (HL163_2.out) (fun k_ hk => ⟨hk.1, hk.2⟩))).2.1 (Kd.V_F (Kd.V_mono (ok' := (fun k_ => ((fun k_ => (P0_ k_ ∨ w.heap.size ≤ k_))) k_ ∧ some k_ ≠ (u3 : Value).ownBlock)) (HL163_2.out) (fun k_ hk => ⟨hk.1, hk.2⟩)))))
            (case aB => exact (by repeat (first | (with_reducible first | exact HB.out | apply below_alloc | apply pw_below_drewN | apply below_drew1) | exact HB.out)))
            (case aF => exact (fun k_ hk => (.inr (Nat.le_trans (below_size (by repeat (first | (with_reducible first | exact HB.out | apply below_alloc | apply pw_below_drewN | apply below_drew1) | exact HB.out))) hk))))
            (case aO => exact (by (with_reducible repeat (first | apply Kd.N_alloc | apply Kd.N_drewN | apply Kd.N_drew)); exact HO_3.out))
            (case aS => exact (below_size (by repeat (first | (with_reducible first | exact HB.out | apply below_alloc | apply pw_below_drewN | apply below_drew1) | exact HB.out))))
            (case aL => have := LMc4.out; omega)
            intro v165 w6 ho hb hg hat
            rw [← Ny164.out] at ho
            have n0_ := Aside0.mk (Kd.V_afterv (ok := (fun k_ => (P0_ k_ ∨ w.heap.size ≤ k_))) (by (with_reducible repeat (first | apply Kd.V_alloc | apply Kd.V_drewN | apply Kd.V_drew)); exact HO_0.out) hg hat)
            have n1_ := Aside0.mk (Kd.V_afterv (ok := (fun k_ => (P0_ k_ ∨ w.heap.size ≤ k_))) (by (with_reducible repeat (first | apply Kd.V_alloc | apply Kd.V_drewN | apply Kd.V_drew)); exact HL161_1.out) hg hat)
            have n2_ := Aside0.mk (Kd.V_afterv (ok := (fun k_ => (P0_ k_ ∨ w.heap.size ≤ k_))) (by (with_reducible repeat (first | apply Kd.V_alloc | apply Kd.V_drewN | apply Kd.V_drew)); exact HL161_2.out) hg hat)
            have n3_ := Aside0.mk (Kd.V_afterv (ok := (fun k_ => (P0_ k_ ∨ w.heap.size ≤ k_))) (by (with_reducible repeat (first | apply Kd.V_alloc | apply Kd.V_drewN | apply Kd.V_drew)); exact HL162_1.out) hg hat)
            have n4_ := Aside0.mk (Kd.V_afterv (ok := (fun k_ => (P0_ k_ ∨ w.heap.size ≤ k_))) (by (with_reducible repeat (first | apply Kd.V_alloc | apply Kd.V_drewN | apply Kd.V_drew)); exact HL162_2.out) hg hat)
            have n5_ := Aside0.mk (Kd.V_afterv (ok := (fun k_ => (P0_ k_ ∨ w.heap.size ≤ k_))) (by (with_reducible repeat (first | apply Kd.V_alloc | apply Kd.V_drewN | apply Kd.V_drew)); exact HL163_1.out) hg hat)
            have n6_ := Aside0.mk (Kd.V_afterv (ok := (fun k_ => (P0_ k_ ∨ w.heap.size ≤ k_))) (by (with_reducible repeat (first | apply Kd.V_alloc | apply Kd.V_drewN | apply Kd.V_drew)); exact HL163_2.out) hg hat)
            have n7_ := Aside0.mk (hb)
            have n8_ := Aside0.mk (ho)
            clear HO_0
            clear HL161_1
            clear HL161_2
            clear HL162_1
            clear HL162_2
            clear HL163_1
            clear HL163_2
            clear HB
            clear HO_3
            have HO_0 := n0_
            have HL161_1 := n1_
            have HL161_2 := n2_
            have HL162_1 := n3_
            have HL162_2 := n4_
            have HL163_1 := n5_
            have HL163_2 := n6_
            have HB := n7_
            have HO166 := n8_
            clear n0_ n1_ n2_ n3_ n4_ n5_ n6_ n7_ n8_
            clear ho hb hg hat
            refine hK.out _ _ ?_
            clear hK K
            refine norm_ (a' := ?_) ?_ ?_
            rotate_left
            · show Act.put _ (some 29) _ = _
              simp only [Act.put, List.setIfInBounds_toArray, List.set_cons_zero, List.set_cons_succ, i64_w, i32_w]
              rfl
            refine pure_ (i := 19) (N := some 3) (v := ?_) (a' := ?_) #[true, true, true, true, true, true, true, true, true, true, true, true, true, true, true, true, true, true, true, true] rfl rfl (any_of HT_.out (by kernel_rfl)) (fun _ _ _ h => h) (Or.inl ⟨by rfl, ?_⟩) ?_ ?_
            rotate_left
            · intro w'
              go_simp
              with_reducible rfl
            rotate_left
            · simp only [Act.put, List.setIfInBounds_toArray, List.set_cons_zero, List.set_cons_succ, i64_w, i32_w]
              rfl
            refine done_ (done_of HT_.out (by kernel_rfl)) ?_
            try go_wp2
            go_roundg k1
            case measure => have := HK1.out; omega
            case rel => exact ⟨(y164), (wrap64 (x4_1 + 1)), (by first | rfl | (simp; done) | (simp [*]; done)), H', ⟨by have := HK1.out; omega⟩, ⟨by (with_reducible repeat (first | apply Kd.V_alloc | apply Kd.V_drewN | apply Kd.V_drew)); exact HO_0.out⟩, ⟨by (with_reducible repeat (first | apply Kd.N_alloc | apply Kd.N_drewN | apply Kd.N_drew)); exact HO166.out⟩, ⟨by repeat (first | (with_reducible first | exact HB.out | apply below_alloc | apply pw_below_drewN | apply below_drew1) | exact HB.out)⟩⟩
          · rw [if_neg c4] at H
            exact absurd H (by simp)
        · rw [if_neg c3] at H
          exact absurd H (by simp)
      · rw [if_neg c2] at H
        have c2b0 : decide (x4_1 < (l0.length : Int)) = false := decide_eq_false c2
        clear c2
        obtain rfl := Option.some.inj H
        go_wp2
        go_ret
        exact ⟨_, by first | rfl | (simp [errW_none, errW_some] <;> rfl) | (simp [*, errW_none, errW_some] <;> rfl), by (with_reducible repeat (first | apply Kd.N_alloc | apply Kd.N_drewN | apply Kd.N_drew)); exact HO_3.out, by repeat (first | (with_reducible first | exact HB.out | apply below_alloc | apply pw_below_drewN | apply below_drew1) | exact HB.out)⟩

/-! ### camshaftref13_ceiling: function 42 -/
mutual
def camshaftref13_ceiling.l0 : Nat → Int → List (S62) → Int → Int → Option (Int)
  | 0, _, _, _, _ => none
  | k + 1, x0, x1, x5, x6 => if x6 < (x1.length : Int) then (camshaftref13_ceiling.l1 k x0 x1 x5 x6 0) else (some x5)
def camshaftref13_ceiling.l1 : Nat → Int → List (S62) → Int → Int → Int → Option (Int)
  | 0, _, _, _, _, _ => none
  | k + 1, x0, x1, x5, x6, x7 => if 0 ≤ x6 then (if x6 < (x1.length : Int) then (if x7 < (((rd_T62 x1 x6).f1).length : Int) then (if 0 ≤ x7 then (if (rd ((rd_T62 x1 x6).f1) x7) = x0 then (camshaftref13_ceiling.l1 k x0 x1 (mx x5 ((rd_T62 x1 x6).f0)) x6 (wrap64 (x7 + 1))) else (camshaftref13_ceiling.l1 k x0 x1 x5 x6 (wrap64 (x7 + 1)))) else (none)) else (camshaftref13_ceiling.l0 k x0 x1 x5 (wrap64 (x6 + 1)))) else (none)) else (none)
end
def camshaftref13_ceiling.f (k : Nat) (a0 : Int) (l1 : List (S62)) : Option (Int) := camshaftref13_ceiling.l0 k a0 l1 0 0
theorem camshaftref13_ceiling.mono_l : ∀ k, (∀ y0 y1 y2 y3, LeO (camshaftref13_ceiling.l0 k y0 y1 y2 y3) (camshaftref13_ceiling.l0 (k + 1) y0 y1 y2 y3)) ∧ (∀ y0 y1 y2 y3 y4, LeO (camshaftref13_ceiling.l1 k y0 y1 y2 y3 y4) (camshaftref13_ceiling.l1 (k + 1) y0 y1 y2 y3 y4))
  | 0 => ⟨fun _ _ _ _ r h => by simp [camshaftref13_ceiling.l0] at h, fun _ _ _ _ _ r h => by simp [camshaftref13_ceiling.l1] at h⟩
  | k + 1 => by
    obtain ⟨ih0, ih1⟩ := camshaftref13_ceiling.mono_l k
    refine ⟨?_, ?_⟩
    · intro y0 y1 y2 y3
      unfold camshaftref13_ceiling.l0
      repeat' first
      | (with_reducible exact ih0 _ _ _ _)
      | (with_reducible exact ih1 _ _ _ _ _)
      | (with_reducible exact LeO.refl _)
      | (with_reducible exact LeO.none _)
      | (with_reducible refine LeO.ite ?_ ?_)
      | (with_reducible refine LeO.bind ?_ (fun _ => ?_))
      | exact ih0 _ _ _ _
      | exact ih1 _ _ _ _ _
      | exact LeO.none _
      | refine LeO.ite ?_ ?_
      | refine LeO.bind ?_ (fun _ => ?_)
    · intro y0 y1 y2 y3 y4
      unfold camshaftref13_ceiling.l1
      repeat' first
      | (with_reducible exact ih0 _ _ _ _)
      | (with_reducible exact ih1 _ _ _ _ _)
      | (with_reducible exact LeO.refl _)
      | (with_reducible exact LeO.none _)
      | (with_reducible refine LeO.ite ?_ ?_)
      | (with_reducible refine LeO.bind ?_ (fun _ => ?_))
      | exact ih0 _ _ _ _
      | exact ih1 _ _ _ _ _
      | exact LeO.none _
      | refine LeO.ite ?_ ?_
      | refine LeO.bind ?_ (fun _ => ?_)
theorem camshaftref13_ceiling.mono : ∀ a0 a1 k, LeO (camshaftref13_ceiling.f k a0 a1) (camshaftref13_ceiling.f (k + 1) a0 a1) := by
  intro a0 a1 k
  obtain ⟨ih0, ih1⟩ := camshaftref13_ceiling.mono_l k
  unfold camshaftref13_ceiling.f
  repeat' first
      | (with_reducible exact ih0 _ _ _ _)
      | (with_reducible exact ih1 _ _ _ _ _)
      | (with_reducible exact LeO.refl _)
      | (with_reducible exact LeO.none _)
      | (with_reducible refine LeO.ite ?_ ?_)
      | (with_reducible refine LeO.bind ?_ (fun _ => ?_))
      | exact ih0 _ _ _ _
      | exact ih1 _ _ _ _ _
      | exact LeO.none _
      | refine LeO.ite ?_ ?_
      | refine LeO.bind ?_ (fun _ => ?_)
set_option maxHeartbeats 8000000 in
set_option maxRecDepth 100000 in
theorem camshaftref13_ceiling.calls (k : Nat) (a0 : Int) (A1 : Option Addr) (c1 : Nat) (l1 : List (S62)) (r : Int) (w : World) (hr1 : Kd.C k62 w A1 l1.length l1) (hc1 : l1.length ≤ c1) (h : camshaftref13_ceiling.f k a0 l1 = some r) :
    Calls Try.prog 42 #[.int .i64 a0, .slice A1 l1.length c1] w fun e w' => e = .returned (.int .i64 r) ∧ Below w.heap.size w w' := by
  have HR1 := Aside0.mk hr1
  have HC1 := Aside0.mk hc1
  clear hr1 hc1
  have HB := Aside0.mk (Below.refl w.heap.size w)
  have H : (camshaftref13_ceiling.l0 k a0 l1 0 0) = some r := h
  clear h
  have H' := Aside0.mk H
  clear H
  go_enter Try.func42, Try.ntmps42
  go_wp2
  go_loopg [5, 6] k (fun kq v5 v6 w' => ∃ (x5_1 : Int) (x6_1 : Int), v5 = .int .i64 x5_1 ∧ v6 = .int .i64 x6_1 ∧ Aside0 (camshaftref13_ceiling.l0 kq a0 l1 x5_1 x6_1 = some r) ∧ Aside0 (kq ≤ k) ∧ Aside0 (Below w.heap.size w w'))
  case atStart => exact ⟨(0), (0), (by first | rfl | (simp; done) | (simp [*]; done)), (by first | rfl | (simp; done) | (simp [*]; done)), H', ⟨Nat.le_refl _⟩, ⟨by repeat (first | (with_reducible first | exact HB.out | apply below_alloc | apply pw_below_drewN | apply below_drew1) | exact HB.out)⟩⟩
  case round =>
    clear H'
    try clear c1
    try clear p2
    obtain ⟨x5_1, x6_1, rfl, rfl, HA, HK1, HB⟩ := hrel
    cases gk with
    | zero => exact absurd HA.out (by simp [camshaftref13_ceiling.l0])
    | succ k1 =>
      have H := HA.out
      clear HA
      simp only [camshaftref13_ceiling.l0] at H
      by_cases c3 : x6_1 < (l1.length : Int)
      · rw [if_pos c3] at H
        have c3b0 : decide (x6_1 < (l1.length : Int)) = true := decide_eq_true c3
        clear c3
        have H' := Aside0.mk H
        clear H
        go_wp2
        go_loopg [5, 7] k1 (fun kq v5 v7 w' => ∃ (x5_2 : Int) (x7_2 : Int), v5 = .int .i64 x5_2 ∧ v7 = .int .i64 x7_2 ∧ Aside0 (camshaftref13_ceiling.l1 kq a0 l1 x5_2 x6_1 x7_2 = some r) ∧ Aside0 (kq ≤ k1) ∧ Aside0 (Below w.heap.size w w'))
        case atStart => exact ⟨(x5_1), (0), (by first | rfl | (simp; done) | (simp [*]; done)), (by first | rfl | (simp; done) | (simp [*]; done)), H', ⟨Nat.le_refl _⟩, ⟨by repeat (first | (with_reducible first | exact HB.out | apply below_alloc | apply pw_below_drewN | apply below_drew1) | exact HB.out)⟩⟩
        case round =>
          clear H'
          try clear c1
          try clear p2
          try clear c3
          try clear c3b0
          try clear p2
          obtain ⟨x5_2, x7_2, rfl, rfl, HA, HK2, HB⟩ := hrel
          cases gk with
          | zero => exact absurd HA.out (by simp [camshaftref13_ceiling.l1])
          | succ k2 =>
            have H := HA.out
            clear HA
            simp only [camshaftref13_ceiling.l1] at H
            by_cases c4 : 0 ≤ x6_1
            · rw [if_pos c4] at H
              have c4b0 : decide (0 ≤ x6_1) = true := decide_eq_true c4
              clear c4
              by_cases c5 : x6_1 < (l1.length : Int)
              · rw [if_pos c5] at H
                have c5b0 : decide (x6_1 < (l1.length : Int)) = true := decide_eq_true c5
                clear c5
                by_cases c6 : x7_2 < (((rd_T62 l1 x6_1).f1).length : Int)
                · rw [if_pos c6] at H
                  have c6b0 : decide (x7_2 < (((rd_T62 l1 x6_1).f1).length : Int)) = true := decide_eq_true c6
                  clear c6
                  by_cases c7 : 0 ≤ x7_2
                  · rw [if_pos c7] at H
                    have c7b0 : decide (0 ≤ x7_2) = true := decide_eq_true c7
                    clear c7
                    by_cases c8 : (rd ((rd_T62 l1 x6_1).f1) x7_2) = a0
                    · rw [if_pos c8] at H
                      have c8b0 : ((rd ((rd_T62 l1 x6_1).f1) x7_2) == a0) = true := beq_iff_eq.mpr c8
                      have c8b1 : ((rd ((rd_T62 l1 x6_1).f1) x7_2) != a0) = false := bne_eq_false_iff_eq.mpr c8
                      clear c8
                      obtain ⟨ji9, hji9⟩ : ∃ j_ : Int, (mx x5_2 ((rd_T62 l1 x6_1).f0)) = j_ := ⟨_, rfl⟩
                      replace H : (camshaftref13_ceiling.l1 k2 a0 l1 ji9 x6_1 (wrap64 (x7_2 + 1))) = some r := by first | (rw [hji9] at H; exact H) | (simp only [hji9] at H ⊢; exact H)
                      have hji9_ : (if x5_2 < ((rd_T62 l1 x6_1).f0) then ((rd_T62 l1 x6_1).f0) else x5_2) = ji9 := hji9
                      have H' := Aside0.mk H
                      clear H
                      have p167 : 0 ≤ (x6_1 : Int) := of_decide_eq_true (by first | (with_reducible assumption) | assumption)
                      have q167 : x6_1 < (l1.length : Int) := of_decide_eq_true (by first | (with_reducible assumption) | assumption)
                      obtain ⟨ad167, A167_1, c167_1, A167_2, c167_2, e167, hx167_0, hx167_1, hx167_2, hl167_1, hi167_1, hl167_2, hi167_2⟩ := at_T62 HR1.out x6_1 p167 q167
                      cases e167
                      replace hx167_0 := (HB.out.cell (World.block_lt_of_cell? w _ hx167_0)).trans hx167_0
                      replace hx167_1 := (HB.out.cell (World.block_lt_of_cell? w _ hx167_1)).trans hx167_1
                      replace hx167_2 := (HB.out.cell (World.block_lt_of_cell? w _ hx167_2)).trans hx167_2
                      have HR167_1 := Aside0.mk hi167_1
                      have HC167_1 := Aside0.mk hl167_1
                      clear hi167_1 hl167_1
                      have HR167_2 := Aside0.mk hi167_2
                      have HC167_2 := Aside0.mk hl167_2
                      clear hi167_2 hl167_2
                      replace p167 := eq_true p167
                      replace q167 := eq_true q167
                      have p168 : 0 ≤ (x6_1 : Int) := of_decide_eq_true (by first | (with_reducible assumption) | assumption)
                      have q168 : x6_1 < (l1.length : Int) := of_decide_eq_true (by first | (with_reducible assumption) | assumption)
                      obtain ⟨ad168, A168_1, c168_1, A168_2, c168_2, e168, hx168_0, hx168_1, hx168_2, hl168_1, hi168_1, hl168_2, hi168_2⟩ := at_T62 HR1.out x6_1 p168 q168
                      obtain rfl : ad167 = ad168 := (by injection e168)
                      replace hx168_0 := (HB.out.cell (World.block_lt_of_cell? w _ hx168_0)).trans hx168_0
                      replace hx168_1 := (HB.out.cell (World.block_lt_of_cell? w _ hx168_1)).trans hx168_1
                      replace hx168_2 := (HB.out.cell (World.block_lt_of_cell? w _ hx168_2)).trans hx168_2
                      have HR168_1 := Aside0.mk hi168_1
                      have HC168_1 := Aside0.mk hl168_1
                      clear hi168_1 hl168_1
                      have HR168_2 := Aside0.mk hi168_2
                      have HC168_2 := Aside0.mk hl168_2
                      clear hi168_2 hl168_2
                      replace p168 := eq_true p168
                      replace q168 := eq_true q168
                      have ea_ := Option.some.inj (hx167_1.symm.trans hx168_1)
                      injection ea_ with ea_ en_ ec_
                      subst ea_
                      subst ec_
                      clear en_
                      have ea_ := Option.some.inj (hx167_2.symm.trans hx168_2)
                      injection ea_ with ea_ en_ ec_
                      subst ea_
                      subst ec_
                      clear en_
                      have p169 : 0 ≤ (x7_2 : Int) := of_decide_eq_true (by first | (with_reducible assumption) | assumption)
                      have q169 : x7_2 < (((rd_T62 l1 x6_1).f1).length : Int) := of_decide_eq_true (by first | (with_reducible assumption) | assumption)
                      obtain ⟨ad169, e169, hx169_0⟩ := Kd.at_int HR168_1.out x7_2 p169 q169
                      cases e169
                      replace hx169_0 := (HB.out.cell (World.block_lt_of_cell? w _ hx169_0)).trans hx169_0
                      replace p169 := eq_true p169
                      replace q169 := eq_true q169
                      have p170 : 0 ≤ (x6_1 : Int) := of_decide_eq_true (by first | (with_reducible assumption) | assumption)
                      have q170 : x6_1 < (l1.length : Int) := of_decide_eq_true (by first | (with_reducible assumption) | assumption)
                      obtain ⟨ad170, A170_1, c170_1, A170_2, c170_2, e170, hx170_0, hx170_1, hx170_2, hl170_1, hi170_1, hl170_2, hi170_2⟩ := at_T62 HR1.out x6_1 p170 q170
                      obtain rfl : ad167 = ad170 := (by injection e170)
                      replace hx170_0 := (HB.out.cell (World.block_lt_of_cell? w _ hx170_0)).trans hx170_0
                      replace hx170_1 := (HB.out.cell (World.block_lt_of_cell? w _ hx170_1)).trans hx170_1
                      replace hx170_2 := (HB.out.cell (World.block_lt_of_cell? w _ hx170_2)).trans hx170_2
                      have HR170_1 := Aside0.mk hi170_1
                      have HC170_1 := Aside0.mk hl170_1
                      clear hi170_1 hl170_1
                      have HR170_2 := Aside0.mk hi170_2
                      have HC170_2 := Aside0.mk hl170_2
                      clear hi170_2 hl170_2
                      replace p170 := eq_true p170
                      replace q170 := eq_true q170
                      have ea_ := Option.some.inj (hx167_1.symm.trans hx170_1)
                      injection ea_ with ea_ en_ ec_
                      subst ea_
                      subst ec_
                      clear en_
                      have ea_ := Option.some.inj (hx167_2.symm.trans hx170_2)
                      injection ea_ with ea_ en_ ec_
                      subst ea_
                      subst ec_
                      clear en_
                      go_wp2
                      go_roundg k2
                      case measure => have := HK1.out; have := HK2.out; omega
                      case rel => exact ⟨(ji9), (wrap64 (x7_2 + 1)), (by first | rfl | (simp; done) | (simp only [← hji9] <;> (first | rfl | simp)) | (simp [*]; done)), (by first | rfl | (simp; done) | (simp [*]; done)), H', ⟨by have := HK1.out; have := HK2.out; omega⟩, ⟨by repeat (first | (with_reducible first | exact HB.out | apply below_alloc | apply pw_below_drewN | apply below_drew1) | exact HB.out)⟩⟩
                    · rw [if_neg c8] at H
                      have c8b0 : ((rd ((rd_T62 l1 x6_1).f1) x7_2) == a0) = false := beq_eq_false_iff_ne.mpr c8
                      have c8b1 : ((rd ((rd_T62 l1 x6_1).f1) x7_2) != a0) = true := bne_iff_ne.mpr c8
                      have H' := Aside0.mk H
                      clear H
                      have p167 : 0 ≤ (x6_1 : Int) := of_decide_eq_true (by first | (with_reducible assumption) | assumption)
                      have q167 : x6_1 < (l1.length : Int) := of_decide_eq_true (by first | (with_reducible assumption) | assumption)
                      obtain ⟨ad167, A167_1, c167_1, A167_2, c167_2, e167, hx167_0, hx167_1, hx167_2, hl167_1, hi167_1, hl167_2, hi167_2⟩ := at_T62 HR1.out x6_1 p167 q167
                      cases e167
                      replace hx167_0 := (HB.out.cell (World.block_lt_of_cell? w _ hx167_0)).trans hx167_0
                      replace hx167_1 := (HB.out.cell (World.block_lt_of_cell? w _ hx167_1)).trans hx167_1
                      replace hx167_2 := (HB.out.cell (World.block_lt_of_cell? w _ hx167_2)).trans hx167_2
                      have HR167_1 := Aside0.mk hi167_1
                      have HC167_1 := Aside0.mk hl167_1
                      clear hi167_1 hl167_1
                      have HR167_2 := Aside0.mk hi167_2
                      have HC167_2 := Aside0.mk hl167_2
                      clear hi167_2 hl167_2
                      replace p167 := eq_true p167
                      replace q167 := eq_true q167
                      have p168 : 0 ≤ (x6_1 : Int) := of_decide_eq_true (by first | (with_reducible assumption) | assumption)
                      have q168 : x6_1 < (l1.length : Int) := of_decide_eq_true (by first | (with_reducible assumption) | assumption)
                      obtain ⟨ad168, A168_1, c168_1, A168_2, c168_2, e168, hx168_0, hx168_1, hx168_2, hl168_1, hi168_1, hl168_2, hi168_2⟩ := at_T62 HR1.out x6_1 p168 q168
                      obtain rfl : ad167 = ad168 := (by injection e168)
                      replace hx168_0 := (HB.out.cell (World.block_lt_of_cell? w _ hx168_0)).trans hx168_0
                      replace hx168_1 := (HB.out.cell (World.block_lt_of_cell? w _ hx168_1)).trans hx168_1
                      replace hx168_2 := (HB.out.cell (World.block_lt_of_cell? w _ hx168_2)).trans hx168_2
                      have HR168_1 := Aside0.mk hi168_1
                      have HC168_1 := Aside0.mk hl168_1
                      clear hi168_1 hl168_1
                      have HR168_2 := Aside0.mk hi168_2
                      have HC168_2 := Aside0.mk hl168_2
                      clear hi168_2 hl168_2
                      replace p168 := eq_true p168
                      replace q168 := eq_true q168
                      have ea_ := Option.some.inj (hx167_1.symm.trans hx168_1)
                      injection ea_ with ea_ en_ ec_
                      subst ea_
                      subst ec_
                      clear en_
                      have ea_ := Option.some.inj (hx167_2.symm.trans hx168_2)
                      injection ea_ with ea_ en_ ec_
                      subst ea_
                      subst ec_
                      clear en_
                      have p169 : 0 ≤ (x7_2 : Int) := of_decide_eq_true (by first | (with_reducible assumption) | assumption)
                      have q169 : x7_2 < (((rd_T62 l1 x6_1).f1).length : Int) := of_decide_eq_true (by first | (with_reducible assumption) | assumption)
                      obtain ⟨ad169, e169, hx169_0⟩ := Kd.at_int HR168_1.out x7_2 p169 q169
                      cases e169
                      replace hx169_0 := (HB.out.cell (World.block_lt_of_cell? w _ hx169_0)).trans hx169_0
                      replace p169 := eq_true p169
                      replace q169 := eq_true q169
                      go_wp2
                      go_roundg k2
                      case measure => have := HK1.out; have := HK2.out; omega
                      case rel => exact ⟨(x5_2), (wrap64 (x7_2 + 1)), (by first | rfl | (simp; done) | (simp [*]; done)), (by first | rfl | (simp; done) | (simp [*]; done)), H', ⟨by have := HK1.out; have := HK2.out; omega⟩, ⟨by repeat (first | (with_reducible first | exact HB.out | apply below_alloc | apply pw_below_drewN | apply below_drew1) | exact HB.out)⟩⟩
                  · rw [if_neg c7] at H
                    exact absurd H (by simp)
                · rw [if_neg c6] at H
                  have c6b0 : decide (x7_2 < (((rd_T62 l1 x6_1).f1).length : Int)) = false := decide_eq_false c6
                  clear c6
                  have H' := Aside0.mk H
                  clear H
                  have p167 : 0 ≤ (x6_1 : Int) := of_decide_eq_true (by first | (with_reducible assumption) | assumption)
                  have q167 : x6_1 < (l1.length : Int) := of_decide_eq_true (by first | (with_reducible assumption) | assumption)
                  obtain ⟨ad167, A167_1, c167_1, A167_2, c167_2, e167, hx167_0, hx167_1, hx167_2, hl167_1, hi167_1, hl167_2, hi167_2⟩ := at_T62 HR1.out x6_1 p167 q167
                  cases e167
                  replace hx167_0 := (HB.out.cell (World.block_lt_of_cell? w _ hx167_0)).trans hx167_0
                  replace hx167_1 := (HB.out.cell (World.block_lt_of_cell? w _ hx167_1)).trans hx167_1
                  replace hx167_2 := (HB.out.cell (World.block_lt_of_cell? w _ hx167_2)).trans hx167_2
                  have HR167_1 := Aside0.mk hi167_1
                  have HC167_1 := Aside0.mk hl167_1
                  clear hi167_1 hl167_1
                  have HR167_2 := Aside0.mk hi167_2
                  have HC167_2 := Aside0.mk hl167_2
                  clear hi167_2 hl167_2
                  replace p167 := eq_true p167
                  replace q167 := eq_true q167
                  go_wp2
                  go_roundg k2
                  case measure => have := HK1.out; have := HK2.out; omega
                  case rel => exact ⟨(x5_2), (wrap64 (x6_1 + 1)), (by first | rfl | (simp; done) | (simp [*]; done)), (by first | rfl | (simp; done) | (simp [*]; done)), H', ⟨by have := HK1.out; have := HK2.out; omega⟩, ⟨by repeat (first | (with_reducible first | exact HB.out | apply below_alloc | apply pw_below_drewN | apply below_drew1) | exact HB.out)⟩⟩
              · rw [if_neg c5] at H
                exact absurd H (by simp)
            · rw [if_neg c4] at H
              exact absurd H (by simp)
      · rw [if_neg c3] at H
        have c3b0 : decide (x6_1 < (l1.length : Int)) = false := decide_eq_false c3
        clear c3
        obtain rfl := Option.some.inj H
        go_wp2
        go_ret
        exact ⟨by first | rfl | (simp [errW_none, errW_some] <;> rfl) | (simp [*, errW_none, errW_some] <;> rfl), by repeat (first | (with_reducible first | exact HB.out | apply below_alloc | apply pw_below_drewN | apply below_drew1) | exact HB.out)⟩

end Go.Proofs.Ytehmolbalfefjaa.Q
