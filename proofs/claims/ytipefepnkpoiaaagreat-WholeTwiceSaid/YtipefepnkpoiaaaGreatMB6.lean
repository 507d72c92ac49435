/- A part of the proofs: Plain: what a step does, operation by operation. -/
import Derived.Test.YtipefepnkpoiaaaGreatMB5
import Derived.Test.YtipefepnkpoiaaaGreatMB4
set_option linter.unusedVariables false
set_option linter.unusedSimpArgs false
noncomputable section
namespace Go.Proofs.Dk
open Go Go.IntKind
set_option maxRecDepth 100000
theorem PL (n : Nat) {v1 : List cZ} {v2 : List Int} {v3 : List Int} {v5 : Int} {v6 : List Int} {v7 : List Int} {v8 : List Int} {v9 : List Int} {v10 : Int} {v11 : List Int} {v12 : Int} {v13 : Int} {v14 : Int} {v15 : List (List Int)} {A B : Int} (h0 : decide ((v1.length : Int) > 0) = true) (hi : (decide (0 ≤ v5) && decide (v5 < (v1.length : Int))) = true) (hx : v1.getD v5.toNat ((0 : Int), ((0 : Int), (0 : Int))) = (1, A, B)) : dE n v1 v2 v3 true v5 v6 v7 v8 v9 v10 v11 v12 v13 v14 v15 = ((if (decide ((v6.length + 1) * 8 ≤ 140737488355328) && decide (1 ≤ 8)) then (some ((0, 0), 0, v1, v2, v3, true, (wrap .i64 (v5 + 1)), (v6 ++ [A]), v7, v8, v9, v10, v11, v12, v13, (wrap .i64 (v14 + 1)), v15)) else none)) := by
 unfold dE eB
 rw [h0, if_neg (by decide), if_neg (by decide), if_pos hi, hx]
 kernel_rfl
theorem PM (n : Nat) {v1 : List cZ} {v2 : List Int} {v3 : List Int} {v5 : Int} {v6 : List Int} {v7 : List Int} {v8 : List Int} {v9 : List Int} {v10 : Int} {v11 : List Int} {v12 : Int} {v13 : Int} {v14 : Int} {v15 : List (List Int)} {A B : Int} (h0 : decide ((v1.length : Int) > 0) = true) (hi : (decide (0 ≤ v5) && decide (v5 < (v1.length : Int))) = true) (hx : v1.getD v5.toNat ((0 : Int), ((0 : Int), (0 : Int))) = (2, A, B)) : dE n v1 v2 v3 true v5 v6 v7 v8 v9 v10 v11 v12 v13 v14 v15 = (((dU n v1 v2 v3 true v5 v6 v7 v8 v9 v10 v11 v12 v13 v14).bind fun y35 => (some ((0, 0), 0, y35.2.1, y35.2.2.1, y35.2.2.2.1, y35.2.2.2.2.1, (wrap .i64 (v5 + 1)), y35.2.2.2.2.2.2.1, y35.2.2.2.2.2.2.2.1, y35.2.2.2.2.2.2.2.2.1, y35.2.2.2.2.2.2.2.2.2.1, y35.2.2.2.2.2.2.2.2.2.2.1, y35.2.2.2.2.2.2.2.2.2.2.2.1, y35.2.2.2.2.2.2.2.2.2.2.2.2.1, y35.2.2.2.2.2.2.2.2.2.2.2.2.2.1, (wrap .i64 (y35.2.2.2.2.2.2.2.2.2.2.2.2.2.2 + 1)), v15)))) := by
 unfold dE eB
 rw [h0, if_neg (by decide), if_neg (by decide), if_pos hi, hx]
 kernel_rfl
theorem PN (n : Nat) {v1 : List cZ} {v2 : List Int} {v3 : List Int} {v5 : Int} {v6 : List Int} {v7 : List Int} {v8 : List Int} {v9 : List Int} {v10 : Int} {v11 : List Int} {v12 : Int} {v13 : Int} {v14 : Int} {v15 : List (List Int)} {A B : Int} (h0 : decide ((v1.length : Int) > 0) = true) (hi : (decide (0 ≤ v5) && decide (v5 < (v1.length : Int))) = true) (hx : v1.getD v5.toNat ((0 : Int), ((0 : Int), (0 : Int))) = (3, A, B)) : dE n v1 v2 v3 true v5 v6 v7 v8 v9 v10 v11 v12 v13 v14 v15 = ((if (decide (0 ≤ (wrap .i64 ((v6.length : Int) - 1))) && decide ((wrap .i64 ((v6.length : Int) - 1)) < (v6.length : Int))) then (if (decide ((v6.length + 1) * 8 ≤ 140737488355328) && decide (1 ≤ 8)) then (some ((0, 0), 0, v1, v2, v3, true, (wrap .i64 (v5 + 1)), (v6 ++ [(v6.getD ((wrap .i64 ((v6.length : Int) - 1))).toNat (0 : Int))]), v7, v8, v9, v10, v11, v12, v13, (wrap .i64 (v14 + 1)), v15)) else none) else none)) := by
 unfold dE eB
 rw [h0, if_neg (by decide), if_neg (by decide), if_pos hi, hx]
 kernel_rfl
theorem PO (n : Nat) {v1 : List cZ} {v2 : List Int} {v3 : List Int} {v5 : Int} {v6 : List Int} {v7 : List Int} {v8 : List Int} {v9 : List Int} {v10 : Int} {v11 : List Int} {v12 : Int} {v13 : Int} {v14 : Int} {v15 : List (List Int)} {A B : Int} (h0 : decide ((v1.length : Int) > 0) = true) (hi : (decide (0 ≤ v5) && decide (v5 < (v1.length : Int))) = true) (hx : v1.getD v5.toNat ((0 : Int), ((0 : Int), (0 : Int))) = (4, A, B)) : dE n v1 v2 v3 true v5 v6 v7 v8 v9 v10 v11 v12 v13 v14 v15 = (((dU n v1 v2 v3 true v5 v6 v7 v8 v9 v10 v11 v12 v13 v14).bind fun y33 => ((dU n y33.2.1 y33.2.2.1 y33.2.2.2.1 y33.2.2.2.2.1 y33.2.2.2.2.2.1 y33.2.2.2.2.2.2.1 y33.2.2.2.2.2.2.2.1 y33.2.2.2.2.2.2.2.2.1 y33.2.2.2.2.2.2.2.2.2.1 y33.2.2.2.2.2.2.2.2.2.2.1 y33.2.2.2.2.2.2.2.2.2.2.2.1 y33.2.2.2.2.2.2.2.2.2.2.2.2.1 y33.2.2.2.2.2.2.2.2.2.2.2.2.2.1 y33.2.2.2.2.2.2.2.2.2.2.2.2.2.2).bind fun y34 => (if (decide ((y34.2.2.2.2.2.2.1.length + 1) * 8 ≤ 140737488355328) && decide (1 ≤ 8)) then (if (decide (((y34.2.2.2.2.2.2.1 ++ [y33.1]).length + 1) * 8 ≤ 140737488355328) && decide (1 ≤ 8)) then (some ((0, 0), 0, y34.2.1, y34.2.2.1, y34.2.2.2.1, y34.2.2.2.2.1, (wrap .i64 (v5 + 1)), ((y34.2.2.2.2.2.2.1 ++ [y33.1]) ++ [y34.1]), y34.2.2.2.2.2.2.2.1, y34.2.2.2.2.2.2.2.2.1, y34.2.2.2.2.2.2.2.2.2.1, y34.2.2.2.2.2.2.2.2.2.2.1, y34.2.2.2.2.2.2.2.2.2.2.2.1, y34.2.2.2.2.2.2.2.2.2.2.2.2.1, y34.2.2.2.2.2.2.2.2.2.2.2.2.2.1, (wrap .i64 (y34.2.2.2.2.2.2.2.2.2.2.2.2.2.2 + 1)), v15)) else none) else none)))) := by
 unfold dE eB
 rw [h0, if_neg (by decide), if_neg (by decide), if_pos hi, hx]
 kernel_rfl
theorem PP (n : Nat) {v1 : List cZ} {v2 : List Int} {v3 : List Int} {v5 : Int} {v6 : List Int} {v7 : List Int} {v8 : List Int} {v9 : List Int} {v10 : Int} {v11 : List Int} {v12 : Int} {v13 : Int} {v14 : Int} {v15 : List (List Int)} {A B : Int} (h0 : decide ((v1.length : Int) > 0) = true) (hi : (decide (0 ≤ v5) && decide (v5 < (v1.length : Int))) = true) (hx : v1.getD v5.toNat ((0 : Int), ((0 : Int), (0 : Int))) = (5, A, B)) : dE n v1 v2 v3 true v5 v6 v7 v8 v9 v10 v11 v12 v13 v14 v15 = (((dU n v1 v2 v3 true v5 v6 v7 v8 v9 v10 v11 v12 v13 v14).bind fun y29 => ((dU n y29.2.1 y29.2.2.1 y29.2.2.2.1 y29.2.2.2.2.1 y29.2.2.2.2.2.1 y29.2.2.2.2.2.2.1 y29.2.2.2.2.2.2.2.1 y29.2.2.2.2.2.2.2.2.1 y29.2.2.2.2.2.2.2.2.2.1 y29.2.2.2.2.2.2.2.2.2.2.1 y29.2.2.2.2.2.2.2.2.2.2.2.1 y29.2.2.2.2.2.2.2.2.2.2.2.2.1 y29.2.2.2.2.2.2.2.2.2.2.2.2.2.1 y29.2.2.2.2.2.2.2.2.2.2.2.2.2.2).bind fun y30 => ((ed n (A) y30.1 y29.1).bind fun y31 => ((gE n y31.2).bind fun y32 => (if (decide ((y30.2.2.2.2.2.2.1.length + 1) * 8 ≤ 140737488355328) && decide (1 ≤ 8)) then (some ((0, 0), 0, y30.2.1, y30.2.2.1, y30.2.2.2.1, y30.2.2.2.2.1, (wrap .i64 (v5 + 1)), (y30.2.2.2.2.2.2.1 ++ [y31.1]), y30.2.2.2.2.2.2.2.1, y30.2.2.2.2.2.2.2.2.1, y30.2.2.2.2.2.2.2.2.2.1, y30.2.2.2.2.2.2.2.2.2.2.1, y30.2.2.2.2.2.2.2.2.2.2.2.1, y30.2.2.2.2.2.2.2.2.2.2.2.2.1, (wrap .i64 (y30.2.2.2.2.2.2.2.2.2.2.2.2.2.1 + y32)), (wrap .i64 (y30.2.2.2.2.2.2.2.2.2.2.2.2.2.2 + 1)), v15)) else none)))))) := by
 unfold dE eB
 rw [h0, if_neg (by decide), if_neg (by decide), if_pos hi, hx]
 kernel_rfl
theorem PQ (n : Nat) {v1 : List cZ} {v2 : List Int} {v3 : List Int} {v5 : Int} {v6 : List Int} {v7 : List Int} {v8 : List Int} {v9 : List Int} {v10 : Int} {v11 : List Int} {v12 : Int} {v13 : Int} {v14 : Int} {v15 : List (List Int)} {A B : Int} (h0 : decide ((v1.length : Int) > 0) = true) (hi : (decide (0 ≤ v5) && decide (v5 < (v1.length : Int))) = true) (hx : v1.getD v5.toNat ((0 : Int), ((0 : Int), (0 : Int))) = (6, A, B)) : dE n v1 v2 v3 true v5 v6 v7 v8 v9 v10 v11 v12 v13 v14 v15 = (((dU n v1 v2 v3 true v5 v6 v7 v8 v9 v10 v11 v12 v13 v14).bind fun y27 => ((oZ n y27.1).bind fun y28 => (if (decide ((y27.2.2.2.2.2.2.1.length + 1) * 8 ≤ 140737488355328) && decide (1 ≤ 8)) then (some ((0, 0), 0, y27.2.1, y27.2.2.1, y27.2.2.2.1, y27.2.2.2.2.1, (wrap .i64 (v5 + 1)), (y27.2.2.2.2.2.2.1 ++ [y28]), y27.2.2.2.2.2.2.2.1, y27.2.2.2.2.2.2.2.2.1, y27.2.2.2.2.2.2.2.2.2.1, y27.2.2.2.2.2.2.2.2.2.2.1, y27.2.2.2.2.2.2.2.2.2.2.2.1, y27.2.2.2.2.2.2.2.2.2.2.2.2.1, y27.2.2.2.2.2.2.2.2.2.2.2.2.2.1, (wrap .i64 (y27.2.2.2.2.2.2.2.2.2.2.2.2.2.2 + 1)), v15)) else none)))) := by
 unfold dE eB
 rw [h0, if_neg (by decide), if_neg (by decide), if_pos hi, hx]
 kernel_rfl
theorem PR (n : Nat) {v1 : List cZ} {v2 : List Int} {v3 : List Int} {v5 : Int} {v6 : List Int} {v7 : List Int} {v8 : List Int} {v9 : List Int} {v10 : Int} {v11 : List Int} {v12 : Int} {v13 : Int} {v14 : Int} {v15 : List (List Int)} {A B : Int} (h0 : decide ((v1.length : Int) > 0) = true) (hi : (decide (0 ≤ v5) && decide (v5 < (v1.length : Int))) = true) (hx : v1.getD v5.toNat ((0 : Int), ((0 : Int), (0 : Int))) = (7, A, B)) : dE n v1 v2 v3 true v5 v6 v7 v8 v9 v10 v11 v12 v13 v14 v15 = (((dU n v1 v2 v3 true v5 v6 v7 v8 v9 v10 v11 v12 v13 v14).bind fun y25 => ((mW n y25.1).bind fun y26 => (if (decide ((y25.2.2.2.2.2.2.1.length + 1) * 8 ≤ 140737488355328) && decide (1 ≤ 8)) then (some ((0, 0), 0, y25.2.1, y25.2.2.1, y25.2.2.2.1, y25.2.2.2.2.1, (wrap .i64 (v5 + 1)), (y25.2.2.2.2.2.2.1 ++ [y26]), y25.2.2.2.2.2.2.2.1, y25.2.2.2.2.2.2.2.2.1, y25.2.2.2.2.2.2.2.2.2.1, y25.2.2.2.2.2.2.2.2.2.2.1, y25.2.2.2.2.2.2.2.2.2.2.2.1, y25.2.2.2.2.2.2.2.2.2.2.2.2.1, y25.2.2.2.2.2.2.2.2.2.2.2.2.2.1, (wrap .i64 (y25.2.2.2.2.2.2.2.2.2.2.2.2.2.2 + 1)), v15)) else none)))) := by
 unfold dE eB
 rw [h0, if_neg (by decide), if_neg (by decide), if_pos hi, hx]
 kernel_rfl
theorem PS (n : Nat) {v1 : List cZ} {v2 : List Int} {v3 : List Int} {v5 : Int} {v6 : List Int} {v7 : List Int} {v8 : List Int} {v9 : List Int} {v10 : Int} {v11 : List Int} {v12 : Int} {v13 : Int} {v14 : Int} {v15 : List (List Int)} {A B : Int} (h0 : decide ((v1.length : Int) > 0) = true) (hi : (decide (0 ≤ v5) && decide (v5 < (v1.length : Int))) = true) (hx : v1.getD v5.toNat ((0 : Int), ((0 : Int), (0 : Int))) = (8, A, B)) : dE n v1 v2 v3 true v5 v6 v7 v8 v9 v10 v11 v12 v13 v14 v15 = (((dU n v1 v2 v3 true v5 v6 v7 v8 v9 v10 v11 v12 v13 v14).bind fun y23 => ((dU n y23.2.1 y23.2.2.1 y23.2.2.2.1 y23.2.2.2.2.1 y23.2.2.2.2.2.1 y23.2.2.2.2.2.2.1 y23.2.2.2.2.2.2.2.1 y23.2.2.2.2.2.2.2.2.1 y23.2.2.2.2.2.2.2.2.2.1 y23.2.2.2.2.2.2.2.2.2.2.1 y23.2.2.2.2.2.2.2.2.2.2.2.1 y23.2.2.2.2.2.2.2.2.2.2.2.2.1 y23.2.2.2.2.2.2.2.2.2.2.2.2.2.1 y23.2.2.2.2.2.2.2.2.2.2.2.2.2.2).bind fun y24 => (if (decide ((y24.2.2.2.2.2.2.1.length + 1) * 8 ≤ 140737488355328) && decide (1 ≤ 8)) then (some ((0, 0), 0, y24.2.1, y24.2.2.1, y24.2.2.2.1, y24.2.2.2.2.1, (wrap .i64 (v5 + 1)), (y24.2.2.2.2.2.2.1 ++ [(bits .and .i64 y23.1 y24.1)]), y24.2.2.2.2.2.2.2.1, y24.2.2.2.2.2.2.2.2.1, y24.2.2.2.2.2.2.2.2.2.1, y24.2.2.2.2.2.2.2.2.2.2.1, y24.2.2.2.2.2.2.2.2.2.2.2.1, y24.2.2.2.2.2.2.2.2.2.2.2.2.1, y24.2.2.2.2.2.2.2.2.2.2.2.2.2.1, (wrap .i64 (y24.2.2.2.2.2.2.2.2.2.2.2.2.2.2 + 1)), v15)) else none)))) := by
 unfold dE eB
 rw [h0, if_neg (by decide), if_neg (by decide), if_pos hi, hx]
 kernel_rfl
theorem PT (n : Nat) {v1 : List cZ} {v2 : List Int} {v3 : List Int} {v5 : Int} {v6 : List Int} {v7 : List Int} {v8 : List Int} {v9 : List Int} {v10 : Int} {v11 : List Int} {v12 : Int} {v13 : Int} {v14 : Int} {v15 : List (List Int)} {A B : Int} (h0 : decide ((v1.length : Int) > 0) = true) (hi : (decide (0 ≤ v5) && decide (v5 < (v1.length : Int))) = true) (hx : v1.getD v5.toNat ((0 : Int), ((0 : Int), (0 : Int))) = (9, A, B)) : dE n v1 v2 v3 true v5 v6 v7 v8 v9 v10 v11 v12 v13 v14 v15 = (((dU n v1 v2 v3 true v5 v6 v7 v8 v9 v10 v11 v12 v13 v14).bind fun y21 => ((dU n y21.2.1 y21.2.2.1 y21.2.2.2.1 y21.2.2.2.2.1 y21.2.2.2.2.2.1 y21.2.2.2.2.2.2.1 y21.2.2.2.2.2.2.2.1 y21.2.2.2.2.2.2.2.2.1 y21.2.2.2.2.2.2.2.2.2.1 y21.2.2.2.2.2.2.2.2.2.2.1 y21.2.2.2.2.2.2.2.2.2.2.2.1 y21.2.2.2.2.2.2.2.2.2.2.2.2.1 y21.2.2.2.2.2.2.2.2.2.2.2.2.2.1 y21.2.2.2.2.2.2.2.2.2.2.2.2.2.2).bind fun y22 => (if (decide ((y22.2.2.2.2.2.2.1.length + 1) * 8 ≤ 140737488355328) && decide (1 ≤ 8)) then (some ((0, 0), 0, y22.2.1, y22.2.2.1, y22.2.2.2.1, y22.2.2.2.2.1, (wrap .i64 (v5 + 1)), (y22.2.2.2.2.2.2.1 ++ [(bits .or .i64 y21.1 y22.1)]), y22.2.2.2.2.2.2.2.1, y22.2.2.2.2.2.2.2.2.1, y22.2.2.2.2.2.2.2.2.2.1, y22.2.2.2.2.2.2.2.2.2.2.1, y22.2.2.2.2.2.2.2.2.2.2.2.1, y22.2.2.2.2.2.2.2.2.2.2.2.2.1, y22.2.2.2.2.2.2.2.2.2.2.2.2.2.1, (wrap .i64 (y22.2.2.2.2.2.2.2.2.2.2.2.2.2.2 + 1)), v15)) else none)))) := by
 unfold dE eB
 rw [h0, if_neg (by decide), if_neg (by decide), if_pos hi, hx]
 kernel_rfl
theorem Pf (n : Nat) {v1 : List cZ} {v2 : List Int} {v3 : List Int} {v5 : Int} {v6 : List Int} {v7 : List Int} {v8 : List Int} {v9 : List Int} {v10 : Int} {v11 : List Int} {v12 : Int} {v13 : Int} {v14 : Int} {v15 : List (List Int)} {A B : Int} (h0 : decide ((v1.length : Int) > 0) = true) (hi : (decide (0 ≤ v5) && decide (v5 < (v1.length : Int))) = true) (hx : v1.getD v5.toNat ((0 : Int), ((0 : Int), (0 : Int))) = (10, A, B)) : dE n v1 v2 v3 true v5 v6 v7 v8 v9 v10 v11 v12 v13 v14 v15 = ((some ((0, 0), 0, v1, v2, v3, true, (wrap .i64 (v5 + 1)), v6, v7, v8, v9, v10, v11, v12, v13, (wrap .i64 (v14 + 1)), v15))) := by
 unfold dE eB
 rw [h0, if_neg (by decide), if_neg (by decide), if_pos hi, hx]
 kernel_rfl
theorem Pg (n : Nat) {v1 : List cZ} {v2 : List Int} {v3 : List Int} {v5 : Int} {v6 : List Int} {v7 : List Int} {v8 : List Int} {v9 : List Int} {v10 : Int} {v11 : List Int} {v12 : Int} {v13 : Int} {v14 : Int} {v15 : List (List Int)} {A B : Int} (h0 : decide ((v1.length : Int) > 0) = true) (hi : (decide (0 ≤ v5) && decide (v5 < (v1.length : Int))) = true) (hx : v1.getD v5.toNat ((0 : Int), ((0 : Int), (0 : Int))) = (11, A, B)) : dE n v1 v2 v3 true v5 v6 v7 v8 v9 v10 v11 v12 v13 v14 v15 = ((if (decide (0 ≤ A) && decide (A < 8)) then (if (decide ((v6.length + 1) * 8 ≤ 140737488355328) && decide (1 ≤ 8)) then (some ((0, 0), 0, v1, v2, v3, true, (wrap .i64 (v5 + 1)), (v6 ++ [(v7.getD (A).toNat (0 : Int))]), v7, v8, v9, v10, v11, v12, v13, (wrap .i64 (v14 + 1)), v15)) else none) else none)) := by
 unfold dE eB
 rw [h0, if_neg (by decide), if_neg (by decide), if_pos hi, hx]
 kernel_rfl
theorem Ph (n : Nat) {v1 : List cZ} {v2 : List Int} {v3 : List Int} {v5 : Int} {v6 : List Int} {v7 : List Int} {v8 : List Int} {v9 : List Int} {v10 : Int} {v11 : List Int} {v12 : Int} {v13 : Int} {v14 : Int} {v15 : List (List Int)} {A B : Int} (h0 : decide ((v1.length : Int) > 0) = true) (hi : (decide (0 ≤ v5) && decide (v5 < (v1.length : Int))) = true) (hx : v1.getD v5.toNat ((0 : Int), ((0 : Int), (0 : Int))) = (12, A, B)) : dE n v1 v2 v3 true v5 v6 v7 v8 v9 v10 v11 v12 v13 v14 v15 = (((dU n v1 v2 v3 true v5 v6 v7 v8 v9 v10 v11 v12 v13 v14).bind fun y20 => (if (decide (0 ≤ A) && decide (A < 8)) then (some ((0, 0), 0, y20.2.1, y20.2.2.1, y20.2.2.2.1, y20.2.2.2.2.1, (wrap .i64 (v5 + 1)), y20.2.2.2.2.2.2.1, (y20.2.2.2.2.2.2.2.1.set (A).toNat y20.1), y20.2.2.2.2.2.2.2.2.1, y20.2.2.2.2.2.2.2.2.2.1, y20.2.2.2.2.2.2.2.2.2.2.1, y20.2.2.2.2.2.2.2.2.2.2.2.1, y20.2.2.2.2.2.2.2.2.2.2.2.2.1, y20.2.2.2.2.2.2.2.2.2.2.2.2.2.1, (wrap .i64 (y20.2.2.2.2.2.2.2.2.2.2.2.2.2.2 + 1)), v15)) else none))) := by
 unfold dE eB
 rw [h0, if_neg (by decide), if_neg (by decide), if_pos hi, hx]
 kernel_rfl
theorem Pi (n : Nat) {v1 : List cZ} {v2 : List Int} {v3 : List Int} {v5 : Int} {v6 : List Int} {v7 : List Int} {v8 : List Int} {v9 : List Int} {v10 : Int} {v11 : List Int} {v12 : Int} {v13 : Int} {v14 : Int} {v15 : List (List Int)} {A B : Int} (h0 : decide ((v1.length : Int) > 0) = true) (hi : (decide (0 ≤ v5) && decide (v5 < (v1.length : Int))) = true) (hx : v1.getD v5.toNat ((0 : Int), ((0 : Int), (0 : Int))) = (13, A, B)) : dE n v1 v2 v3 true v5 v6 v7 v8 v9 v10 v11 v12 v13 v14 v15 = ((if (decide (0 ≤ A) && decide (A < 8)) then (if (decide ((v6.length + 1) * 8 ≤ 140737488355328) && decide (1 ≤ 8)) then (some ((0, 0), 0, v1, v2, v3, true, (wrap .i64 (v5 + 1)), (v6 ++ [(v3.getD (A).toNat (0 : Int))]), v7, v8, v9, v10, v11, v12, v13, (wrap .i64 (v14 + 1)), v15)) else none) else none)) := by
 unfold dE eB
 rw [h0, if_neg (by decide), if_neg (by decide), if_pos hi, hx]
 kernel_rfl
theorem Pj (n : Nat) {v1 : List cZ} {v2 : List Int} {v3 : List Int} {v5 : Int} {v6 : List Int} {v7 : List Int} {v8 : List Int} {v9 : List Int} {v10 : Int} {v11 : List Int} {v12 : Int} {v13 : Int} {v14 : Int} {v15 : List (List Int)} {A B : Int} (h0 : decide ((v1.length : Int) > 0) = true) (hi : (decide (0 ≤ v5) && decide (v5 < (v1.length : Int))) = true) (hx : v1.getD v5.toNat ((0 : Int), ((0 : Int), (0 : Int))) = (14, A, B)) : dE n v1 v2 v3 true v5 v6 v7 v8 v9 v10 v11 v12 v13 v14 v15 = (((dU n v1 v2 v3 true v5 v6 v7 v8 v9 v10 v11 v12 v13 v14).bind fun y19 => (if (decide (0 ≤ A) && decide (A < 8)) then (some ((0, 0), 0, y19.2.1, y19.2.2.1, (y19.2.2.2.1.set (A).toNat y19.1), y19.2.2.2.2.1, (wrap .i64 (v5 + 1)), y19.2.2.2.2.2.2.1, y19.2.2.2.2.2.2.2.1, y19.2.2.2.2.2.2.2.2.1, y19.2.2.2.2.2.2.2.2.2.1, y19.2.2.2.2.2.2.2.2.2.2.1, y19.2.2.2.2.2.2.2.2.2.2.2.1, y19.2.2.2.2.2.2.2.2.2.2.2.2.1, y19.2.2.2.2.2.2.2.2.2.2.2.2.2.1, (wrap .i64 (y19.2.2.2.2.2.2.2.2.2.2.2.2.2.2 + 1)), v15)) else none))) := by
 unfold dE eB
 rw [h0, if_neg (by decide), if_neg (by decide), if_pos hi, hx]
 kernel_rfl
theorem Pk (n : Nat) {v1 : List cZ} {v2 : List Int} {v3 : List Int} {v5 : Int} {v6 : List Int} {v7 : List Int} {v8 : List Int} {v9 : List Int} {v10 : Int} {v11 : List Int} {v12 : Int} {v13 : Int} {v14 : Int} {v15 : List (List Int)} {A B : Int} (h0 : decide ((v1.length : Int) > 0) = true) (hi : (decide (0 ≤ v5) && decide (v5 < (v1.length : Int))) = true) (hx : v1.getD v5.toNat ((0 : Int), ((0 : Int), (0 : Int))) = (15, A, B)) : dE n v1 v2 v3 true v5 v6 v7 v8 v9 v10 v11 v12 v13 v14 v15 = ((if (decide (0 ≤ A) && decide (A < 16)) then (if (decide ((v6.length + 1) * 8 ≤ 140737488355328) && decide (1 ≤ 8)) then (some ((0, 0), 0, v1, v2, v3, true, (wrap .i64 (v5 + 1)), (v6 ++ [(v8.getD (A).toNat (0 : Int))]), v7, v8, v9, v10, v11, v12, v13, (wrap .i64 (v14 + 1)), v15)) else none) else none)) := by
 unfold dE eB
 rw [h0, if_neg (by decide), if_neg (by decide), if_pos hi, hx]
 kernel_rfl
theorem Pm (n : Nat) {v1 : List cZ} {v2 : List Int} {v3 : List Int} {v5 : Int} {v6 : List Int} {v7 : List Int} {v8 : List Int} {v9 : List Int} {v10 : Int} {v11 : List Int} {v12 : Int} {v13 : Int} {v14 : Int} {v15 : List (List Int)} {A B : Int} (h0 : decide ((v1.length : Int) > 0) = true) (hi : (decide (0 ≤ v5) && decide (v5 < (v1.length : Int))) = true) (hx : v1.getD v5.toNat ((0 : Int), ((0 : Int), (0 : Int))) = (16, A, B)) : dE n v1 v2 v3 true v5 v6 v7 v8 v9 v10 v11 v12 v13 v14 v15 = (((dU n v1 v2 v3 true v5 v6 v7 v8 v9 v10 v11 v12 v13 v14).bind fun y18 => (if (decide (0 ≤ A) && decide (A < 16)) then (if decide (A < 0) then none else (some ((0, 0), 0, y18.2.1, y18.2.2.1, y18.2.2.2.1, y18.2.2.2.2.1, (wrap .i64 (v5 + 1)), y18.2.2.2.2.2.2.1, y18.2.2.2.2.2.2.2.1, y18.2.2.2.2.2.2.2.2.1, (y18.2.2.2.2.2.2.2.2.2.1.set (A).toNat y18.1), (bits .or .i64 y18.2.2.2.2.2.2.2.2.2.2.1 (wrap .i64 (1 * 2 ^ (min (A).toNat 64)))), y18.2.2.2.2.2.2.2.2.2.2.2.1, y18.2.2.2.2.2.2.2.2.2.2.2.2.1, y18.2.2.2.2.2.2.2.2.2.2.2.2.2.1, (wrap .i64 (y18.2.2.2.2.2.2.2.2.2.2.2.2.2.2 + 1)), v15))) else none))) := by
 unfold dE eB
 rw [h0, if_neg (by decide), if_neg (by decide), if_pos hi, hx]
 kernel_rfl
theorem Pn (n : Nat) {v1 : List cZ} {v2 : List Int} {v3 : List Int} {v5 : Int} {v6 : List Int} {v7 : List Int} {v8 : List Int} {v9 : List Int} {v10 : Int} {v11 : List Int} {v12 : Int} {v13 : Int} {v14 : Int} {v15 : List (List Int)} {A B : Int} (h0 : decide ((v1.length : Int) > 0) = true) (hi : (decide (0 ≤ v5) && decide (v5 < (v1.length : Int))) = true) (hx : v1.getD v5.toNat ((0 : Int), ((0 : Int), (0 : Int))) = (17, A, B)) : dE n v1 v2 v3 true v5 v6 v7 v8 v9 v10 v11 v12 v13 v14 v15 = ((if (decide (0 ≤ A) && decide (A < 8)) then (if (decide (0 ≤ B) && decide (B < 8)) then (if (decide ((v6.length + 1) * 8 ≤ 140737488355328) && decide (1 ≤ 8)) then (some ((0, 0), 0, v1, v2, v3, true, (wrap .i64 (v5 + 1)), (v6 ++ [((v15.getD (A).toNat [(0 : Int), (0 : Int), (0 : Int), (0 : Int), (0 : Int), (0 : Int), (0 : Int), (0 : Int)]).getD (B).toNat (0 : Int))]), v7, v8, v9, v10, v11, v12, v13, (wrap .i64 (v14 + 1)), v15)) else none) else none) else none)) := by
 unfold dE eB
 rw [h0, if_neg (by decide), if_neg (by decide), if_pos hi, hx]
 kernel_rfl
theorem Po (n : Nat) {v1 : List cZ} {v2 : List Int} {v3 : List Int} {v5 : Int} {v6 : List Int} {v7 : List Int} {v8 : List Int} {v9 : List Int} {v10 : Int} {v11 : List Int} {v12 : Int} {v13 : Int} {v14 : Int} {v15 : List (List Int)} {A B : Int} (h0 : decide ((v1.length : Int) > 0) = true) (hi : (decide (0 ≤ v5) && decide (v5 < (v1.length : Int))) = true) (hx : v1.getD v5.toNat ((0 : Int), ((0 : Int), (0 : Int))) = (18, A, B)) : dE n v1 v2 v3 true v5 v6 v7 v8 v9 v10 v11 v12 v13 v14 v15 = (((dU n v1 v2 v3 true v5 v6 v7 v8 v9 v10 v11 v12 v13 v14).bind fun y17 => (if (decide (0 ≤ A) && decide (A < 8)) then (if (decide (0 ≤ B) && decide (B < 8)) then (some ((0, 0), 0, y17.2.1, y17.2.2.1, y17.2.2.2.1, y17.2.2.2.2.1, (wrap .i64 (v5 + 1)), y17.2.2.2.2.2.2.1, y17.2.2.2.2.2.2.2.1, y17.2.2.2.2.2.2.2.2.1, y17.2.2.2.2.2.2.2.2.2.1, y17.2.2.2.2.2.2.2.2.2.2.1, y17.2.2.2.2.2.2.2.2.2.2.2.1, y17.2.2.2.2.2.2.2.2.2.2.2.2.1, y17.2.2.2.2.2.2.2.2.2.2.2.2.2.1, (wrap .i64 (y17.2.2.2.2.2.2.2.2.2.2.2.2.2.2 + 1)), (v15.set (A).toNat ((v15.getD (A).toNat [(0 : Int), (0 : Int), (0 : Int), (0 : Int), (0 : Int), (0 : Int), (0 : Int), (0 : Int)]).set (B).toNat y17.1)))) else none) else none))) := by
 unfold dE eB
 rw [h0, if_neg (by decide), if_neg (by decide), if_pos hi, hx]
 kernel_rfl
theorem Pp (n : Nat) {v1 : List cZ} {v2 : List Int} {v3 : List Int} {v5 : Int} {v6 : List Int} {v7 : List Int} {v8 : List Int} {v9 : List Int} {v10 : Int} {v11 : List Int} {v12 : Int} {v13 : Int} {v14 : Int} {v15 : List (List Int)} {A B : Int} (h0 : decide ((v1.length : Int) > 0) = true) (hi : (decide (0 ≤ v5) && decide (v5 < (v1.length : Int))) = true) (hx : v1.getD v5.toNat ((0 : Int), ((0 : Int), (0 : Int))) = (19, A, B)) : dE n v1 v2 v3 true v5 v6 v7 v8 v9 v10 v11 v12 v13 v14 v15 = ((some ((0, 0), 0, v1, v2, v3, true, (wrap .i64 ((wrap .i64 (v5 + 1)) + A)), v6, v7, v8, v9, v10, v11, v12, v13, (wrap .i64 (v14 + 1)), v15))) := by
 unfold dE eB
 rw [h0, if_neg (by decide), if_neg (by decide), if_pos hi, hx]
 kernel_rfl
theorem Pq (n : Nat) {v1 : List cZ} {v2 : List Int} {v3 : List Int} {v5 : Int} {v6 : List Int} {v7 : List Int} {v8 : List Int} {v9 : List Int} {v10 : Int} {v11 : List Int} {v12 : Int} {v13 : Int} {v14 : Int} {v15 : List (List Int)} {A B : Int} (h0 : decide ((v1.length : Int) > 0) = true) (hi : (decide (0 ≤ v5) && decide (v5 < (v1.length : Int))) = true) (hx : v1.getD v5.toNat ((0 : Int), ((0 : Int), (0 : Int))) = (20, A, B)) : dE n v1 v2 v3 true v5 v6 v7 v8 v9 v10 v11 v12 v13 v14 v15 = (((dU n v1 v2 v3 true v5 v6 v7 v8 v9 v10 v11 v12 v13 v14).bind fun y16 => (if (y16.1 == 0) then (some ((0, 0), 0, y16.2.1, y16.2.2.1, y16.2.2.2.1, y16.2.2.2.2.1, (wrap .i64 ((wrap .i64 (v5 + 1)) + A)), y16.2.2.2.2.2.2.1, y16.2.2.2.2.2.2.2.1, y16.2.2.2.2.2.2.2.2.1, y16.2.2.2.2.2.2.2.2.2.1, y16.2.2.2.2.2.2.2.2.2.2.1, y16.2.2.2.2.2.2.2.2.2.2.2.1, y16.2.2.2.2.2.2.2.2.2.2.2.2.1, y16.2.2.2.2.2.2.2.2.2.2.2.2.2.1, (wrap .i64 (y16.2.2.2.2.2.2.2.2.2.2.2.2.2.2 + 1)), v15)) else (some ((0, 0), 0, y16.2.1, y16.2.2.1, y16.2.2.2.1, y16.2.2.2.2.1, (wrap .i64 (v5 + 1)), y16.2.2.2.2.2.2.1, y16.2.2.2.2.2.2.2.1, y16.2.2.2.2.2.2.2.2.1, y16.2.2.2.2.2.2.2.2.2.1, y16.2.2.2.2.2.2.2.2.2.2.1, y16.2.2.2.2.2.2.2.2.2.2.2.1, y16.2.2.2.2.2.2.2.2.2.2.2.2.1, y16.2.2.2.2.2.2.2.2.2.2.2.2.2.1, (wrap .i64 (y16.2.2.2.2.2.2.2.2.2.2.2.2.2.2 + 1)), v15))))) := by
 unfold dE eB
 rw [h0, if_neg (by decide), if_neg (by decide), if_pos hi, hx]
 kernel_rfl
theorem Pr (n : Nat) {v1 : List cZ} {v2 : List Int} {v3 : List Int} {v5 : Int} {v6 : List Int} {v7 : List Int} {v8 : List Int} {v9 : List Int} {v10 : Int} {v11 : List Int} {v12 : Int} {v13 : Int} {v14 : Int} {v15 : List (List Int)} {A B : Int} (h0 : decide ((v1.length : Int) > 0) = true) (hi : (decide (0 ≤ v5) && decide (v5 < (v1.length : Int))) = true) (hx : v1.getD v5.toNat ((0 : Int), ((0 : Int), (0 : Int))) = (21, A, B)) : dE n v1 v2 v3 true v5 v6 v7 v8 v9 v10 v11 v12 v13 v14 v15 = ((if (decide ((v11.length + 1) * 8 ≤ 140737488355328) && decide (1 ≤ 8)) then (some ((0, 0), 0, v1, v2, v3, true, (wrap .i64 (v5 + 1)), v6, v7, v8, v9, v10, (v11 ++ [A]), v12, v13, (wrap .i64 (v14 + 1)), v15)) else none)) := by
 unfold dE eB
 rw [h0, if_neg (by decide), if_neg (by decide), if_pos hi, hx]
 kernel_rfl
theorem Ps (n : Nat) {v1 : List cZ} {v2 : List Int} {v3 : List Int} {v5 : Int} {v6 : List Int} {v7 : List Int} {v8 : List Int} {v9 : List Int} {v10 : Int} {v11 : List Int} {v12 : Int} {v13 : Int} {v14 : Int} {v15 : List (List Int)} {A B : Int} (h0 : decide ((v1.length : Int) > 0) = true) (hi : (decide (0 ≤ v5) && decide (v5 < (v1.length : Int))) = true) (hx : v1.getD v5.toNat ((0 : Int), ((0 : Int), (0 : Int))) = (22, A, B)) : dE n v1 v2 v3 true v5 v6 v7 v8 v9 v10 v11 v12 v13 v14 v15 = ((if (decide (0 ≤ (wrap .i64 ((v11.length : Int) - 1))) && decide ((wrap .i64 ((v11.length : Int) - 1)) < (v11.length : Int))) then (if (decide (0 ≤ (wrap .i64 ((v11.length : Int) - 1))) && decide ((wrap .i64 ((v11.length : Int) - 1)) < (v11.length : Int))) then (if (decide (0 ≤ (wrap .i64 ((v11.length : Int) - 1))) && decide ((wrap .i64 ((v11.length : Int) - 1)) < (((v11.set ((wrap .i64 ((v11.length : Int) - 1))).toNat (wrap .i64 ((v11.getD ((wrap .i64 ((v11.length : Int) - 1))).toNat (0 : Int)) - 1))).length : Nat) : Int))) then (if (decide (((v11.set ((wrap .i64 ((v11.length : Int) - 1))).toNat (wrap .i64 ((v11.getD ((wrap .i64 ((v11.length : Int) - 1))).toNat (0 : Int)) - 1))).getD ((wrap .i64 ((v11.length : Int) - 1))).toNat (0 : Int)) > 0)) then (if (decide (0 ≤ v5) && decide (v5 < (v2.length : Int))) then (some ((0, 0), 0, v1, v2, v3, true, (wrap .i64 ((v2.getD v5.toNat (0 : Int)) + 1)), v6, v7, v8, v9, v10, (v11.set ((wrap .i64 ((v11.length : Int) - 1))).toNat (wrap .i64 ((v11.getD ((wrap .i64 ((v11.length : Int) - 1))).toNat (0 : Int)) - 1))), v12, v13, (wrap .i64 (v14 + 1)), v15)) else none) else (if (decide (0 ≤ (wrap .i64 ((v11.length : Int) - 1))) && decide ((wrap .i64 ((v11.length : Int) - 1)) ≤ (((v11.set ((wrap .i64 ((v11.length : Int) - 1))).toNat (wrap .i64 ((v11.getD ((wrap .i64 ((v11.length : Int) - 1))).toNat (0 : Int)) - 1))).length : Nat) : Int))) then (some ((0, 0), 0, v1, v2, v3, true, (wrap .i64 (v5 + 1)), v6, v7, v8, v9, v10, ((v11.set ((wrap .i64 ((v11.length : Int) - 1))).toNat (wrap .i64 ((v11.getD ((wrap .i64 ((v11.length : Int) - 1))).toNat (0 : Int)) - 1))).take (((wrap .i64 ((v11.length : Int) - 1))).toNat - 0)), v12, v13, (wrap .i64 (v14 + 1)), v15)) else none)) else none) else none) else none)) := by
 unfold dE eB
 rw [h0, if_neg (by decide), if_neg (by decide), if_pos hi, hx]
 kernel_rfl
theorem Pt (n : Nat) {v1 : List cZ} {v2 : List Int} {v3 : List Int} {v5 : Int} {v6 : List Int} {v7 : List Int} {v8 : List Int} {v9 : List Int} {v10 : Int} {v11 : List Int} {v12 : Int} {v13 : Int} {v14 : Int} {v15 : List (List Int)} {A B : Int} (h0 : decide ((v1.length : Int) > 0) = true) (hi : (decide (0 ≤ v5) && decide (v5 < (v1.length : Int))) = true) (hx : v1.getD v5.toNat ((0 : Int), ((0 : Int), (0 : Int))) = (23, A, B)) : dE n v1 v2 v3 true v5 v6 v7 v8 v9 v10 v11 v12 v13 v14 v15 = ((if decide (A < 0) then none else (some ((1, A), 0, v1, v2, v3, true, (wrap .i64 (v5 + 1)), v6, v7, v8, v9, v10, v11, (bits .or .i64 v12 (wrap .i64 (1 * 2 ^ (min (A).toNat 64)))), v13, (wrap .i64 (v14 + 1)), v15)))) := by
 unfold dE eB
 rw [h0, if_neg (by decide), if_neg (by decide), if_pos hi, hx]
 kernel_rfl
theorem Pu (n : Nat) {v1 : List cZ} {v2 : List Int} {v3 : List Int} {v5 : Int} {v6 : List Int} {v7 : List Int} {v8 : List Int} {v9 : List Int} {v10 : Int} {v11 : List Int} {v12 : Int} {v13 : Int} {v14 : Int} {v15 : List (List Int)} {A B : Int} (h0 : decide ((v1.length : Int) > 0) = true) (hi : (decide (0 ≤ v5) && decide (v5 < (v1.length : Int))) = true) (hx : v1.getD v5.toNat ((0 : Int), ((0 : Int), (0 : Int))) = (24, A, B)) : dE n v1 v2 v3 true v5 v6 v7 v8 v9 v10 v11 v12 v13 v14 v15 = ((if decide (A < 0) then none else (some ((2, A), 0, v1, v2, v3, true, (wrap .i64 (v5 + 1)), v6, v7, v8, v9, v10, v11, (bits .andNot .i64 v12 (wrap .i64 (1 * 2 ^ (min (A).toNat 64)))), v13, (wrap .i64 (v14 + 1)), v15)))) := by
 unfold dE eB
 rw [h0, if_neg (by decide), if_neg (by decide), if_pos hi, hx]
 kernel_rfl
theorem Pv (n : Nat) {v1 : List cZ} {v2 : List Int} {v3 : List Int} {v5 : Int} {v6 : List Int} {v7 : List Int} {v8 : List Int} {v9 : List Int} {v10 : Int} {v11 : List Int} {v12 : Int} {v13 : Int} {v14 : Int} {v15 : List (List Int)} {A B : Int} (h0 : decide ((v1.length : Int) > 0) = true) (hi : (decide (0 ≤ v5) && decide (v5 < (v1.length : Int))) = true) (hx : v1.getD v5.toNat ((0 : Int), ((0 : Int), (0 : Int))) = (25, A, B)) : dE n v1 v2 v3 true v5 v6 v7 v8 v9 v10 v11 v12 v13 v14 v15 = ((some ((3, 0), 0, v1, v2, v3, false, (wrap .i64 (v5 + 1)), v6, v7, v8, v9, v10, v11, v12, v13, (wrap .i64 (v14 + 1)), v15))) := by
 unfold dE eB
 rw [h0, if_neg (by decide), if_neg (by decide), if_pos hi, hx]
 kernel_rfl
def pv (v : List Int) : Int := v.getD (v.length - 1) 0
def pr (v : List Int) : List Int := v.take (v.length - 1)
theorem fH (r : List Int) (x : Int) : pv (r ++ [x]) = x := by
 unfold pv
 rw [aF, au, aX (by simp)]
 simp
theorem gH (r : List Int) (x : Int) : pr (r ++ [x]) = r := by
 unfold pr
 rw [aF, List.length_singleton, cA, List.take_left']
 rfl
theorem vD (r : List Int) (x y : Int) : pv (r ++ [x, y]) = y := by
 rw [show r ++ [x, y] = (r ++ [x]) ++ [y] by simp, fH]
theorem vE (r : List Int) (x y : Int) : pr (r ++ [x, y]) = r ++ [x] := by
 rw [show r ++ [x, y] = (r ++ [x]) ++ [y] by simp, gH]
theorem IG {v : List Int} (h : 0 < v.length) (h2 : v.length < 1000) : wrap .i64 ((v.length : Int) - 1) = ((v.length - 1 : Nat) : Int) := by
 rw [dR (by omega) (by omega)]
 omega
theorem f0 (n : Nat) (v1 : List cZ) (v2 v3 : List Int) (v4 : Bool) (v5 : Int) {v6 : List Int} (v7 v8 v9 : List Int) (v10 : Int) (v11 : List Int) (v12 v13 v14 : Int) (h : 0 < v6.length) (h2 : v6.length < 1000) :
  dU n v1 v2 v3 v4 v5 v6 v7 v8 v9 v10 v11 v12 v13 v14 = some (pv v6, v1, v2, v3, v4, v5, pr v6, v7, v8, v9, v10, v11, v12, v13, v14) := by
 unfold dU pv pr
 rw [IG h h2, if_pos (dc (by omega)), if_pos (by simp), ai, bp]
def rR (A a b : Int) : Int × Bool := (ed 0 A a b).getD (0, false)
theorem OD (b : Int) : ¬ bits .and .i64 b 63 < 0 := by
 show ¬ IntKind.i64.wrap ((BitVec.ofInt 64 b &&& BitVec.ofInt 64 ((63 : Nat) : Int)).toNat : Int) < 0
 rw [BitVec.toNat_and, ofInt_u64 63 (by omega)]
 have : (BitVec.ofInt 64 b).toNat &&& 63 ≤ 63 := Nat.and_le_right
 rw [dR (by omega) (by omega)]
 omega
theorem IH (n : Nat) {A : Int} (hA : 1 ≤ A ∧ A ≤ 12) (a b : Int) : ed n A a b = some (rR A a b) ∧ (11 ≤ A → (rR A a b).1 = 0 ∨ (rR A a b).1 = 1) := by
 have hc : A = 1 ∨ A = 2 ∨ A = 3 ∨ A = 4 ∨ A = 5 ∨ A = 6 ∨ A = 7 ∨ A = 8 ∨ A = 9 ∨ A = 10 ∨ A = 11 ∨ A = 12 := by omega
 have key : ∀ x, ed n A a b = some x → ed 0 A a b = some x → ed n A a b = some (rR A a b) ∧ rR A a b = x := fun x h1 h2 => by
  unfold rR
  rw [h1, h2]
  exact ⟨rfl, rfl⟩
 have hm := OD b
 rcases hc with rfl | rfl | rfl | rfl | rfl | rfl | rfl | rfl | rfl | rfl | rfl | rfl
 ·exact ⟨(key (wrap .i64 (a + b), false) rfl rfl).1, fun h => by omega⟩
 ·exact ⟨(key (wrap .i64 (a - b), false) rfl rfl).1, fun h => by omega⟩
 ·exact ⟨(key (wrap .i64 (a * b), false) rfl rfl).1, fun h => by omega⟩
 ·have hz : ∀ n, ed n 4 a b = some (if b = 0 then (0, true) else (wrap .i64 (a.tdiv b), false)) := fun n => by
   have : ed n 4 a b = (if (b == 0) then (some (0, true)) else (if (b == 0) then none else (some ((wrap .i64 (a.tdiv b)), false)))) := by kernel_rfl
   rw [this]
   by_cases hb : b = 0
   ·rw [if_pos (by simpa using hb), if_pos hb]
   ·rw [if_neg (by simpa using hb), if_neg (by simpa using hb), if_neg hb]
  exact ⟨(key _ (hz n) (hz 0)).1, fun h => by omega⟩
 ·have hz : ∀ n, ed n 5 a b = some (if b = 0 then (0, true) else (a.tmod b, false)) := fun n => by
   have : ed n 5 a b = (if (b == 0) then (some (0, true)) else (if (b == 0) then none else (some ((a.tmod b), false)))) := by kernel_rfl
   rw [this]
   by_cases hb : b = 0
   ·rw [if_pos (by simpa using hb), if_pos hb]
   ·rw [if_neg (by simpa using hb), if_neg (by simpa using hb), if_neg hb]
  exact ⟨(key _ (hz n) (hz 0)).1, fun h => by omega⟩
 ·exact ⟨(key (bits .and .i64 a b, false) rfl rfl).1, fun h => by omega⟩
 ·exact ⟨(key (bits .or .i64 a b, false) rfl rfl).1, fun h => by omega⟩
 ·exact ⟨(key (bits .xor .i64 a b, false) rfl rfl).1, fun h => by omega⟩
 ·have hz : ∀ n, ed n 9 a b = some (wrap .i64 (a * 2 ^ (min ((bits .and .i64 b 63)).toNat 64)), false) := fun n => by
   have : ed n 9 a b = ((if decide ((bits .and .i64 b 63) < 0) then none else (some (wrap .i64 (a * 2 ^ (min ((bits .and .i64 b 63)).toNat 64)))) : Option Int).bind fun y => some (y, false)) := by kernel_rfl
   rw [this, if_neg (by simpa using hm)]
   rfl
  exact ⟨(key _ (hz n) (hz 0)).1, fun h => by omega⟩
 ·have hz : ∀ n, ed n 10 a b = some ((a.fdiv (2 ^ (min ((bits .and .i64 b 63)).toNat 64))), false) := fun n => by
   have : ed n 10 a b = ((if decide ((bits .and .i64 b 63) < 0) then none else (some (a.fdiv (2 ^ (min ((bits .and .i64 b 63)).toNat 64)))) : Option Int).bind fun y => some (y, false)) := by kernel_rfl
   rw [this, if_neg (by simpa using hm)]
   rfl
  exact ⟨(key _ (hz n) (hz 0)).1, fun h => by omega⟩
 ·have hz : ∀ n, ed n 11 a b = some ((if decide (a < b) = true then 1 else 0), false) := fun n => by
   have : ed n 11 a b = (((if decide (a < b) then (some 1) else (some 0) : Option Int).bind fun y => some y).bind fun y => some (y, false)) := by kernel_rfl
   rw [this]
   split <;> rfl
  obtain ⟨k1, k2⟩ := key _ (hz n) (hz 0)
  refine ⟨k1, fun _ => ?_⟩
  rw [k2]
  simp only
  split
  ·exact .inr rfl
  ·exact .inl rfl
 ·have hz : ∀ n, ed n 12 a b = some ((if (a == b) = true then 1 else 0), false) := fun n => by
   have : ed n 12 a b = (((if (a == b) then (some 1) else (some 0) : Option Int).bind fun y => some y).bind fun y => some (y, false)) := by kernel_rfl
   rw [this]
   split <;> rfl
  obtain ⟨k1, k2⟩ := key _ (hz n) (hz 0)
  refine ⟨k1, fun _ => ?_⟩
  rw [k2]
  simp only
  split
  ·exact .inr rfl
  ·exact .inl rfl
structure MS where
 ret : List Int
 at_ : Int
 stk : List Int
 loc : List Int
 inp : List Int
 out : List Int
 set : Int
 rds : List Int
 held : Int
 flt : Int
 stp : Int
abbrev dN := List (List Int)
abbrev z8 : List Int := [(0 : Int), (0 : Int), (0 : Int), (0 : Int), (0 : Int), (0 : Int), (0 : Int), (0 : Int)]
abbrev l8 (A : Int) : Int := wrap .i64 (1 * 2 ^ (min A.toNat 64))
def fI (x : cZ) (s : MS) (mem : dN) : List Int :=
 if x.1 = 1 then s.stk ++ [x.2.1]
 else if x.1 = 2 ∨ x.1 = 12 ∨ x.1 = 14 ∨ x.1 = 16 ∨ x.1 = 18 ∨ x.1 = 20 then pr s.stk
 else if x.1 = 3 then s.stk ++ [pv s.stk]
 else if x.1 = 4 then (pr (pr s.stk) ++ [pv s.stk]) ++ [pv (pr s.stk)]
 else if x.1 = 5 then pr (pr s.stk) ++ [(rR x.2.1 (pv (pr s.stk)) (pv s.stk)).1]
 else if x.1 = 6 then pr s.stk ++ [wrap .i64 (0 - pv s.stk)]
 else if x.1 = 7 then pr s.stk ++ [if pv s.stk = 0 then 1 else 0]
 else if x.1 = 8 then pr (pr s.stk) ++ [bits .and .i64 (pv s.stk) (pv (pr s.stk))]
 else if x.1 = 9 then pr (pr s.stk) ++ [bits .or .i64 (pv s.stk) (pv (pr s.stk))]
 else if x.1 = 11 then s.stk ++ [s.loc.getD x.2.1.toNat 0]
 else if x.1 = 13 then s.stk ++ [s.ret.getD x.2.1.toNat 0]
 else if x.1 = 15 then s.stk ++ [s.inp.getD x.2.1.toNat 0]
 else if x.1 = 17 then s.stk ++ [(mem.getD x.2.1.toNat z8).getD x.2.2.toNat 0]
 else s.stk
def ee (x : cZ) (mt : Int) (s : MS) : Int :=
 if x.1 = 19 then s.at_ + 1 + x.2.1
 else if x.1 = 20 then (if pv s.stk = 0 then s.at_ + 1 + x.2.1 else s.at_ + 1)
 else if x.1 = 22 then (if pv s.rds - 1 > 0 then mt + 1 else s.at_ + 1)
 else s.at_ + 1
def f8 (x : cZ) (s : MS) : List Int :=
 if x.1 = 21 then s.rds ++ [x.2.1]
 else if x.1 = 22 then (if pv s.rds - 1 > 0 then pr s.rds ++ [pv s.rds - 1] else pr s.rds)
 else s.rds
def eC (x : cZ) (mt : Int) (s : MS) (mem : dN) : MS where
 ret := if x.1 = 14 then s.ret.set x.2.1.toNat (pv s.stk) else s.ret
 at_ := ee x mt s
 stk := fI x s mem
 loc := if x.1 = 12 then s.loc.set x.2.1.toNat (pv s.stk) else s.loc
 inp := s.inp
 out := if x.1 = 16 then s.out.set x.2.1.toNat (pv s.stk) else s.out
 set := if x.1 = 16 then bits .or .i64 s.set (l8 x.2.1) else s.set
 rds := f8 x s
 held := if x.1 = 23 then bits .or .i64 s.held (l8 x.2.1) else if x.1 = 24 then bits .andNot .i64 s.held (l8 x.2.1) else s.held
 flt := if x.1 = 5 then wrap .i64 (s.flt + (if (rR x.2.1 (pv (pr s.stk)) (pv s.stk)).2 = true then 1 else 0)) else s.flt
 stp := wrap .i64 (s.stp + 1)
def l9 (x : cZ) (s : MS) (mem : dN) : dN := if x.1 = 18 then mem.set x.2.1.toNat ((mem.getD x.2.1.toNat z8).set x.2.2.toNat (pv s.stk)) else mem
def Rt (x : cZ) : Int × Int := if x.1 = 25 then (3, 0) else if x.1 = 24 then (2, x.2.1) else if x.1 = 23 then (1, x.2.1) else (0, 0)
abbrev KY (l : List cZ) (m : List Int) (on : Bool) (s : MS) (mem : dN) := (l, m, s.ret, on, s.at_, s.stk, s.loc, s.inp, s.out, s.set, s.rds, s.held, s.flt, s.stp, mem)
abbrev yM (n : Nat) (l : List cZ) (m : List Int) (on : Bool) (s : MS) (mem : dN) := dE n l m s.ret on s.at_ s.stk s.loc s.inp s.out s.set s.rds s.held s.flt s.stp mem
theorem m9 {o A B : Int} (ho : o = 11 ∨ o = 12 ∨ o = 13 ∨ o = 14 ∨ o = 23 ∨ o = 24) (h : dg (o, A, B) = true) : 0 ≤ A ∧ A ≤ 7 := by
 have key : db 0 (o, A, B) = (if decide (A ≥ 0) then (if decide (A ≤ 7) then some (B == 0) else some false) else some false) := by
  rcases ho with rfl | rfl | rfl | rfl | rfl | rfl
  ·exact Lm 0 A B
  ·exact Ln 0 A B
  ·exact Lo 0 A B
  ·exact Lp 0 A B
  ·exact Ge 0 A B
  ·exact Lv 0 A B
 have h1 := (eU 0 (o, A, B)).symm.trans key
 rw [h] at h1
 by_cases h2 : A ≥ 0
 ·rw [if_pos (af h2)] at h1
  by_cases h3 : A ≤ 7
  ·exact ⟨h2, h3⟩
  ·rw [if_neg (by simpa using h3)] at h1; cases h1
 ·rw [if_neg (by simpa using h2)] at h1; cases h1
theorem vF {o A B : Int} (ho : o = 15 ∨ o = 16) (h : dg (o, A, B) = true) : 0 ≤ A ∧ A ≤ 15 := by
 have key : db 0 (o, A, B) = (if decide (A ≥ 0) then (if decide (A ≤ 15) then some (B == 0) else some false) else some false) := by
  rcases ho with rfl | rfl
  ·exact Lq 0 A B
  ·exact Lr 0 A B
 have h1 := (eU 0 (o, A, B)).symm.trans key
 rw [h] at h1
 by_cases h2 : A ≥ 0
 ·rw [if_pos (af h2)] at h1
  by_cases h3 : A ≤ 15
  ·exact ⟨h2, h3⟩
  ·rw [if_neg (by simpa using h3)] at h1; cases h1
 ·rw [if_neg (by simpa using h2)] at h1; cases h1
theorem Fg {o A B : Int} (ho : o = 17 ∨ o = 18) (h : dg (o, A, B) = true) : (0 ≤ A ∧ A ≤ 7) ∧ (0 ≤ B ∧ B ≤ 7) := by
 have key : db 0 (o, A, B) = (if decide (A ≥ 0) then (if decide (A ≤ 7) then (if decide (B ≥ 0) then some (decide (B ≤ 7)) else some false) else some false) else some false) := by
  rcases ho with rfl | rfl
  ·exact Gc 0 A B
  ·exact Gd 0 A B
 have h1 := (eU 0 (o, A, B)).symm.trans key
 rw [h] at h1
 by_cases h2 : A ≥ 0
 ·rw [if_pos (af h2)] at h1
  by_cases h3 : A ≤ 7
  ·rw [if_pos (af h3)] at h1
   by_cases h4 : B ≥ 0
   ·rw [if_pos (af h4)] at h1
    exact ⟨⟨h2, h3⟩, h4, aT (ao h1).symm⟩
   ·rw [if_neg (by simpa using h4)] at h1; cases h1
  ·rw [if_neg (by simpa using h3)] at h1; cases h1
 ·rw [if_neg (by simpa using h2)] at h1; cases h1
structure Row (l : List cZ) (m h : List Int) (st : List ByteArray) : Prop where
 fine : Fine l m h
 stk : Stk l m st
 rise : KS l m
theorem OE {l : List cZ} (h1 : d7 l = 0) (h2 : eM l = 0) : Row l (scanI l).1 (scanI l).2.1 (l6 l) :=
 ⟨jC (uL h1), (Gj h2).2, Gn h1⟩
structure Ok (l : List cZ) (m : List Int) (st : List ByteArray) (s : MS) (i : Nat) (rs : List (Nat × Int)) : Prop where
 place : s.at_ = (i : Int)
 lt : i < l.length
 vt : VT (np st i) s.stk
 lps : rs.map (·.1) = lps l m i
 rds : s.rds = rs.map (·.2)
 rnd : ∀ e ∈ rs, 1 ≤ e.2 ∧ e.2 ≤ dd l e.1
 held : ∃ v : Nat, s.held = (v : Int) ∧ HeldB l m i v
theorem fS {v : List Int} (h : v.length ≤ 1000) : (decide ((v.length + 1) * 8 ≤ 140737488355328) && decide (1 ≤ 8)) = true := by simp; omega
theorem lx {A k : Int} (h : 0 ≤ A ∧ A < k) : (decide (0 ≤ A) && decide (A < k)) = true := by simp; exact h
theorem fj (v : List Int) : (pr v).length = v.length - 1 := by
 unfold pr
 rw [List.length_take]
 omega
theorem er {i : Nat} (h : i < 1000000) : wrap .i64 ((i : Int) + 1) = (i : Int) + 1 := dR (by omega) (by omega)
theorem KZ {r : List Int} {x y : Int} : (r ++ [x]).set r.length y = r ++ [y] := by
 rw [List.set_append_right _ _ (ak _), bo]
 rfl
abbrev eu (n : Nat) (l : List cZ) (m : List Int) (x : cZ) (mt : Int) (s : MS) (mem : dN) : Prop :=
 yM n l m true s mem = some (Rt x, 0, KY l m (decide (x.1 ≠ 25)) (eC x mt s mem) (l9 x s mem))
theorem Lw (n : Nat) {l : List cZ} {m : List Int} {i : Nat} (hl : l.length ≤ 200) (hi : i < l.length) {A B : Int} (hx : l.getD i (0, 0, 0) = (1, A, B)) (hr : dg (1, A, B) = true) {ret stk loc inp out rds : List Int} {set held flt stp : Int} {mem : dN} (hs : stk.length ≤ 16) {mt : Int} : eu n l m (1, A, B) mt ⟨ret, (i : Int), stk, loc, inp, out, set, rds, held, flt, stp⟩ mem := by
 have h0 : decide ((l.length : Int) > 0) = true := af (by omega)
 have hi2 : (decide (0 ≤ (i : Int)) && decide ((i : Int) < (l.length : Int))) = true := dc hi
 have hx2 : l.getD ((i : Int)).toNat (0, 0, 0) = (1, A, B) := by rw [ai]; exact hx
 have hn := er (show i < 1000000 by omega)
 refine (PL n (v1 := l) (v2 := m) (v3 := ret) (v5 := (i : Int)) (v6 := stk) (v7 := loc) (v8 := inp) (v9 := out) (v10 := set) (v11 := rds) (v12 := held) (v13 := flt) (v14 := stp) (v15 := mem) h0 hi2 hx2).trans ?_
 rw [if_pos (fS (by omega)), hn]
 kernel_rfl
theorem Ru (n : Nat) {l : List cZ} {m : List Int} {i : Nat} (hl : l.length ≤ 200) (hi : i < l.length) {A B : Int} (hx : l.getD i (0, 0, 0) = (2, A, B)) (hr : dg (2, A, B) = true) {ret stk loc inp out rds : List Int} {set held flt stp : Int} {mem : dN} (hs : stk.length ≤ 16) (hd : 1 ≤ stk.length) {mt : Int} : eu n l m (2, A, B) mt ⟨ret, (i : Int), stk, loc, inp, out, set, rds, held, flt, stp⟩ mem := by
 have h0 : decide ((l.length : Int) > 0) = true := af (by omega)
 have hi2 : (decide (0 ≤ (i : Int)) && decide ((i : Int) < (l.length : Int))) = true := dc hi
 have hx2 : l.getD ((i : Int)).toNat (0, 0, 0) = (2, A, B) := by rw [ai]; exact hx
 have hn := er (show i < 1000000 by omega)
 refine (PM n (v1 := l) (v2 := m) (v3 := ret) (v5 := (i : Int)) (v6 := stk) (v7 := loc) (v8 := inp) (v9 := out) (v10 := set) (v11 := rds) (v12 := held) (v13 := flt) (v14 := stp) (v15 := mem) h0 hi2 hx2).trans ?_
 rw [f0 n _ _ _ _ _ (v6 := stk) _ _ _ _ _ _ _ _ (by omega) (by omega), ae, hn]
 kernel_rfl
theorem Rv (n : Nat) {l : List cZ} {m : List Int} {i : Nat} (hl : l.length ≤ 200) (hi : i < l.length) {A B : Int} (hx : l.getD i (0, 0, 0) = (3, A, B)) (hr : dg (3, A, B) = true) {ret stk loc inp out rds : List Int} {set held flt stp : Int} {mem : dN} (hs : stk.length ≤ 16) (hd : 1 ≤ stk.length) {mt : Int} : eu n l m (3, A, B) mt ⟨ret, (i : Int), stk, loc, inp, out, set, rds, held, flt, stp⟩ mem := by
 have h0 : decide ((l.length : Int) > 0) = true := af (by omega)
 have hi2 : (decide (0 ≤ (i : Int)) && decide ((i : Int) < (l.length : Int))) = true := dc hi
 have hx2 : l.getD ((i : Int)).toNat (0, 0, 0) = (3, A, B) := by rw [ai]; exact hx
 have hn := er (show i < 1000000 by omega)
 refine (PN n (v1 := l) (v2 := m) (v3 := ret) (v5 := (i : Int)) (v6 := stk) (v7 := loc) (v8 := inp) (v9 := out) (v10 := set) (v11 := rds) (v12 := held) (v13 := flt) (v14 := stp) (v15 := mem) h0 hi2 hx2).trans ?_
 rw [IG (by omega) (by omega), if_pos (dc (by omega)), if_pos (fS (by omega)), hn, ai]
 kernel_rfl
theorem Rw (n : Nat) {l : List cZ} {m : List Int} {i : Nat} (hl : l.length ≤ 200) (hi : i < l.length) {A B : Int} (hx : l.getD i (0, 0, 0) = (4, A, B)) (hr : dg (4, A, B) = true) {ret stk loc inp out rds : List Int} {set held flt stp : Int} {mem : dN} (hs : stk.length ≤ 16) (hd : 2 ≤ stk.length) {mt : Int} : eu n l m (4, A, B) mt ⟨ret, (i : Int), stk, loc, inp, out, set, rds, held, flt, stp⟩ mem := by
 have h0 : decide ((l.length : Int) > 0) = true := af (by omega)
 have hi2 : (decide (0 ≤ (i : Int)) && decide ((i : Int) < (l.length : Int))) = true := dc hi
 have hx2 : l.getD ((i : Int)).toNat (0, 0, 0) = (4, A, B) := by rw [ai]; exact hx
 have hn := er (show i < 1000000 by omega)
 refine (PO n (v1 := l) (v2 := m) (v3 := ret) (v5 := (i : Int)) (v6 := stk) (v7 := loc) (v8 := inp) (v9 := out) (v10 := set) (v11 := rds) (v12 := held) (v13 := flt) (v14 := stp) (v15 := mem) h0 hi2 hx2).trans ?_
 rw [f0 n _ _ _ _ _ (v6 := stk) _ _ _ _ _ _ _ _ (by omega) (by omega), ae, f0 n _ _ _ _ _ (v6 := pr stk) _ _ _ _ _ _ _ _ (by rw [fj]; omega) (by rw [fj]; omega), ae]
 simp only []
 rw [if_pos (fS (by rw [fj, fj]; omega)), if_pos (fS (by rw [aF, fj, fj, List.length_singleton]; omega)), hn]
 kernel_rfl
theorem Rx (n : Nat) {l : List cZ} {m : List Int} {i : Nat} (hl : l.length ≤ 200) (hi : i < l.length) {A B : Int} (hx : l.getD i (0, 0, 0) = (5, A, B)) (hr : dg (5, A, B) = true) {ret stk loc inp out rds : List Int} {set held flt stp : Int} {mem : dN} (hs : stk.length ≤ 16) (hd : 2 ≤ stk.length) {mt : Int} : eu n l m (5, A, B) mt ⟨ret, (i : Int), stk, loc, inp, out, set, rds, held, flt, stp⟩ mem := by
 have h0 : decide ((l.length : Int) > 0) = true := af (by omega)
 have hi2 : (decide (0 ≤ (i : Int)) && decide ((i : Int) < (l.length : Int))) = true := dc hi
 have hx2 : l.getD ((i : Int)).toNat (0, 0, 0) = (5, A, B) := by rw [ai]; exact hx
 have hn := er (show i < 1000000 by omega)
 have hb : ∀ b : Bool, gE n b = some (if b = true then 1 else 0) := fun b => by cases b <;> rfl
 refine (PP n (v1 := l) (v2 := m) (v3 := ret) (v5 := (i : Int)) (v6 := stk) (v7 := loc) (v8 := inp) (v9 := out) (v10 := set) (v11 := rds) (v12 := held) (v13 := flt) (v14 := stp) (v15 := mem) h0 hi2 hx2).trans ?_
 rw [f0 n _ _ _ _ _ (v6 := stk) _ _ _ _ _ _ _ _ (by omega) (by omega), ae, f0 n _ _ _ _ _ (v6 := pr stk) _ _ _ _ _ _ _ _ (by rw [fj]; omega) (by rw [fj]; omega), ae]
 simp only []
 rw [(IH n (Dh hr) _ _).1, ae]
 rw [hb, ae, if_pos (fS (by rw [fj, fj]; omega)), hn]
 kernel_rfl
theorem Ry (n : Nat) {l : List cZ} {m : List Int} {i : Nat} (hl : l.length ≤ 200) (hi : i < l.length) {A B : Int} (hx : l.getD i (0, 0, 0) = (6, A, B)) (hr : dg (6, A, B) = true) {ret stk loc inp out rds : List Int} {set held flt stp : Int} {mem : dN} (hs : stk.length ≤ 16) (hd : 1 ≤ stk.length) {mt : Int} : eu n l m (6, A, B) mt ⟨ret, (i : Int), stk, loc, inp, out, set, rds, held, flt, stp⟩ mem := by
 have h0 : decide ((l.length : Int) > 0) = true := af (by omega)
 have hi2 : (decide (0 ≤ (i : Int)) && decide ((i : Int) < (l.length : Int))) = true := dc hi
 have hx2 : l.getD ((i : Int)).toNat (0, 0, 0) = (6, A, B) := by rw [ai]; exact hx
 have hn := er (show i < 1000000 by omega)
 refine (PQ n (v1 := l) (v2 := m) (v3 := ret) (v5 := (i : Int)) (v6 := stk) (v7 := loc) (v8 := inp) (v9 := out) (v10 := set) (v11 := rds) (v12 := held) (v13 := flt) (v14 := stp) (v15 := mem) h0 hi2 hx2).trans ?_
 rw [f0 n _ _ _ _ _ (v6 := stk) _ _ _ _ _ _ _ _ (by omega) (by omega), ae]
 simp only []
 rw [show oZ n (pv stk) = some (wrap .i64 (0 - pv stk)) from rfl, ae, if_pos (fS (by rw [fj]; omega)), hn]
 kernel_rfl
theorem Rz (n : Nat) {l : List cZ} {m : List Int} {i : Nat} (hl : l.length ≤ 200) (hi : i < l.length) {A B : Int} (hx : l.getD i (0, 0, 0) = (7, A, B)) (hr : dg (7, A, B) = true) {ret stk loc inp out rds : List Int} {set held flt stp : Int} {mem : dN} (hs : stk.length ≤ 16) (hd : 1 ≤ stk.length) {mt : Int} : eu n l m (7, A, B) mt ⟨ret, (i : Int), stk, loc, inp, out, set, rds, held, flt, stp⟩ mem := by
 have h0 : decide ((l.length : Int) > 0) = true := af (by omega)
 have hi2 : (decide (0 ≤ (i : Int)) && decide ((i : Int) < (l.length : Int))) = true := dc hi
 have hx2 : l.getD ((i : Int)).toNat (0, 0, 0) = (7, A, B) := by rw [ai]; exact hx
 have hn := er (show i < 1000000 by omega)
 have hb : mW n (pv stk) = some (if pv stk = 0 then 1 else 0) := by
  unfold mW gE
  by_cases h : pv stk = 0
  ·rw [if_pos (by simpa using h), if_pos h]; rfl
  ·rw [if_neg (by simpa using h), if_neg h]; rfl
 refine (PR n (v1 := l) (v2 := m) (v3 := ret) (v5 := (i : Int)) (v6 := stk) (v7 := loc) (v8 := inp) (v9 := out) (v10 := set) (v11 := rds) (v12 := held) (v13 := flt) (v14 := stp) (v15 := mem) h0 hi2 hx2).trans ?_
 rw [f0 n _ _ _ _ _ (v6 := stk) _ _ _ _ _ _ _ _ (by omega) (by omega), ae]
 simp only []
 rw [hb, ae, if_pos (fS (by rw [fj]; omega)), hn]
 kernel_rfl
theorem RA (n : Nat) {l : List cZ} {m : List Int} {i : Nat} (hl : l.length ≤ 200) (hi : i < l.length) {A B : Int} (hx : l.getD i (0, 0, 0) = (8, A, B)) (hr : dg (8, A, B) = true) {ret stk loc inp out rds : List Int} {set held flt stp : Int} {mem : dN} (hs : stk.length ≤ 16) (hd : 2 ≤ stk.length) {mt : Int} : eu n l m (8, A, B) mt ⟨ret, (i : Int), stk, loc, inp, out, set, rds, held, flt, stp⟩ mem := by
 have h0 : decide ((l.length : Int) > 0) = true := af (by omega)
 have hi2 : (decide (0 ≤ (i : Int)) && decide ((i : Int) < (l.length : Int))) = true := dc hi
 have hx2 : l.getD ((i : Int)).toNat (0, 0, 0) = (8, A, B) := by rw [ai]; exact hx
 have hn := er (show i < 1000000 by omega)
 refine (PS n (v1 := l) (v2 := m) (v3 := ret) (v5 := (i : Int)) (v6 := stk) (v7 := loc) (v8 := inp) (v9 := out) (v10 := set) (v11 := rds) (v12 := held) (v13 := flt) (v14 := stp) (v15 := mem) h0 hi2 hx2).trans ?_
 rw [f0 n _ _ _ _ _ (v6 := stk) _ _ _ _ _ _ _ _ (by omega) (by omega), ae, f0 n _ _ _ _ _ (v6 := pr stk) _ _ _ _ _ _ _ _ (by rw [fj]; omega) (by rw [fj]; omega), ae]
 simp only []
 rw [if_pos (fS (by rw [fj, fj]; omega)), hn]
 kernel_rfl
theorem RB (n : Nat) {l : List cZ} {m : List Int} {i : Nat} (hl : l.length ≤ 200) (hi : i < l.length) {A B : Int} (hx : l.getD i (0, 0, 0) = (9, A, B)) (hr : dg (9, A, B) = true) {ret stk loc inp out rds : List Int} {set held flt stp : Int} {mem : dN} (hs : stk.length ≤ 16) (hd : 2 ≤ stk.length) {mt : Int} : eu n l m (9, A, B) mt ⟨ret, (i : Int), stk, loc, inp, out, set, rds, held, flt, stp⟩ mem := by
 have h0 : decide ((l.length : Int) > 0) = true := af (by omega)
 have hi2 : (decide (0 ≤ (i : Int)) && decide ((i : Int) < (l.length : Int))) = true := dc hi
 have hx2 : l.getD ((i : Int)).toNat (0, 0, 0) = (9, A, B) := by rw [ai]; exact hx
 have hn := er (show i < 1000000 by omega)
 refine (PT n (v1 := l) (v2 := m) (v3 := ret) (v5 := (i : Int)) (v6 := stk) (v7 := loc) (v8 := inp) (v9 := out) (v10 := set) (v11 := rds) (v12 := held) (v13 := flt) (v14 := stp) (v15 := mem) h0 hi2 hx2).trans ?_
 rw [f0 n _ _ _ _ _ (v6 := stk) _ _ _ _ _ _ _ _ (by omega) (by omega), ae, f0 n _ _ _ _ _ (v6 := pr stk) _ _ _ _ _ _ _ _ (by rw [fj]; omega) (by rw [fj]; omega), ae]
 simp only []
 rw [if_pos (fS (by rw [fj, fj]; omega)), hn]
 kernel_rfl
theorem PU (n : Nat) {l : List cZ} {m : List Int} {i : Nat} (hl : l.length ≤ 200) (hi : i < l.length) {A B : Int} (hx : l.getD i (0, 0, 0) = (10, A, B)) (hr : dg (10, A, B) = true) {ret stk loc inp out rds : List Int} {set held flt stp : Int} {mem : dN} (hs : stk.length ≤ 16) {mt : Int} : eu n l m (10, A, B) mt ⟨ret, (i : Int), stk, loc, inp, out, set, rds, held, flt, stp⟩ mem := by
 have h0 : decide ((l.length : Int) > 0) = true := af (by omega)
 have hi2 : (decide (0 ≤ (i : Int)) && decide ((i : Int) < (l.length : Int))) = true := dc hi
 have hx2 : l.getD ((i : Int)).toNat (0, 0, 0) = (10, A, B) := by rw [ai]; exact hx
 have hn := er (show i < 1000000 by omega)
 refine (Pf n (v1 := l) (v2 := m) (v3 := ret) (v5 := (i : Int)) (v6 := stk) (v7 := loc) (v8 := inp) (v9 := out) (v10 := set) (v11 := rds) (v12 := held) (v13 := flt) (v14 := stp) (v15 := mem) h0 hi2 hx2).trans ?_
 rw [hn]
 kernel_rfl
theorem PV (n : Nat) {l : List cZ} {m : List Int} {i : Nat} (hl : l.length ≤ 200) (hi : i < l.length) {A B : Int} (hx : l.getD i (0, 0, 0) = (11, A, B)) (hr : dg (11, A, B) = true) {ret stk loc inp out rds : List Int} {set held flt stp : Int} {mem : dN} (hs : stk.length ≤ 16) {mt : Int} : eu n l m (11, A, B) mt ⟨ret, (i : Int), stk, loc, inp, out, set, rds, held, flt, stp⟩ mem := by
 have h0 : decide ((l.length : Int) > 0) = true := af (by omega)
 have hi2 : (decide (0 ≤ (i : Int)) && decide ((i : Int) < (l.length : Int))) = true := dc hi
 have hx2 : l.getD ((i : Int)).toNat (0, 0, 0) = (11, A, B) := by rw [ai]; exact hx
 have hn := er (show i < 1000000 by omega)
 have ha := m9 (by omega) hr
 refine (Pg n (v1 := l) (v2 := m) (v3 := ret) (v5 := (i : Int)) (v6 := stk) (v7 := loc) (v8 := inp) (v9 := out) (v10 := set) (v11 := rds) (v12 := held) (v13 := flt) (v14 := stp) (v15 := mem) h0 hi2 hx2).trans ?_
 rw [if_pos (lx (by omega)), if_pos (fS (by omega)), hn]
 kernel_rfl
theorem PW (n : Nat) {l : List cZ} {m : List Int} {i : Nat} (hl : l.length ≤ 200) (hi : i < l.length) {A B : Int} (hx : l.getD i (0, 0, 0) = (13, A, B)) (hr : dg (13, A, B) = true) {ret stk loc inp out rds : List Int} {set held flt stp : Int} {mem : dN} (hs : stk.length ≤ 16) {mt : Int} : eu n l m (13, A, B) mt ⟨ret, (i : Int), stk, loc, inp, out, set, rds, held, flt, stp⟩ mem := by
 have h0 : decide ((l.length : Int) > 0) = true := af (by omega)
 have hi2 : (decide (0 ≤ (i : Int)) && decide ((i : Int) < (l.length : Int))) = true := dc hi
 have hx2 : l.getD ((i : Int)).toNat (0, 0, 0) = (13, A, B) := by rw [ai]; exact hx
 have hn := er (show i < 1000000 by omega)
 have ha := m9 (by omega) hr
 refine (Pi n (v1 := l) (v2 := m) (v3 := ret) (v5 := (i : Int)) (v6 := stk) (v7 := loc) (v8 := inp) (v9 := out) (v10 := set) (v11 := rds) (v12 := held) (v13 := flt) (v14 := stp) (v15 := mem) h0 hi2 hx2).trans ?_
 rw [if_pos (lx (by omega)), if_pos (fS (by omega)), hn]
 kernel_rfl
theorem PX (n : Nat) {l : List cZ} {m : List Int} {i : Nat} (hl : l.length ≤ 200) (hi : i < l.length) {A B : Int} (hx : l.getD i (0, 0, 0) = (15, A, B)) (hr : dg (15, A, B) = true) {ret stk loc inp out rds : List Int} {set held flt stp : Int} {mem : dN} (hs : stk.length ≤ 16) {mt : Int} : eu n l m (15, A, B) mt ⟨ret, (i : Int), stk, loc, inp, out, set, rds, held, flt, stp⟩ mem := by
 have h0 : decide ((l.length : Int) > 0) = true := af (by omega)
 have hi2 : (decide (0 ≤ (i : Int)) && decide ((i : Int) < (l.length : Int))) = true := dc hi
 have hx2 : l.getD ((i : Int)).toNat (0, 0, 0) = (15, A, B) := by rw [ai]; exact hx
 have hn := er (show i < 1000000 by omega)
 have ha := vF (by omega) hr
 refine (Pk n (v1 := l) (v2 := m) (v3 := ret) (v5 := (i : Int)) (v6 := stk) (v7 := loc) (v8 := inp) (v9 := out) (v10 := set) (v11 := rds) (v12 := held) (v13 := flt) (v14 := stp) (v15 := mem) h0 hi2 hx2).trans ?_
 rw [if_pos (lx (by omega)), if_pos (fS (by omega)), hn]
 kernel_rfl
theorem PY (n : Nat) {l : List cZ} {m : List Int} {i : Nat} (hl : l.length ≤ 200) (hi : i < l.length) {A B : Int} (hx : l.getD i (0, 0, 0) = (17, A, B)) (hr : dg (17, A, B) = true) {ret stk loc inp out rds : List Int} {set held flt stp : Int} {mem : dN} (hs : stk.length ≤ 16) {mt : Int} : eu n l m (17, A, B) mt ⟨ret, (i : Int), stk, loc, inp, out, set, rds, held, flt, stp⟩ mem := by
 have h0 : decide ((l.length : Int) > 0) = true := af (by omega)
 have hi2 : (decide (0 ≤ (i : Int)) && decide ((i : Int) < (l.length : Int))) = true := dc hi
 have hx2 : l.getD ((i : Int)).toNat (0, 0, 0) = (17, A, B) := by rw [ai]; exact hx
 have hn := er (show i < 1000000 by omega)
 have ha := Fg (by omega) hr
 refine (Pn n (v1 := l) (v2 := m) (v3 := ret) (v5 := (i : Int)) (v6 := stk) (v7 := loc) (v8 := inp) (v9 := out) (v10 := set) (v11 := rds) (v12 := held) (v13 := flt) (v14 := stp) (v15 := mem) h0 hi2 hx2).trans ?_
 rw [if_pos (lx (by omega)), if_pos (lx (by omega)), if_pos (fS (by omega)), hn]
 kernel_rfl
theorem PZ (n : Nat) {l : List cZ} {m : List Int} {i : Nat} (hl : l.length ≤ 200) (hi : i < l.length) {A B : Int} (hx : l.getD i (0, 0, 0) = (12, A, B)) (hr : dg (12, A, B) = true) {ret stk loc inp out rds : List Int} {set held flt stp : Int} {mem : dN} (hs : stk.length ≤ 16) (hd : 1 ≤ stk.length) {mt : Int} : eu n l m (12, A, B) mt ⟨ret, (i : Int), stk, loc, inp, out, set, rds, held, flt, stp⟩ mem := by
 have h0 : decide ((l.length : Int) > 0) = true := af (by omega)
 have hi2 : (decide (0 ≤ (i : Int)) && decide ((i : Int) < (l.length : Int))) = true := dc hi
 have hx2 : l.getD ((i : Int)).toNat (0, 0, 0) = (12, A, B) := by rw [ai]; exact hx
 have hn := er (show i < 1000000 by omega)
 have ha := m9 (by omega) hr
 refine (Ph n (v1 := l) (v2 := m) (v3 := ret) (v5 := (i : Int)) (v6 := stk) (v7 := loc) (v8 := inp) (v9 := out) (v10 := set) (v11 := rds) (v12 := held) (v13 := flt) (v14 := stp) (v15 := mem) h0 hi2 hx2).trans ?_
 rw [f0 n _ _ _ _ _ (v6 := stk) _ _ _ _ _ _ _ _ (by omega) (by omega), ae, if_pos (lx (by omega)), hn]
 kernel_rfl
theorem P0 (n : Nat) {l : List cZ} {m : List Int} {i : Nat} (hl : l.length ≤ 200) (hi : i < l.length) {A B : Int} (hx : l.getD i (0, 0, 0) = (14, A, B)) (hr : dg (14, A, B) = true) {ret stk loc inp out rds : List Int} {set held flt stp : Int} {mem : dN} (hs : stk.length ≤ 16) (hd : 1 ≤ stk.length) {mt : Int} : eu n l m (14, A, B) mt ⟨ret, (i : Int), stk, loc, inp, out, set, rds, held, flt, stp⟩ mem := by
 have h0 : decide ((l.length : Int) > 0) = true := af (by omega)
 have hi2 : (decide (0 ≤ (i : Int)) && decide ((i : Int) < (l.length : Int))) = true := dc hi
 have hx2 : l.getD ((i : Int)).toNat (0, 0, 0) = (14, A, B) := by rw [ai]; exact hx
 have hn := er (show i < 1000000 by omega)
 have ha := m9 (by omega) hr
 refine (Pj n (v1 := l) (v2 := m) (v3 := ret) (v5 := (i : Int)) (v6 := stk) (v7 := loc) (v8 := inp) (v9 := out) (v10 := set) (v11 := rds) (v12 := held) (v13 := flt) (v14 := stp) (v15 := mem) h0 hi2 hx2).trans ?_
 rw [f0 n _ _ _ _ _ (v6 := stk) _ _ _ _ _ _ _ _ (by omega) (by omega), ae, if_pos (lx (by omega)), hn]
 kernel_rfl
theorem P1 (n : Nat) {l : List cZ} {m : List Int} {i : Nat} (hl : l.length ≤ 200) (hi : i < l.length) {A B : Int} (hx : l.getD i (0, 0, 0) = (16, A, B)) (hr : dg (16, A, B) = true) {ret stk loc inp out rds : List Int} {set held flt stp : Int} {mem : dN} (hs : stk.length ≤ 16) (hd : 1 ≤ stk.length) {mt : Int} : eu n l m (16, A, B) mt ⟨ret, (i : Int), stk, loc, inp, out, set, rds, held, flt, stp⟩ mem := by
 have h0 : decide ((l.length : Int) > 0) = true := af (by omega)
 have hi2 : (decide (0 ≤ (i : Int)) && decide ((i : Int) < (l.length : Int))) = true := dc hi
 have hx2 : l.getD ((i : Int)).toNat (0, 0, 0) = (16, A, B) := by rw [ai]; exact hx
 have hn := er (show i < 1000000 by omega)
 have ha := vF (by omega) hr
 refine (Pm n (v1 := l) (v2 := m) (v3 := ret) (v5 := (i : Int)) (v6 := stk) (v7 := loc) (v8 := inp) (v9 := out) (v10 := set) (v11 := rds) (v12 := held) (v13 := flt) (v14 := stp) (v15 := mem) h0 hi2 hx2).trans ?_
 rw [f0 n _ _ _ _ _ (v6 := stk) _ _ _ _ _ _ _ _ (by omega) (by omega), ae, if_pos (lx (by omega)), if_neg (by simp; omega), hn]
 kernel_rfl
theorem P2 (n : Nat) {l : List cZ} {m : List Int} {i : Nat} (hl : l.length ≤ 200) (hi : i < l.length) {A B : Int} (hx : l.getD i (0, 0, 0) = (18, A, B)) (hr : dg (18, A, B) = true) {ret stk loc inp out rds : List Int} {set held flt stp : Int} {mem : dN} (hs : stk.length ≤ 16) (hd : 1 ≤ stk.length) {mt : Int} : eu n l m (18, A, B) mt ⟨ret, (i : Int), stk, loc, inp, out, set, rds, held, flt, stp⟩ mem := by
 have h0 : decide ((l.length : Int) > 0) = true := af (by omega)
 have hi2 : (decide (0 ≤ (i : Int)) && decide ((i : Int) < (l.length : Int))) = true := dc hi
 have hx2 : l.getD ((i : Int)).toNat (0, 0, 0) = (18, A, B) := by rw [ai]; exact hx
 have hn := er (show i < 1000000 by omega)
 have ha := Fg (by omega) hr
 refine (Po n (v1 := l) (v2 := m) (v3 := ret) (v5 := (i : Int)) (v6 := stk) (v7 := loc) (v8 := inp) (v9 := out) (v10 := set) (v11 := rds) (v12 := held) (v13 := flt) (v14 := stp) (v15 := mem) h0 hi2 hx2).trans ?_
 rw [f0 n _ _ _ _ _ (v6 := stk) _ _ _ _ _ _ _ _ (by omega) (by omega), ae, if_pos (lx (by omega)), if_pos (lx (by omega)), hn]
 kernel_rfl
theorem P3 (n : Nat) {l : List cZ} {m : List Int} {i : Nat} (hl : l.length ≤ 200) (hi : i < l.length) {A B : Int} (hx : l.getD i (0, 0, 0) = (19, A, B)) (hr : dg (19, A, B) = true) {ret stk loc inp out rds : List Int} {set held flt stp : Int} {mem : dN} (hs : stk.length ≤ 16) {mt : Int} : eu n l m (19, A, B) mt ⟨ret, (i : Int), stk, loc, inp, out, set, rds, held, flt, stp⟩ mem := by
 have h0 : decide ((l.length : Int) > 0) = true := af (by omega)
 have hi2 : (decide (0 ≤ (i : Int)) && decide ((i : Int) < (l.length : Int))) = true := dc hi
 have hx2 : l.getD ((i : Int)).toNat (0, 0, 0) = (19, A, B) := by rw [ai]; exact hx
 have hn := er (show i < 1000000 by omega)
 have ha := oE (.inl rfl) hr
 refine (Pp n (v1 := l) (v2 := m) (v3 := ret) (v5 := (i : Int)) (v6 := stk) (v7 := loc) (v8 := inp) (v9 := out) (v10 := set) (v11 := rds) (v12 := held) (v13 := flt) (v14 := stp) (v15 := mem) h0 hi2 hx2).trans ?_
 rw [hn, dR (show -9223372036854775808 ≤ (i : Int) + 1 + A by omega) (by omega)]
 kernel_rfl
theorem P4 (n : Nat) {l : List cZ} {m : List Int} {i : Nat} (hl : l.length ≤ 200) (hi : i < l.length) {A B : Int} (hx : l.getD i (0, 0, 0) = (20, A, B)) (hr : dg (20, A, B) = true) {ret stk loc inp out rds : List Int} {set held flt stp : Int} {mem : dN} (hs : stk.length ≤ 16) (hd : 1 ≤ stk.length) {mt : Int} : eu n l m (20, A, B) mt ⟨ret, (i : Int), stk, loc, inp, out, set, rds, held, flt, stp⟩ mem := by
 have h0 : decide ((l.length : Int) > 0) = true := af (by omega)
 have hi2 : (decide (0 ≤ (i : Int)) && decide ((i : Int) < (l.length : Int))) = true := dc hi
 have hx2 : l.getD ((i : Int)).toNat (0, 0, 0) = (20, A, B) := by rw [ai]; exact hx
 have hn := er (show i < 1000000 by omega)
 have ha := oE (.inr rfl) hr
 refine (Pq n (v1 := l) (v2 := m) (v3 := ret) (v5 := (i : Int)) (v6 := stk) (v7 := loc) (v8 := inp) (v9 := out) (v10 := set) (v11 := rds) (v12 := held) (v13 := flt) (v14 := stp) (v15 := mem) h0 hi2 hx2).trans ?_
 rw [f0 n _ _ _ _ _ (v6 := stk) _ _ _ _ _ _ _ _ (by omega) (by omega), ae]
 simp only []
 rw [hn, dR (show -9223372036854775808 ≤ (i : Int) + 1 + A by omega) (by omega)]
 by_cases h : pv stk = 0
 ·rw [if_pos (by simpa using h)]
  unfold eC
  rw [show ee (20, A, B) mt ⟨ret, (i : Int), stk, loc, inp, out, set, rds, held, flt, stp⟩ = (i : Int) + 1 + A by
   unfold ee
   rw [if_neg (show ¬ (20 : Int) = 19 by decide), if_pos rfl, if_pos h]]
  kernel_rfl
 ·rw [if_neg (by simpa using h)]
  unfold eC
  rw [show ee (20, A, B) mt ⟨ret, (i : Int), stk, loc, inp, out, set, rds, held, flt, stp⟩ = (i : Int) + 1 by
   unfold ee
   rw [if_neg (show ¬ (20 : Int) = 19 by decide), if_pos rfl, if_neg h]]
  kernel_rfl
theorem P5 (n : Nat) {l : List cZ} {m : List Int} {i : Nat} (hl : l.length ≤ 200) (hi : i < l.length) {A B : Int} (hx : l.getD i (0, 0, 0) = (21, A, B)) (hr : dg (21, A, B) = true) {ret stk loc inp out rds : List Int} {set held flt stp : Int} {mem : dN} (hs : stk.length ≤ 16) (hd : rds.length ≤ 200) {mt : Int} : eu n l m (21, A, B) mt ⟨ret, (i : Int), stk, loc, inp, out, set, rds, held, flt, stp⟩ mem := by
 have h0 : decide ((l.length : Int) > 0) = true := af (by omega)
 have hi2 : (decide (0 ≤ (i : Int)) && decide ((i : Int) < (l.length : Int))) = true := dc hi
 have hx2 : l.getD ((i : Int)).toNat (0, 0, 0) = (21, A, B) := by rw [ai]; exact hx
 have hn := er (show i < 1000000 by omega)
 refine (Pr n (v1 := l) (v2 := m) (v3 := ret) (v5 := (i : Int)) (v6 := stk) (v7 := loc) (v8 := inp) (v9 := out) (v10 := set) (v11 := rds) (v12 := held) (v13 := flt) (v14 := stp) (v15 := mem) h0 hi2 hx2).trans ?_
 rw [if_pos (fS (by omega)), hn]
 kernel_rfl
theorem P6 (n : Nat) {l : List cZ} {m : List Int} {i : Nat} (hl : l.length ≤ 200) (hi : i < l.length) {A B : Int} (hx : l.getD i (0, 0, 0) = (22, A, B)) (hr : dg (22, A, B) = true) {ret stk loc inp out rds : List Int} {set held flt stp : Int} {mem : dN} (hs : stk.length ≤ 16) {r0 : List Int} {r : Int} (hrd : rds = r0 ++ [r]) (hr1 : 1 ≤ r ∧ r ≤ 1000) (hd : r0.length ≤ 200) (hm : m.length = l.length) {k : Nat} (hk : m.getD i 0 = (k : Int)) (hk2 : k < i) {mt : Int} (hmt : mt = m.getD i 0) : eu n l m (22, A, B) mt ⟨ret, (i : Int), stk, loc, inp, out, set, rds, held, flt, stp⟩ mem := by
 have h0 : decide ((l.length : Int) > 0) = true := af (by omega)
 have hi2 : (decide (0 ≤ (i : Int)) && decide ((i : Int) < (l.length : Int))) = true := dc hi
 have hx2 : l.getD ((i : Int)).toNat (0, 0, 0) = (22, A, B) := by rw [ai]; exact hx
 have hn := er (show i < 1000000 by omega)
 have hlen : (r0 ++ [r]).length = r0.length + 1 := by simp
 subst hrd
 have e1 : wrap .i64 (((r0 ++ [r]).length : Int) - 1) = (r0.length : Int) := by
  rw [dR (by omega) (by omega)]; omega
 have e2 : (r0 ++ [r]).getD r0.length 0 = r := by
  have := fH r0 r
  unfold pv at this
  rw [hlen, cA] at this
  exact this
 have e3 : wrap .i64 (r - 1) = r - 1 := dR (by omega) (by omega)
 have e4 : (r0 ++ [r - 1]).getD r0.length 0 = r - 1 := by
  have := fH r0 (r - 1)
  unfold pv at this
  rw [show (r0 ++ [r - 1]).length = r0.length + 1 by simp, cA] at this
  exact this
 have e5 : (r0 ++ [r - 1]).length = r0.length + 1 := by simp
 have e6 : (r0 ++ [r - 1]).take r0.length = r0 := by rw [List.take_left]
 have a1 : r - 1 > 0 → ee (22, A, B) mt ⟨ret, (i : Int), stk, loc, inp, out, set, r0 ++ [r], held, flt, stp⟩ = (k : Int) + 1 ∧ f8 (22, A, B) ⟨ret, (i : Int), stk, loc, inp, out, set, r0 ++ [r], held, flt, stp⟩ = r0 ++ [r - 1] := fun h => by
  unfold ee f8
  simp only [fH, gH]
  simp only [if_true, if_pos h, hmt, hk]
  exact ⟨rfl, rfl⟩
 have a2 : ¬ r - 1 > 0 → ee (22, A, B) mt ⟨ret, (i : Int), stk, loc, inp, out, set, r0 ++ [r], held, flt, stp⟩ = (i : Int) + 1 ∧ f8 (22, A, B) ⟨ret, (i : Int), stk, loc, inp, out, set, r0 ++ [r], held, flt, stp⟩ = r0 := fun h => by
  unfold ee f8
  simp only [fH, gH]
  simp only [if_true, if_neg h]
  exact ⟨rfl, rfl⟩
 refine (Ps n (v1 := l) (v2 := m) (v3 := ret) (v5 := (i : Int)) (v6 := stk) (v7 := loc) (v8 := inp) (v9 := out) (v10 := set) (v11 := r0 ++ [r]) (v12 := held) (v13 := flt) (v14 := stp) (v15 := mem) h0 hi2 hx2).trans ?_
 rw [e1]
 simp only [ai, e2, e3, KZ, e4, bp, e6, hk]
 rw [if_pos (dc (by omega)), if_pos (dc (by omega)), if_pos (dc (by omega)), hn, er (show k < 1000000 by omega)]
 by_cases h : r - 1 > 0
 ·rw [if_pos (af h), if_pos (dc (by omega))]
  unfold eC
  rw [(a1 h).1, (a1 h).2]
  kernel_rfl
 ·rw [if_neg (by simpa using h), if_pos (by simp only [e5, aj, av]; omega)]
  unfold eC
  rw [(a2 h).1, (a2 h).2]
  kernel_rfl
theorem P7 (n : Nat) {l : List cZ} {m : List Int} {i : Nat} (hl : l.length ≤ 200) (hi : i < l.length) {A B : Int} (hx : l.getD i (0, 0, 0) = (23, A, B)) (hr : dg (23, A, B) = true) {ret stk loc inp out rds : List Int} {set held flt stp : Int} {mem : dN} (hs : stk.length ≤ 16) {mt : Int} : eu n l m (23, A, B) mt ⟨ret, (i : Int), stk, loc, inp, out, set, rds, held, flt, stp⟩ mem := by
 have h0 : decide ((l.length : Int) > 0) = true := af (by omega)
 have hi2 : (decide (0 ≤ (i : Int)) && decide ((i : Int) < (l.length : Int))) = true := dc hi
 have hx2 : l.getD ((i : Int)).toNat (0, 0, 0) = (23, A, B) := by rw [ai]; exact hx
 have hn := er (show i < 1000000 by omega)
 have ha := m9 (by omega) hr
 refine (Pt n (v1 := l) (v2 := m) (v3 := ret) (v5 := (i : Int)) (v6 := stk) (v7 := loc) (v8 := inp) (v9 := out) (v10 := set) (v11 := rds) (v12 := held) (v13 := flt) (v14 := stp) (v15 := mem) h0 hi2 hx2).trans ?_
 rw [if_neg (by simp; omega), hn]
 kernel_rfl
theorem P8 (n : Nat) {l : List cZ} {m : List Int} {i : Nat} (hl : l.length ≤ 200) (hi : i < l.length) {A B : Int} (hx : l.getD i (0, 0, 0) = (24, A, B)) (hr : dg (24, A, B) = true) {ret stk loc inp out rds : List Int} {set held flt stp : Int} {mem : dN} (hs : stk.length ≤ 16) {mt : Int} : eu n l m (24, A, B) mt ⟨ret, (i : Int), stk, loc, inp, out, set, rds, held, flt, stp⟩ mem := by
 have h0 : decide ((l.length : Int) > 0) = true := af (by omega)
 have hi2 : (decide (0 ≤ (i : Int)) && decide ((i : Int) < (l.length : Int))) = true := dc hi
 have hx2 : l.getD ((i : Int)).toNat (0, 0, 0) = (24, A, B) := by rw [ai]; exact hx
 have hn := er (show i < 1000000 by omega)
 have ha := m9 (by omega) hr
 refine (Pu n (v1 := l) (v2 := m) (v3 := ret) (v5 := (i : Int)) (v6 := stk) (v7 := loc) (v8 := inp) (v9 := out) (v10 := set) (v11 := rds) (v12 := held) (v13 := flt) (v14 := stp) (v15 := mem) h0 hi2 hx2).trans ?_
 rw [if_neg (by simp; omega), hn]
 kernel_rfl
theorem P9 (n : Nat) {l : List cZ} {m : List Int} {i : Nat} (hl : l.length ≤ 200) (hi : i < l.length) {A B : Int} (hx : l.getD i (0, 0, 0) = (25, A, B)) (hr : dg (25, A, B) = true) {ret stk loc inp out rds : List Int} {set held flt stp : Int} {mem : dN} (hs : stk.length ≤ 16) {mt : Int} : eu n l m (25, A, B) mt ⟨ret, (i : Int), stk, loc, inp, out, set, rds, held, flt, stp⟩ mem := by
 have h0 : decide ((l.length : Int) > 0) = true := af (by omega)
 have hi2 : (decide (0 ≤ (i : Int)) && decide ((i : Int) < (l.length : Int))) = true := dc hi
 have hx2 : l.getD ((i : Int)).toNat (0, 0, 0) = (25, A, B) := by rw [ai]; exact hx
 have hn := er (show i < 1000000 by omega)
 refine (Pv n (v1 := l) (v2 := m) (v3 := ret) (v5 := (i : Int)) (v6 := stk) (v7 := loc) (v8 := inp) (v9 := out) (v10 := set) (v11 := rds) (v12 := held) (v13 := flt) (v14 := stp) (v15 := mem) h0 hi2 hx2).trans ?_
 rw [hn]
 kernel_rfl
theorem II {x y : Int} (hx : x = 0 ∨ x = 1) (hy : y = 0 ∨ y = 1) : (bits .and .i64 y x = 0 ∨ bits .and .i64 y x = 1) ∧ (bits .or .i64 y x = 0 ∨ bits .or .i64 y x = 1) := by
 rcases hx with rfl | rfl <;> rcases hy with rfl | rfl
 ·exact ⟨.inl (by kernel_rfl), .inl (by kernel_rfl)⟩
 ·exact ⟨.inl (by kernel_rfl), .inr (by kernel_rfl)⟩
 ·exact ⟨.inl (by kernel_rfl), .inr (by kernel_rfl)⟩
 ·exact ⟨.inr (by kernel_rfl), .inr (by kernel_rfl)⟩
theorem zx {o A B : Int} {t : ByteArray} {S : MS} {mem : dN} (hr : dg (o, A, B) = true) (h : (dt (o, A, B) t).2 = 0) (hv : VT t S.stk) :
  VT (dt (o, A, B) t).1 (fI (o, A, B) S mem) ∧ (o = 2 ∨ o = 3 ∨ o = 6 ∨ o = 7 ∨ o = 12 ∨ o = 14 ∨ o = 16 ∨ o = 18 ∨ o = 20 → 1 ≤ S.stk.length) ∧ (o = 4 ∨ o = 5 ∨ o = 8 ∨ o = 9 → 2 ≤ S.stk.length) := by
 have hA := fun (h5 : o = 5) => Dh (h5 ▸ hr)
 have in_ : ∀ y, (o = 1 ∨ o = 11 ∨ o = 13 ∨ o = 15 ∨ o = 17) → fI (o, A, B) S mem = S.stk ++ [y] → VT (dt (o, A, B) t).1 (fI (o, A, B) S mem) ∧ (o = 2 ∨ o = 3 ∨ o = 6 ∨ o = 7 ∨ o = 12 ∨ o = 14 ∨ o = 16 ∨ o = 18 ∨ o = 20 → 1 ≤ S.stk.length) ∧ (o = 4 ∨ o = 5 ∨ o = 8 ∨ o = 9 → 2 ≤ S.stk.length) := fun y ho e => by
  rw [e]
  exact ⟨Pe h hv ho y, fun h => by omega, fun h => by omega⟩
 have out : (o = 2 ∨ o = 12 ∨ o = 14 ∨ o = 16 ∨ o = 18 ∨ o = 20) → VT (dt (o, A, B) t).1 (fI (o, A, B) S mem) ∧ (o = 2 ∨ o = 3 ∨ o = 6 ∨ o = 7 ∨ o = 12 ∨ o = 14 ∨ o = 16 ∨ o = 18 ∨ o = 20 → 1 ≤ S.stk.length) ∧ (o = 4 ∨ o = 5 ∨ o = 8 ∨ o = 9 → 2 ≤ S.stk.length) := fun ho => by
  obtain ⟨r, x, e1, e2⟩ := Ow h hv ho
  have e : fI (o, A, B) S mem = pr S.stk := by
   unfold fI
   rw [if_neg (by show ¬ o = 1; omega), if_pos (show o = 2 ∨ o = 12 ∨ o = 14 ∨ o = 16 ∨ o = 18 ∨ o = 20 from ho)]
  rw [e, e1, gH]
  exact ⟨e2, fun _ => by simp, fun h => by omega⟩
 have no : (o = 19 ∨ o = 21 ∨ o = 22 ∨ o = 23 ∨ o = 24 ∨ o = 25) → fI (o, A, B) S mem = S.stk → VT (dt (o, A, B) t).1 (fI (o, A, B) S mem) ∧ (o = 2 ∨ o = 3 ∨ o = 6 ∨ o = 7 ∨ o = 12 ∨ o = 14 ∨ o = 16 ∨ o = 18 ∨ o = 20 → 1 ≤ S.stk.length) ∧ (o = 4 ∨ o = 5 ∨ o = 8 ∨ o = 9 → 2 ≤ S.stk.length) := fun ho e => by
  rw [e]
  exact ⟨Gp h hv ho, fun h => by omega, fun h => by omega⟩
 rcases oG (l5 hr) with ho | ho | ho | ho | ho | ho | ho | ho | ho | ho | ho | ho | ho | ho | ho | ho | ho | ho | ho | ho | ho | ho | ho | ho | ho
 ·exact in_ A (by omega) (by subst ho; kernel_rfl)
 ·exact out (by omega)
 ·obtain ⟨r, x, e1, e2⟩ := Ox h hv ho
  have e : fI (o, A, B) S mem = S.stk ++ [pv S.stk] := by subst ho; kernel_rfl
  rw [e, e1, fH, aI]
  exact ⟨e2, fun _ => by simp, fun h => by omega⟩
 ·obtain ⟨r, x, y, e1, e2⟩ := L5 h hv ho
  have e : fI (o, A, B) S mem = (pr (pr S.stk) ++ [pv S.stk]) ++ [pv (pr S.stk)] := by subst ho; kernel_rfl
  rw [e, e1, vD, vE, fH, gH, aI]
  exact ⟨e2, fun h => by omega, fun _ => by simp⟩
 ·obtain ⟨r, x, y, e1, e2⟩ := OA h hv ho
  have e : fI (o, A, B) S mem = pr (pr S.stk) ++ [(rR A (pv (pr S.stk)) (pv S.stk)).1] := by subst ho; kernel_rfl
  rw [e, e1, vD, vE, fH, gH]
  exact ⟨e2 _ (IH 0 (hA ho) _ _).2, fun h => by omega, fun _ => by simp⟩
 ·obtain ⟨r, x, e1, e2⟩ := Oy h hv ho
  have e : fI (o, A, B) S mem = pr S.stk ++ [wrap .i64 (0 - pv S.stk)] := by subst ho; kernel_rfl
  rw [e, e1, gH]
  exact ⟨e2 _, fun _ => by simp, fun h => by omega⟩
 ·obtain ⟨r, x, e1, e2, e3⟩ := Oz h hv ho
  have e : fI (o, A, B) S mem = pr S.stk ++ [if pv S.stk = 0 then 1 else 0] := by subst ho; kernel_rfl
  rw [e, e1, gH]
  exact ⟨e3 _ (by split; exact .inr rfl; exact .inl rfl), fun _ => by simp, fun h => by omega⟩
 ·obtain ⟨r, x, y, e1, e2, e3, e4⟩ := Iz h hv (.inl ho)
  have e : fI (o, A, B) S mem = pr (pr S.stk) ++ [bits .and .i64 (pv S.stk) (pv (pr S.stk))] := by subst ho; kernel_rfl
  rw [e, e1, vD, vE, fH, gH]
  exact ⟨e4 _ (II e2 e3).1, fun h => by omega, fun _ => by simp⟩
 ·obtain ⟨r, x, y, e1, e2, e3, e4⟩ := Iz h hv (.inr ho)
  have e : fI (o, A, B) S mem = pr (pr S.stk) ++ [bits .or .i64 (pv S.stk) (pv (pr S.stk))] := by subst ho; kernel_rfl
  rw [e, e1, vD, vE, fH, gH]
  exact ⟨e4 _ (II e2 e3).2, fun h => by omega, fun _ => by simp⟩
 ·have e : fI (o, A, B) S mem = S.stk := by subst ho; kernel_rfl
  rw [e]
  exact ⟨L4 h hv ho, fun h => by omega, fun h => by omega⟩
 ·exact in_ (S.loc.getD A.toNat 0) (by omega) (by subst ho; kernel_rfl)
 ·exact out (by omega)
 ·exact in_ (S.ret.getD A.toNat 0) (by omega) (by subst ho; kernel_rfl)
 ·exact out (by omega)
 ·exact in_ (S.inp.getD A.toNat 0) (by omega) (by subst ho; kernel_rfl)
 ·exact out (by omega)
 ·exact in_ ((mem.getD A.toNat z8).getD B.toNat 0) (by omega) (by subst ho; kernel_rfl)
 ·exact out (by omega)
 ·exact no (by omega) (by subst ho; kernel_rfl)
 ·exact out (by omega)
 ·exact no (by omega) (by subst ho; kernel_rfl)
 ·exact no (by omega) (by subst ho; kernel_rfl)
 ·exact no (by omega) (by subst ho; kernel_rfl)
 ·exact no (by omega) (by subst ho; kernel_rfl)
 ·exact no (by omega) (by subst ho; kernel_rfl)
theorem Ok.len {l : List cZ} {m h : List Int} {st : List ByteArray} (hR : Row l m h st) {s : MS} {i : Nat} {rs : List (Nat × Int)} (hO : Ok l m st s i rs) : s.stk.length ≤ 16 ∧ s.rds.length ≤ 200 ∧ l.length ≤ 200 := by
 have h1 := hO.vt.len
 have h2 := hR.stk.sz i
 have h3 := hR.fine.len
 have h4 : rs.length ≤ i := by
  have e : (rs.map (·.1)).length = rs.length := b9 _
  rw [← e, hO.lps]
  unfold Go.Proofs.Dk.lps
  exact aS (List.length_filter_le _ _) (by rw [List.length_range]; exact ak _)
 have h5 := hO.lt
 rw [hO.rds, b9]
 omega
theorem L8 {l : List cZ} {m h : List Int} {st : List ByteArray} (hR : Row l m h st) {s : MS} {i : Nat} {rs : List (Nat × Int)} (hO : Ok l m st s i rs) (n : Nat) (mem : dN) : eu n l m (l.getD i (0, 0, 0)) (m.getD i 0) s mem := by
 obtain ⟨hstk, hrl, hl⟩ := hO.len hR
 have hi := hO.lt
 have hF := hR.fine
 have hr := hF.right hi
 have hok := hR.stk.ok i hi
 have hlast : opAt l i = 22 → ∃ (k : Nat) (r0 : List Int) (r : Int), m.getD i 0 = (k : Int) ∧ k < i ∧ s.rds = r0 ++ [r] ∧ 1 ≤ r ∧ r ≤ 1000 ∧ r0.length ≤ 200 := fun h22 => by
  obtain ⟨k, a1, a2, a3, a4, a5, a6, a7⟩ := oJ hF hi h22
  have e := hO.lps
  rw [a5] at e
  obtain ⟨rs0, rs1, e1, e2, e3⟩ := List.map_eq_append_iff.1 e
  obtain ⟨q, e4, e5⟩ := List.map_eq_singleton_iff.1 e3
  have hb := hO.rnd q (by rw [e1, e4]; simp)
  have hA := yK (hF.right (show k < l.length by omega)) a3
  rw [e5] at hb
  refine ⟨k, rs0.map (·.2), q.2, a1, a2, by rw [hO.rds, e1, e4]; simp, hb.1, by omega, ?_⟩
  have := hrl
  rw [hO.rds, e1, e4] at this
  simp at this ⊢
  omega
 have hv := zx (o := (l.getD i (0, 0, 0)).1) (A := (l.getD i (0, 0, 0)).2.1) (B := (l.getD i (0, 0, 0)).2.2) (S := s) (mem := mem) hr hok hO.vt
 have d1 := hv.2.1
 have d2 := hv.2.2
 have hp := hO.place
 clear hv hok hO
 unfold opAt at hlast
 generalize hx : l.getD i (0, 0, 0) = x at hr d1 d2 hlast
 obtain ⟨o, A, B⟩ := x
 obtain ⟨ret, at_, stk, loc, inp, out, set, rds, held, flt, stp⟩ := s
 simp only at hstk hrl d1 d2 hp hlast
 subst hp
 rcases oG (l5 hr) with rfl | rfl | rfl | rfl | rfl | rfl | rfl | rfl | rfl | rfl | rfl | rfl | rfl | rfl | rfl | rfl | rfl | rfl | rfl | rfl | rfl | rfl | rfl | rfl | rfl
 ·exact Lw n hl hi hx hr hstk
 ·exact Ru n hl hi hx hr hstk (d1 (by decide))
 ·exact Rv n hl hi hx hr hstk (d1 (by decide))
 ·exact Rw n hl hi hx hr hstk (d2 (by decide))
 ·exact Rx n hl hi hx hr hstk (d2 (by decide))
 ·exact Ry n hl hi hx hr hstk (d1 (by decide))
 ·exact Rz n hl hi hx hr hstk (d1 (by decide))
 ·exact RA n hl hi hx hr hstk (d2 (by decide))
 ·exact RB n hl hi hx hr hstk (d2 (by decide))
 ·exact PU n hl hi hx hr hstk
 ·exact PV n hl hi hx hr hstk
 ·exact PZ n hl hi hx hr hstk (d1 (by decide))
 ·exact PW n hl hi hx hr hstk
 ·exact P0 n hl hi hx hr hstk (d1 (by decide))
 ·exact PX n hl hi hx hr hstk
 ·exact P1 n hl hi hx hr hstk (d1 (by decide))
 ·exact PY n hl hi hx hr hstk
 ·exact P2 n hl hi hx hr hstk (d1 (by decide))
 ·exact P3 n hl hi hx hr hstk
 ·exact P4 n hl hi hx hr hstk (d1 (by decide))
 ·exact P5 n hl hi hx hr hstk hrl
 ·obtain ⟨k, r0, r, e1, e2, e3, e4, e5, e6⟩ := hlast rfl
  exact P6 n hl hi hx hr hstk e3 ⟨e4, e5⟩ e6 hF.nest.hm e1 e2 rfl
 ·exact P7 n hl hi hx hr hstk
 ·exact P8 n hl hi hx hr hstk
 ·exact P9 n hl hi hx hr hstk
theorem vG {A : Int} {a : Nat} (h : A = (a : Int)) (ha : a ≤ 7) : l8 A = ((2 ^ a : Nat) : Int) := by
 subst h
 exact Au ha
theorem AJ (v a : Nat) (hv : v < 256) (ha : a ≤ 7) : ∃ w : Nat, bits .andNot .i64 (v : Int) ((2 ^ a : Nat) : Int) = (w : Int) ∧ w < 256 ∧ ∀ b, w.testBit b = (v.testBit b && decide (b ≠ a)) := by
 have h2 : 2 ^ a < 2 ^ 8 := Nat.pow_lt_pow_right (by omega) (by omega)
 have key : bits .andNot .i64 (v : Int) ((2 ^ a : Nat) : Int) = IntKind.i64.wrap (((BitVec.ofInt 64 (v : Int)) &&& ~~~ (BitVec.ofInt 64 ((2 ^ a : Nat) : Int))).toNat : Int) := rfl
 have hw : ∀ b, ((BitVec.ofInt 64 (v : Int)) &&& ~~~ (BitVec.ofInt 64 ((2 ^ a : Nat) : Int))).toNat.testBit b = (v.testBit b && decide (b ≠ a)) := fun b => by
  rw [BitVec.toNat_and, Nat.testBit_and, ofInt_u64 v (by omega)]
  by_cases hb : b < 64
  ·rw [BitVec.testBit_toNat, BitVec.getLsbD_not, ← BitVec.testBit_toNat, ofInt_u64 _ (by omega), Nat.testBit_two_pow, af hb, aU]
   congr 1
   by_cases hab : a = b
   ·rw [af hab, bq (by omega)]; rfl
   ·rw [bq hab, af (by omega)]; rfl
  ·have : v.testBit b = false := Nat.testBit_lt_two_pow (bc hv (by
    have := Nat.pow_le_pow_right (n := 2) (by decide) (show 8 ≤ b by omega)
    omega))
   rw [this, bx, bx]
 generalize hW : ((BitVec.ofInt 64 (v : Int)) &&& ~~~ (BitVec.ofInt 64 ((2 ^ a : Nat) : Int))).toNat = W at key hw
 have hlt : W < 256 := by
  have hle : W ≤ v := by
   rw [← hW, BitVec.toNat_and, ofInt_u64 v (by omega)]
   exact Nat.and_le_left
  omega
 refine ⟨W, ?_, hlt, hw⟩
 rw [key, dR (by omega) (by omega)]
structure NextI (l : List cZ) (m : List Int) (st : List ByteArray) (i : Nat) (rs : List (Nat × Int)) (s' : MS) : Prop where
 ex : ∃ q rs', Ok l m st s' q rs' ∧ nq l m q rs' + 1 ≤ nq l m i rs
theorem fU {l : List cZ} {i : Nat} (h19 : opAt l i ≠ 19) (h25 : opAt l i ≠ 25) : i + 1 ∈ dA l i := by
 unfold dA
 rw [if_neg h19]
 split
 ·exact aD ..
 ·exact aq.2 rfl
theorem K1 {l : List cZ} {m h : List Int} {st : List ByteArray} (hR : Row l m h st) {s s' : MS} {i : Nat} {rs : List (Nat × Int)} (hO : Ok l m st s i rs) (h21 : opAt l i ≠ 21) (h22 : opAt l i ≠ 22) (h23 : opAt l i ≠ 23) (h24 : opAt l i ≠ 24) {q : Nat} (hq : q ∈ dA l i)
  (e1 : s'.at_ = (q : Int)) (e2 : VT (dt (l.getD i (0, 0, 0)) (np st i)).1 s'.stk) (e3 : s'.rds = s.rds) (e4 : s'.held = s.held) : NextI l m st i rs s' := by
 have hF := hR.fine
 have hi := hO.lt
 have hql := hF.next hi q hq
 have hlps : lps l m q = lps l m i ∧ ∀ v, HeldB l m i v → HeldB l m q v := by
  unfold dA at hq
  split at hq
  ·rename_i h19
   rw [aq] at hq
   subst hq
   exact ⟨rO hF hi (.inl h19), fun v hv => hv.jump hF hi (.inl h19)⟩
  ·split at hq
   ·rename_i h20
    rw [az, aq] at hq
    rcases hq with rfl | rfl
    ·exact ⟨kK hF hi h21 h22 h24, fun v hv => hv.plain hF hi h23 h22 h24⟩
    ·exact ⟨rO hF hi (.inr h20), fun v hv => hv.jump hF hi (.inr h20)⟩
   ·split at hq
    ·cases hq
    ·rw [aq] at hq
     subst hq
     exact ⟨kK hF hi h21 h22 h24, fun v hv => hv.plain hF hi h23 h22 h24⟩
 refine ⟨q, rs, ⟨e1, hql, ?_, by rw [hlps.1]; exact hO.lps, by rw [e3]; exact hO.rds, hO.rnd, ?_⟩, qu hF hi (xw hq) hO.lps⟩
 ·rw [hR.stk.nx i hi q hq]
  exact e2
 ·obtain ⟨v, v1, v2⟩ := hO.held
  exact ⟨v, e4.trans v1, hlps.2 v v2⟩
theorem IJ {l : List cZ} {m h : List Int} {st : List ByteArray} (hR : Row l m h st) {s : MS} {i : Nat} {rs : List (Nat × Int)} (hO : Ok l m st s i rs) (mem : dN) (h25 : opAt l i ≠ 25) : NextI l m st i rs (eC (l.getD i (0, 0, 0)) (m.getD i 0) s mem) := by
 have hi := hO.lt
 have hF := hR.fine
 have hr := hF.right hi
 have hok := hR.stk.ok i hi
 have hp := hO.place
 have hv := (zx (o := (l.getD i (0, 0, 0)).1) (A := (l.getD i (0, 0, 0)).2.1) (B := (l.getD i (0, 0, 0)).2.2) (S := s) (mem := mem) hr hok hO.vt).1
 have hx : l.getD i (0, 0, 0) = (opAt l i, dd l i, (l.getD i (0, 0, 0)).2.2) := rfl
 have hstk : VT (dt (l.getD i (0, 0, 0)) (np st i)).1 (eC (l.getD i (0, 0, 0)) (m.getD i 0) s mem).stk := hv
 have hrds : opAt l i ≠ 21 → opAt l i ≠ 22 → (eC (l.getD i (0, 0, 0)) (m.getD i 0) s mem).rds = s.rds := fun h1 h2 => by
  show f8 _ _ = _
  unfold f8
  rw [if_neg h1, if_neg h2]
 have hheld : opAt l i ≠ 23 → opAt l i ≠ 24 → (eC (l.getD i (0, 0, 0)) (m.getD i 0) s mem).held = s.held := fun h1 h2 => by
  show (if _ then _ else if _ then _ else _) = _
  rw [if_neg h1, if_neg h2]
 have hon : opAt l i ≠ 19 → opAt l i ≠ 20 → opAt l i ≠ 22 → (eC (l.getD i (0, 0, 0)) (m.getD i 0) s mem).at_ = ((i + 1 : Nat) : Int) := fun h1 h2 h3 => by
  show ee _ _ _ = _
  unfold ee
  rw [if_neg h1, if_neg h2, if_neg h3, hp]
  rfl
 by_cases h22 : opAt l i = 22
 ·obtain ⟨k, a1, a2, a3, a4, a5, a6, a7⟩ := oJ hF hi h22
  obtain ⟨k', b1, b2, b3⟩ : ∃ k' : Nat, m.getD i 0 = (k' : Int) ∧ (∀ v, HeldB l m i v → HeldB l m (k' + 1) v) ∧ (∀ v, HeldB l m i v → HeldB l m (i + 1) v) := by
   refine ⟨k, a1, fun v hv => ?_, fun v hv => ?_⟩
   ·obtain ⟨k2, c1, c2, c3⟩ := hv.next hF hi h22
    have : k = k2 := by rw [a1] at c1; omega
    rw [this]; exact c2
   ·obtain ⟨k2, c1, c2, c3⟩ := hv.next hF hi h22
    exact c3
  have hkk : k = k' := by rw [a1] at b1; omega
  subst hkk
  obtain ⟨v, v1, v2⟩ := hO.held
  have e := hO.lps
  rw [a5] at e
  obtain ⟨rs0, rs1, e1, e2, e3⟩ := List.map_eq_append_iff.1 e
  obtain ⟨q, e4, e5⟩ := List.map_eq_singleton_iff.1 e3
  obtain ⟨qk, qr⟩ := q
  simp only at e5
  subst e5
  subst e4
  subst e1
  have hsr : s.rds = rs0.map (·.2) ++ [qr] := by rw [hO.rds]; simp
  have hb := hO.rnd (qk, qr) (by simp)
  have hph := Dv hF hi a2 a3 a4 a5 e2 (r := qr)
  have hst22 := hR.stk.nt i hi h22
  rw [a1, ai] at hst22
  -- the types ahead of the loop's first instruction are those of its Next
  have hgo : np st (qk + 1) = (dt (l.getD qk (0, 0, 0)) (np st i)).1 := by
   rw [hR.stk.nx qk (by omega) (qk + 1) (fU (by rw [a3]; decide) (by rw [a3]; decide)), hst22]
  have hx22 : l.getD i (0, 0, 0) = (22, dd l i, (l.getD i (0, 0, 0)).2.2) := by rw [← h22]
  have hst : (eC (l.getD i (0, 0, 0)) (m.getD i 0) s mem).stk = s.stk := by
   have e : ∀ A B, fI (22, A, B) s mem = s.stk := fun A B => by kernel_rfl
   show fI (l.getD i (0, 0, 0)) s mem = _
   rw [hx22, e]
  by_cases hq : qr - 1 > 0
  ·refine ⟨qk + 1, rs0 ++ [(qk, qr - 1)], ⟨?_, by omega, ?_, ?_, ?_, ?_, v, (hheld (by omega) (by omega)).trans v1, b2 v v2⟩, hph.1⟩
   ·show ee _ _ _ = _
    unfold ee
    rw [if_neg (show ¬ opAt l i = 19 by omega), if_neg (show ¬ opAt l i = 20 by omega), if_pos h22, hsr, fH, if_pos hq, a1]
    rfl
   ·rw [hst, hgo]
    have hr2 := hF.right (show qk < l.length by omega)
    have hok2 := hR.stk.ok qk (by omega)
    rw [hst22] at hok2
    exact Gp (o := (l.getD qk (0, 0, 0)).1) (A := (l.getD qk (0, 0, 0)).2.1) (B := (l.getD qk (0, 0, 0)).2.2) hok2 hO.vt (.inr (.inl a3))
   ·rw [a6]; simp [e2]
   ·show f8 _ _ = _
    unfold f8
    rw [if_neg (show ¬ opAt l i = 21 by omega), if_pos h22, hsr, fH, gH, if_pos hq]
    simp
   ·intro e he
    rw [aA, aq] at he
    rcases he with he | he
    ·exact hO.rnd e (ba _ he)
    ·subst he
     exact ⟨by show 1 ≤ qr - 1; omega, by have := hb.2; show qr - 1 ≤ dd l qk; simp only at this; omega⟩
  ·have hq1 : qr = 1 := by have := hb.1; simp only at this; omega
   have hnx := fU (l := l) (i := i) (by omega) h25
   refine ⟨i + 1, rs0, ⟨?_, hF.next hi _ hnx, ?_, ?_, ?_, fun e he => hO.rnd e (ba _ he), v, (hheld (by omega) (by omega)).trans v1, b3 v v2⟩, hph.2 hq1⟩
   ·show ee _ _ _ = _
    unfold ee
    rw [if_neg (show ¬ opAt l i = 19 by omega), if_neg (show ¬ opAt l i = 20 by omega), if_pos h22, hsr, fH, if_neg hq, hp]
    rfl
   ·rw [hR.stk.nx i hi _ hnx]
    exact hstk
   ·rw [a7]; exact e2
   ·show f8 _ _ = _
    unfold f8
    rw [if_neg (show ¬ opAt l i = 21 by omega), if_pos h22, hsr, fH, gH, if_neg hq]
 by_cases h21 : opAt l i = 21
 ·have hnx := fU (l := l) (i := i) (by omega) h25
  obtain ⟨v, v1, v2⟩ := hO.held
  refine ⟨i + 1, rs ++ [(i, dd l i)], ⟨hon (by omega) (by omega) h22, hF.next hi _ hnx, ?_, ?_, ?_, ?_, v, (hheld (by omega) (by omega)).trans v1, v2.plain hF hi (by omega) h22 (by omega)⟩, Du hF hi hO.lps⟩
  ·rw [hR.stk.nx i hi _ hnx]; exact hstk
  ·rw [rP hF hi h21]; simp [hO.lps]
  ·show f8 _ _ = _
   unfold f8
   rw [if_pos h21, hO.rds, cz]
   rfl
  ·intro e he
   rw [aA, aq] at he
   rcases he with he | he
   ·exact hO.rnd e he
   ·subst he
    exact ⟨(yK hr h21).1, bi _⟩
 by_cases h23 : opAt l i = 23
 ·have hnx := fU (l := l) (i := i) (by omega) h25
  obtain ⟨v, v1, v2⟩ := hO.held
  obtain ⟨a, ha, ha7⟩ := rK hr (.inl h23)
  refine ⟨i + 1, rs, ⟨hon (by omega) (by omega) h22, hF.next hi _ hnx, ?_, ?_, ?_, hO.rnd, v ||| 2 ^ a, ?_, v2.lockS hF hi h23 ha ha7⟩, qu hF hi (by omega) hO.lps⟩
  ·rw [hR.stk.nx i hi _ hnx]; exact hstk
  ·rw [kK hF hi h21 h22 (by omega)]; exact hO.lps
  ·rw [hrds h21 h22]; exact hO.rds
  ·show (if _ then _ else if _ then _ else _) = _
   rw [if_pos h23, v1]
   show bits .or .i64 (v : Int) (l8 (dd l i)) = _
   rw [vG ha ha7]
   exact Df v (2 ^ a) v2.1 (by have := Nat.pow_lt_pow_right (a := 2) (by omega) (show a < 8 by omega); omega)
 by_cases h24 : opAt l i = 24
 ·have hnx := fU (l := l) (i := i) (by omega) h25
  obtain ⟨v, v1, v2⟩ := hO.held
  have h0 := m9 (o := (l.getD i (0, 0, 0)).1) (A := (l.getD i (0, 0, 0)).2.1) (B := (l.getD i (0, 0, 0)).2.2) (by rw [show (l.getD i (0, 0, 0)).1 = 24 from h24]; omega) hr
  obtain ⟨a, ha, ha7⟩ : ∃ a : Nat, dd l i = (a : Int) ∧ a ≤ 7 := ⟨(dd l i).toNat, by unfold dd; omega, by unfold dd; omega⟩
  obtain ⟨w, w1, w2, w3⟩ := AJ v a v2.1 ha7
  refine ⟨i + 1, rs, ⟨hon (by omega) (by omega) h22, hF.next hi _ hnx, ?_, ?_, ?_, hO.rnd, w, ?_, v2.unlock hF hR.rise hi h24 ha w2 w3⟩, qu hF hi (by omega) hO.lps⟩
  ·rw [hR.stk.nx i hi _ hnx]; exact hstk
  ·rw [yI hF hi h24]; exact hO.lps
  ·rw [hrds h21 h22]; exact hO.rds
  ·show (if _ then _ else if _ then _ else _) = _
   rw [if_neg h23, if_pos h24, v1]
   show bits .andNot .i64 (v : Int) (l8 (dd l i)) = _
   rw [vG ha ha7]
   exact w1
 have key := fun {q : Nat} (hq : q ∈ dA l i) (e1 : (eC (l.getD i (0, 0, 0)) (m.getD i 0) s mem).at_ = (q : Int)) => K1 hR hO h21 h22 h23 h24 hq e1 hstk (hrds h21 h22) (hheld h23 h24)
 by_cases h19 : opAt l i = 19
 ·have hj := oE (o := (l.getD i (0, 0, 0)).1) (A := (l.getD i (0, 0, 0)).2.1) (B := (l.getD i (0, 0, 0)).2.2) (.inl h19) hr
  refine key (q := dp l i) (by unfold dA; rw [if_pos h19]; exact aq.2 rfl) ?_
  show ee _ _ _ = _
  unfold ee dp
  rw [if_pos h19, hp]
  omega
 by_cases h20 : opAt l i = 20
 ·have hj := oE (o := (l.getD i (0, 0, 0)).1) (A := (l.getD i (0, 0, 0)).2.1) (B := (l.getD i (0, 0, 0)).2.2) (.inr h20) hr
  by_cases hz : pv s.stk = 0
  ·refine key (q := dp l i) (by unfold dA; rw [if_neg h19, if_pos h20]; simp) ?_
   show ee _ _ _ = _
   unfold ee dp
   rw [if_neg h19, if_pos h20, if_pos hz, hp]
   omega
  ·refine key (q := i + 1) (by unfold dA; rw [if_neg h19, if_pos h20]; simp) ?_
   show ee _ _ _ = _
   unfold ee
   rw [if_neg h19, if_pos h20, if_neg hz, hp]
   rfl
 ·exact key (q := i + 1) (fU h19 h25) (hon h19 h20 h22)
structure Meas (b : Int → Int → Int) (P : Int → Int → Prop) (Q : Int → Int → Int → Prop) : Prop where
 bet : uF b
 zero : P 0 0
 one : ∀ t v, 0 ≤ t → 0 ≤ v ∧ v ≤ 1048577 → P t v → P (t + 1) (dV v 1)
 none_ : ∀ w, Q 0 0 w
 round : ∀ c n w t, 0 ≤ c → 0 ≤ n → 0 ≤ t → 0 ≤ w ∧ w ≤ 1048577 → Q c n w → P t w → Q (c + t + 1) (n + 1) w
 loop : ∀ t v c w A, 0 ≤ t → 0 ≤ v ∧ v ≤ 1048577 → 0 ≤ c → 0 ≤ w ∧ w ≤ 1048577 → 1 ≤ A → P t v → Q c A w → P (t + 1 + c) (dV v (fE w A))
 put : ∀ (D : Nat → Int) (k : Nat) (v t : Int), 0 ≤ v ∧ v ≤ 1048577 → (∀ j, StepsI (D j)) → P t v → P t (eJ b D k v k)
 keep : ∀ (D : Nat → Int) (q k : Nat) (v t : Int), 0 ≤ v ∧ v ≤ 1048577 → (∀ j, StepsI (D j)) → D k ≠ -1 → P t (D k) → P t (eJ b D q v k)
def sw (t v : Int) : Prop := fD t ≤ v
def IL (c n w : Int) : Prop := w + 1 < 1048577 → c ≤ n * (w + 1)
theorem L9 (v : Int) : fD v ≤ 1048577 := by unfold fD; split <;> omega
theorem IM {a b : Int} (h : a ≤ b) : fD a ≤ fD b := by unfold fD; split <;> split <;> omega
theorem zy : Meas bM sw IL where
 bet := mY
 zero := by unfold sw fD; decide
 one := fun t v ht hv h => by unfold sw fD at *; unfold dV; split at h <;> split <;> split <;> omega
 none_ := fun w => by intro h; simp
 round := fun c n w t hc hn ht hw h1 h2 => by
  intro h
  have h3 := h1 h
  unfold sw fD at h2
  rw [Int.add_mul, Int.one_mul]
  split at h2 <;> omega
 loop := fun t v c w A ht hv hc hw hA h1 h2 => by
  unfold sw at *
  have hp : 0 ≤ A * (w + 1) := cn (by omega) (by omega)
  by_cases hs : w + 1 < 1048577
  ·have h3 := h2 hs
   have e : fE w A = fD (1 + A * (w + 1)) := by
    have := uP hw.1 hA
    rw [show fD w = w by unfold fD; rw [if_neg (by omega)]] at this
    exact this
   rw [e]
   have h4 : fD (t + 1 + c) ≤ dV (fD t) (fD (1 + A * (w + 1))) := by
    rw [KW ht (by omega)]
    exact IM (by omega)
   refine Int.le_trans h4 (Fc h1 (bi _))
  ·have e : fE w A = 1048577 := by
    unfold fE dV
    rw [if_pos (by split <;> omega)]
   rw [e]
   have := L9 (t + 1 + c)
   unfold dV
   split <;> omega
 put := fun D k v t hv hD h => by
  unfold sw eJ at *
  rw [if_pos rfl]
  split
  ·exact h
  ·unfold bM
   split <;> omega
 keep := fun D q k v t hv hD hk h => by
  unfold sw eJ at *
  split
  ·rename_i e
   subst e
   rw [if_neg hk]
   unfold bM
   split <;> omega
  ·exact h
abbrev Dw (b : Int → Int → Int) (l : List cZ) (m : List Int) (f a z : Nat) : Nat → Int := fm b (em b l m f) l m (z - a) a (gG a)
theorem uQ {b : Int → Int → Int} {P : Int → Int → Prop} {Q : Int → Int → Int → Prop} (hM : Meas b P Q) {v t : Int} (hv : 0 ≤ v ∧ v ≤ 1048577) : ∀ (ks : List Nat) {D : Nat → Int} {k : Nat}, (∀ j, StepsI (D j)) → D k ≠ -1 → P t (D k) → P t (ks.foldl (fun g k => eJ b g k v) D k)
 | [], D, k, _, _, h => h
 | q :: ks, D, k, hD, hk, h => by
  refine uQ hM hv ks (D := eJ b D q v) (nR hM.bet hD q hv) ?_ (hM.keep D q k v t hv hD hk h)
  exact jm hM.bet (by omega) [q] (.inl hk)
theorem Fh {b : Int → Int → Int} {P : Int → Int → Prop} {Q : Int → Int → Int → Prop} (hM : Meas b P Q) {v t : Int} (hv : 0 ≤ v ∧ v ≤ 1048577) (h : P t v) : ∀ (ks : List Nat) {D : Nat → Int} {k : Nat}, (∀ j, StepsI (D j)) → k ∈ ks → P t (ks.foldl (fun g k => eJ b g k v) D k)
 | q :: ks, D, k, hD, hk => by
  by_cases e : k = q
  ·subst e
   refine uQ hM hv ks (D := eJ b D k v) (nR hM.bet hD k hv) ?_ (hM.put D k v t hv hD h)
   exact jm hM.bet (by omega) [k] (.inr (aD ..))
  ·exact Fh hM hv h ks (D := eJ b D q v) (nR hM.bet hD q hv) ((az.1 hk).resolve_left e)
theorem IN {b : Int → Int → Int} {P : Int → Int → Prop} {Q : Int → Int → Int → Prop} (hM : Meas b P Q) {W : Nat → Nat → Int} {l : List cZ} {m : List Int} {i : Nat} {D : Nat → Int} (hD : ∀ k, StepsI (D k)) (hr : dg (l.getD i (0, 0, 0)) = true) (hW : opAt l i = 21 → StepsI (W (i + 1) (mN m i))) {k : Nat} {t : Int} (hk : D k ≠ -1) (h : P t (D k)) : eX b W l m i D k ≠ -1 ∧ P t (eX b W l m i D k) := by
 unfold eX
 split
 ·exact ⟨hk, h⟩
 ·rename_i hi
  have hDi := (hD i).nn hi
  have hv := iK hDi.1 (ko hr hW).1
  exact ⟨jm hM.bet (by omega) _ (.inl hk), uQ hM hv _ hD hk h⟩
theorem Dx {b : Int → Int → Int} {P : Int → Int → Prop} {Q : Int → Int → Int → Prop} (hM : Meas b P Q) {W : Nat → Nat → Int} {l : List cZ} {m : List Int} (hr : ∀ i, i < l.length → dg (l.getD i (0, 0, 0)) = true) : ∀ (r i : Nat) {D : Nat → Int} {k : Nat} {t : Int}, (∀ k, StepsI (D k)) → r + i ≤ l.length → (∀ k, i ≤ k → k < r + i → opAt l k = 21 → StepsI (W (k + 1) (mN m k))) → D k ≠ -1 → P t (D k) → fm b W l m r i D k ≠ -1 ∧ P t (fm b W l m r i D k)
 | 0, i, D, k, t, hD, hl, hW, hk, h => ⟨hk, h⟩
 | r + 1, i, D, k, t, hD, hl, hW, hk, h => by
  have h1 := IN hM hD (hr i (by omega)) (hW i (ak _) (by omega)) hk h
  exact Dx hM hr r (i + 1) (kp hM.bet hD (hr i (by omega)) (hW i (ak _) (by omega))) (by omega) (fun k h1 h2 => hW k (by omega) (by omega)) h1.1 h1.2
theorem rS {b : Int → Int → Int} {v : Int} {k : Nat} : ∀ (ks : List Nat) {D : Nat → Int}, (∀ q ∈ ks, q ≠ k) → ks.foldl (fun g k => eJ b g k v) D k = D k
 | [], D, h => rfl
 | q :: ks, D, h => by
  refine (rS ks (D := eJ b D q v) fun p hp => h p (ay _ hp)).trans ?_
  unfold eJ
  rw [if_neg (fun e => h q (aD ..) e.symm)]
theorem zA {b : Int → Int → Int} {W : Nat → Nat → Int} {l : List cZ} {m : List Int} {a z : Nat} (hR : Reg l m a z) : ∀ (r i : Nat) {D : Nat → Int} {k : Nat}, a ≤ i → i + r ≤ z → k ≤ i → fm b W l m r i D k = D k
 | 0, i, D, k, _, _, _ => rfl
 | r + 1, i, D, k, ha, hz, hk => by
  show fm b W l m r (i + 1) (eX b W l m i D) k = D k
  rw [zA hR r (i + 1) (by omega) (by omega) (by omega)]
  unfold eX
  split
  ·rfl
  ·exact rS _ fun q hq e => by have := (hR.hop ha (by omega)).2 q hq; omega
theorem Dy {b : Int → Int → Int} {P : Int → Int → Prop} {Q : Int → Int → Int → Prop} (hM : Meas b P Q) {l : List cZ} {m h : List Int} (hF : Fine l m h) (f : Nat) {a z : Nat} (hR : Reg l m a z) {i q : Nat} (ha : a ≤ i) (hz : i < z) (hq : q ∈ gp l m i) (hDi : Dw b l m f a z i ≠ -1) {t : Int} (ht : P t (dV (Dw b l m f a z i) (fJ (em b l m f) l m i))) :
  Dw b l m f a z q ≠ -1 ∧ P t (Dw b l m f a z q) := by
 have hlt := hR.lt
 have hrr : ∀ i, i < l.length → dg (l.getD i (0, 0, 0)) = true := fun i hi => hF.right hi
 have hWk : ∀ k, a ≤ k → k < z → opAt l k = 21 → StepsI (em b l m f (k + 1) (mN m k)) := fun k k1 k2 k3 => ic hM.bet hF f (hF.reg (by omega) (isOpen_iff.2 (.inl k3)))
 have e : ∀ k, Dw b l m f a z k = fm b (em b l m f) l m (z - i - 1) (i + 1) (eX b (em b l m f) l m i (fm b (em b l m f) l m (i - a) a (gG a))) k := fun k => by
  unfold Dw
  rw [show z - a = (i - a) + ((z - i - 1) + 1) by omega, Ds, show a + (i - a) = i by omega]
  rfl
 have hD0 := qp hM.bet hrr (W := em b l m f) (m := m) (i - a) a (ii a) (by omega) (fun k k1 k2 k3 => hWk k k1 (by omega) k3)
 have ei : Dw b l m f a z i = fm b (em b l m f) l m (i - a) a (gG a) i := by
  rw [e i, zA hR (z - i - 1) (i + 1) (by omega) (by omega) (by omega)]
  unfold eX
  split
  ·rfl
  ·exact rS _ fun q hq e => by have := (hR.hop ha hz).2 q hq; omega
 rw [ei] at hDi ht
 have hDn := (hD0 i).nn hDi
 have hc := ko (W := em b l m f) (m := m) (hrr i (by omega)) (fun h21 => hWk i ha hz h21)
 have hv := iK hDn.1 hc.1
 have hst : eX b (em b l m f) l m i (fm b (em b l m f) l m (i - a) a (gG a)) q ≠ -1 ∧ P t (eX b (em b l m f) l m i (fm b (em b l m f) l m (i - a) a (gG a)) q) := by
  unfold eX
  rw [if_neg hDi]
  exact ⟨jm hM.bet (by omega) _ (.inr hq), Fh hM hv ht _ hD0 hq⟩
 rw [e q]
 exact Dx hM hrr (z - i - 1) (i + 1) (kp hM.bet hD0 (hrr i (by omega)) (fun h21 => hWk i ha hz h21)) (by omega) (fun k k1 k2 k3 => hWk k (by omega) (by omega) k3) hst.1 hst.2
theorem md {b : Int → Int → Int} {l : List cZ} {m : List Int} (f : Nat) {a z : Nat} (hR : Reg l m a z) : Dw b l m f a z a = 0 := by
 unfold Dw
 rw [zA hR (z - a) a (ak _) (by have := hR.le; omega) (ak _)]
 unfold gG
 rw [if_pos rfl]
def InvP (b : Int → Int → Int) (P : Int → Int → Prop) (Q : Int → Int → Int → Prop) (l : List cZ) (m : List Int) (f : Nat) : Nat → Nat → Nat → List (Nat × Int) → Int → Prop
 | a, z, i, [], t => 0 ≤ t ∧ uI l m a z i ∧ Dw b l m f a z i ≠ -1 ∧ P t (Dw b l m f a z i)
 | a, z, i, (k, r) :: rs, t => ∃ t0 c t1, t = t0 + 1 + c + t1 ∧ 0 ≤ t0 ∧ 0 ≤ c ∧ uI l m a z k ∧ k < z ∧ opAt l k = 21 ∧ Dw b l m f a z k ≠ -1 ∧ P t0 (Dw b l m f a z k) ∧ r ≤ dd l k ∧ Q c (dd l k - r) (em b l m f (k + 1) (mN m k)) ∧ InvP b P Q l m f (k + 1) (mN m k) i rs t1
theorem InvP.nn {b : Int → Int → Int} {P : Int → Int → Prop} {Q : Int → Int → Int → Prop} {l : List cZ} {m : List Int} {f : Nat} : ∀ {rs : List (Nat × Int)} {a z i : Nat} {t : Int}, InvP b P Q l m f a z i rs t → 0 ≤ t
 | [], a, z, i, t, h => h.1
 | (k, r) :: rs, a, z, i, t, ⟨t0, c, t1, e, h1, h2, _, _, _, _, _, _, _, h⟩ => by
  have := InvP.nn h
  omega
theorem InvP.in_ {b : Int → Int → Int} {P : Int → Int → Prop} {Q : Int → Int → Int → Prop} {l : List cZ} {m h : List Int} (hF : Fine l m h) {f : Nat} : ∀ {rs : List (Nat × Int)} {a z i : Nat} {t : Int}, Reg l m a z → InvP b P Q l m f a z i rs t → a ≤ i ∧ i ≤ z
 | [], a, z, i, t, hR, hI => ⟨hI.2.1.1, hI.2.1.2.1⟩
 | (k, r) :: rs, a, z, i, t, hR, ⟨t0, c, t1, e, h1, h2, h3, h4, h5, _, _, _, _, hI⟩ => by
  have := hR.lt
  have hRk := hF.reg (show k < l.length by omega) (isOpen_iff.2 (.inl h5))
  obtain ⟨j, j1, j2, j3⟩ := hR.loop k h3.1 h4 (isOpen_iff.2 (.inl h5))
  have e2 : mN m k = j := by unfold mN; rw [j1]; rfl
  have := InvP.in_ hF hRk hI
  have := h3.1
  omega
theorem oL {l : List cZ} {m h : List Int} (hF : Fine l m h) {k : Nat} (hk : k < l.length) (ho : dj l k = true) : ∃ j : Nat, m.getD k 0 = (j : Int) ∧ mN m k = j ∧ k < j ∧ j < l.length ∧ m.getD j 0 = (k : Int) ∧ l.getD j (0, 0, 0) = ends (l.getD k (0, 0, 0)) := by
 obtain ⟨j, j1, j2, j3, j4, j5⟩ := hF.closed.op_ k hk ho
 exact ⟨j, j1, by unfold mN; rw [j1]; rfl, j2, j3, j5, j4⟩
theorem K3 {l : List cZ} {m h : List Int} (hF : Fine l m h) {a z : Nat} (hR : Reg l m a z) {i q : Nat} (hI : uI l m a z i) (hz : i < z) (h21 : opAt l i ≠ 21) (hq : q ∈ dA l i) : uI l m a z q ∧ q ∈ gp l m i := by
 have hlt := hR.lt
 have hq2 : q ∈ gp l m i := by
  unfold dA at hq
  unfold gp
  rw [if_neg h21]
  split at hq
  ·rename_i h; rw [if_pos h]; exact hq
  ·rename_i h
   rw [if_neg h]
   split at hq
   ·rename_i h2
    rw [if_pos h2]
    rw [az, aq] at hq
    rw [az, aq]
    exact hq.symm
   ·rename_i h2
    rw [if_neg h2]
    split at hq
    ·cases hq
    ·exact hq
 have hb := (hR.hop hI.1 hz).2 q hq2
 refine ⟨⟨by have := hI.1; omega, hb.2, fun p h1 h2 h3 => ?_⟩, hq2⟩
 rcases am p i with hp | hp
 ·have := hI.2.2 p h1 hp h3; omega
 ·by_cases e : p = i
  ·subst e; exact absurd h3 h21
  ·-- a jump over the beginning of a loop does not end in it
   have ho := isOpen_iff.2 (.inl h3)
   obtain ⟨j, j1, j2, j3, j4, j5, j6⟩ := oL hF (show p < l.length by omega) ho
   rw [j2]
   rcases am j q with hj | hj
   ·exact hj
   ·exfalso
    have hjmp : (opAt l i = 19 ∨ opAt l i = 20) ∧ q = dp l i := by
     unfold dA at hq
     split at hq
     ·rename_i h; exact ⟨.inl h, aq.1 hq⟩
     ·split at hq
      ·rename_i h2
       rw [az, aq] at hq
       rcases hq with h | h
       ·omega
       ·exact ⟨.inr h2, h⟩
      ·split at hq
       ·cases hq
       ·have := aq.1 hq; omega
    have e1 := hF.jump_enc (show i < l.length by omega) hjmp.1 p
    rw [← hjmp.2] at e1
    have e2 := (fi ho j1).2 (show p < q ∧ q ≤ j from ⟨h2, hj⟩)
    rw [e1] at e2
    have := (en e2).1
    omega
def IP (m : List Int) (z : Nat) : List (Nat × Int) → Nat
 | [] => z
 | (k, _) :: rs => IP m (mN m k) rs
theorem InvP.on {b : Int → Int → Int} {P : Int → Int → Prop} {Q : Int → Int → Int → Prop} (hM : Meas b P Q) {l : List cZ} {m h : List Int} (hF : Fine l m h) {f : Nat} : ∀ {rs : List (Nat × Int)} {a z i q : Nat} {t : Int}, Reg l m a z → InvP b P Q l m f a z i rs t → i < IP m z rs → opAt l i ≠ 21 → q ∈ dA l i → InvP b P Q l m f a z q rs (t + 1)
 | [], a, z, i, q, t, hR, ⟨h1, h2, h3, h4⟩, hz, h21, hq => by
  have hlt := hR.lt
  have hz2 : i < z := hz
  obtain ⟨r1, r2⟩ := K3 hF hR h2 hz2 h21 hq
  have hS := qp hM.bet (fun i hi => hF.right hi) (W := em b l m f) (m := m) (z - a) a (ii a) (by have := hR.le; omega) (fun k k1 k2 k3 => ic hM.bet hF f (hF.reg (by omega) (isOpen_iff.2 (.inl k3))))
  have hv := (hS i).nn h3
  have hc : fJ (em b l m f) l m i = 1 := by unfold fJ; rw [if_neg h21]
  obtain ⟨g1, g2⟩ := Dy hM hF f hR h2.1 hz2 r2 h3 (t := t + 1) (by rw [hc]; exact hM.one t _ h1 hv h4)
  exact ⟨by omega, r1, g1, g2⟩
 | (k, r) :: rs, a, z, i, q, t, hR, ⟨t0, c, t1, e, h1, h2, h3, h4, h5, h6, h7, h8, h9, hI⟩, hz, h21, hq => by
  have := hR.lt
  have hRk := hF.reg (show k < l.length by omega) (isOpen_iff.2 (.inl h5))
  exact ⟨t0, c, t1 + 1, by omega, h1, h2, h3, h4, h5, h6, h7, h8, h9, InvP.on hM hF hRk hI hz h21 hq⟩
theorem InvP.into {b : Int → Int → Int} {P : Int → Int → Prop} {Q : Int → Int → Int → Prop} (hM : Meas b P Q) {l : List cZ} {m h : List Int} (hF : Fine l m h) {f : Nat} : ∀ {rs : List (Nat × Int)} {a z i : Nat} {t : Int}, Reg l m a z → InvP b P Q l m f a z i rs t → i < IP m z rs → opAt l i = 21 → InvP b P Q l m f a z (i + 1) (rs ++ [(i, dd l i)]) (t + 1)
 | [], a, z, i, t, hR, ⟨h1, h2, h3, h4⟩, hz, h21 => by
  have hlt := hR.lt
  have hz2 : i < z := hz
  have hRk := hF.reg (show i < l.length by omega) (isOpen_iff.2 (.inl h21))
  refine ⟨t, 0, 0, by omega, h1, by omega, h2, hz2, h21, h3, h4, bi _, by rw [Int.sub_self]; exact hM.none_ _, by omega, ⟨ak _, hRk.le, fun q h1 h2 _ => by omega⟩, ?_, ?_⟩
  ·rw [md f hRk]; decide
  ·rw [md f hRk]; exact hM.zero
 | (k, r) :: rs, a, z, i, t, hR, ⟨t0, c, t1, e, h1, h2, h3, h4, h5, h6, h7, h8, h9, hI⟩, hz, h21 => by
  have := hR.lt
  have hRk := hF.reg (show k < l.length by omega) (isOpen_iff.2 (.inl h5))
  exact ⟨t0, c, t1 + 1, by omega, h1, h2, h3, h4, h5, h6, h7, h8, h9, InvP.into hM hF hRk hI hz h21⟩
theorem Dz {b : Int → Int → Int} {l : List cZ} {m h : List Int} (hF : Fine l m h) {f : Nat} (hf : l.length < f) {a z : Nat} (hR : Reg l m a z) : Dw b l m f a z z = em b l m f a z := by
 have h1 := hR.lt
 have := AH (b := b) hF (f + 1) f hR (by omega) (by omega)
 exact this
theorem yN {b : Int → Int → Int} {P : Int → Int → Prop} {Q : Int → Int → Int → Prop} (hM : Meas b P Q) {l : List cZ} {m h : List Int} (hF : Fine l m h) {f : Nat} (hf : l.length < f) : ∀ {rs : List (Nat × Int)} {a z i k : Nat} {r t : Int}, Reg l m a z → InvP b P Q l m f a z i (rs ++ [(k, r)]) t → i = mN m k → InvP b P Q l m f a z (k + 1) (rs ++ [(k, r - 1)]) (t + 1)
 | [], a, z, i, k, r, t, hR, ⟨t0, c, t1, e, h1, h2, h3, h4, h5, h6, h7, h8, h9, g1, g2, g3, g4⟩, hi => by
  have hlt := hR.lt
  have hRk := hF.reg (show k < l.length by omega) (isOpen_iff.2 (.inl h5))
  subst hi
  rw [Dz hF hf hRk] at g3 g4
  have hw := (ic hM.bet hF f hRk).nn g3
  refine ⟨t0, c + t1 + 1, 0, by omega, h1, by omega, h3, h4, h5, h6, h7, by omega, ?_, by omega, ⟨ak _, hRk.le, fun q h1 h2 _ => by omega⟩, ?_, ?_⟩
  ·have := hM.round c (dd l k - r) _ t1 h2 (by omega) g1 hw h9 g4
   rw [show dd l k - r + 1 = dd l k - (r - 1) by omega] at this
   exact this
  ·rw [md f hRk]; decide
  ·rw [md f hRk]; exact hM.zero
 | (k0, r0) :: rs, a, z, i, k, r, t, hR, ⟨t0, c, t1, e, h1, h2, h3, h4, h5, h6, h7, h8, h9, hI⟩, hi => by
  have := hR.lt
  have hRk := hF.reg (show k0 < l.length by omega) (isOpen_iff.2 (.inl h5))
  exact ⟨t0, c, t1 + 1, by omega, h1, h2, h3, h4, h5, h6, h7, h8, h9, yN hM hF hf hRk hI hi⟩
theorem InvP.out {b : Int → Int → Int} {P : Int → Int → Prop} {Q : Int → Int → Int → Prop} (hM : Meas b P Q) {l : List cZ} {m h : List Int} (hF : Fine l m h) {f : Nat} (hf : l.length < f) : ∀ {rs : List (Nat × Int)} {a z i k : Nat} {t : Int}, Reg l m a z → InvP b P Q l m f a z i (rs ++ [(k, 1)]) t → i = mN m k → InvP b P Q l m f a z (i + 1) rs (t + 1)
 | [], a, z, i, k, t, hR, ⟨t0, c, t1, e, h1, h2, h3, h4, h5, h6, h7, h8, h9, g1, g2, g3, g4⟩, hi => by
  have hlt := hR.lt
  have hRk := hF.reg (show k < l.length by omega) (isOpen_iff.2 (.inl h5))
  subst hi
  rw [Dz hF hf hRk] at g3 g4
  have hw := (ic hM.bet hF f hRk).nn g3
  have hA := yK (hF.right (show k < l.length by omega)) h5
  have hq := hM.round c (dd l k - 1) _ t1 h2 (by omega) g1 hw h9 g4
  rw [show dd l k - 1 + 1 = dd l k by omega] at hq
  have hS := qp hM.bet (fun i hi => hF.right hi) (W := em b l m f) (m := m) (z - a) a (ii a) (by have := hR.le; omega) (fun k k1 k2 k3 => ic hM.bet hF f (hF.reg (by omega) (isOpen_iff.2 (.inl k3))))
  have hv := (hS k).nn h6
  have hl := hM.loop t0 _ (c + t1 + 1) _ (dd l k) h1 hv (by omega) hw hA.1 h7 hq
  have hc : fJ (em b l m f) l m k = fE (em b l m f (k + 1) (mN m k)) (dd l k) := by unfold fJ; rw [if_pos h5]
  have hhop : mN m k + 1 ∈ gp l m k := by unfold gp; rw [if_pos h5]; exact aq.2 rfl
  obtain ⟨b1, b2⟩ := Dy hM hF f hR h3.1 h4 hhop h6 (t := t0 + 1 + (c + t1 + 1)) (by rw [hc]; exact hl)
  have hbz := (hR.hop h3.1 h4).2 _ hhop
  obtain ⟨j, j1, j2, j3, j4, j5, j6⟩ := oL hF (show k < l.length by omega) (isOpen_iff.2 (.inl h5))
  refine ⟨by omega, ⟨by have := h3.1; omega, hbz.2, fun p p1 p2 p3 => ?_⟩, b1, ?_⟩
  ·have hpo := isOpen_iff.2 (.inl p3)
   obtain ⟨jp, w1, w2, w3, w4, w5, w6⟩ := oL hF (show p < l.length by omega) hpo
   rcases Nat.lt_trichotomy p k with hp | hp | hp
   ·have := h3.2.2 p p1 hp p3; omega
   ·subst hp; omega
   ·have hpj : p ≠ j := fun e => by
     have := qn (l.getD k (0, 0, 0))
     rw [← j6, ← e] at this
     unfold opAt at p3
     rw [p3] at this
     rcases this with h | h <;> cases h
    obtain ⟨x, x1, x2⟩ := hF.nest.cross k p j hp (by omega) (by omega) (isOpen_iff.2 (.inl h5)) hpo j1
    rw [w1] at x1
    omega
  ·rw [e]
   rw [show t0 + 1 + c + t1 + 1 = t0 + 1 + (c + t1 + 1) by omega]
   exact b2
 | (k0, r0) :: rs, a, z, i, k, t, hR, ⟨t0, c, t1, e, h1, h2, h3, h4, h5, h6, h7, h8, h9, hI⟩, hi => by
  have := hR.lt
  have hRk := hF.reg (show k0 < l.length by omega) (isOpen_iff.2 (.inl h5))
  exact ⟨t0, c, t1 + 1, by omega, h1, h2, h3, h4, h5, h6, h7, h8, h9, InvP.out hM hF hf hRk hI hi⟩
theorem InvP.start {b : Int → Int → Int} {P : Int → Int → Prop} {Q : Int → Int → Int → Prop} (hM : Meas b P Q) {l : List cZ} {m : List Int} {f a z : Nat} (hR : Reg l m a z) : InvP b P Q l m f a z a [] 0 :=
 ⟨bi _, ⟨ak _, hR.le, fun q h1 h2 _ => by omega⟩, by rw [md f hR]; decide, by rw [md f hR]; exact hM.zero⟩
def IQ (l : List cZ) (m : List Int) (i : Nat) (rs : List (Nat × Int)) (q : Nat) (rs' : List (Nat × Int)) : Prop :=
 ∀ (b : Int → Int → Int) (P : Int → Int → Prop) (Q : Int → Int → Int → Prop) (f a z : Nat) (t : Int), Meas b P Q → l.length < f → Reg l m a z → InvP b P Q l m f a z i rs t → i ≠ z → InvP b P Q l m f a z q rs' (t + 1)
theorem DA {b : Int → Int → Int} {P : Int → Int → Prop} {Q : Int → Int → Int → Prop} {l : List cZ} {m h : List Int} (hF : Fine l m h) {f : Nat} : ∀ {rs : List (Nat × Int)} {a z i : Nat} {t : Int}, Reg l m a z → InvP b P Q l m f a z i rs t → i ≠ z → opAt l i ≠ 22 → i < IP m z rs
 | [], a, z, i, t, hR, hI, hz, h22 => by
  have := (InvP.in_ hF hR hI).2
  show i < z
  omega
 | (k, r) :: rs, a, z, i, t, hR, ⟨t0, c, t1, e, h1, h2, h3, h4, h5, h6, h7, h8, h9, hI⟩, hz, h22 => by
  have := hR.lt
  have hRk := hF.reg (show k < l.length by omega) (isOpen_iff.2 (.inl h5))
  show i < IP m (mN m k) rs
  refine DA hF hRk hI (fun e => h22 ?_) h22
  obtain ⟨j, j1, j2, j3, j4, j5, j6⟩ := oL hF (show k < l.length by omega) (isOpen_iff.2 (.inl h5))
  rw [j2] at e
  rw [e]
  unfold opAt
  rw [j6]
  unfold ends
  rw [if_pos h5]
theorem zB {l : List cZ} {m h : List Int} (hF : Fine l m h) {i q : Nat} {rs : List (Nat × Int)} (h21 : opAt l i ≠ 21) (h22 : opAt l i ≠ 22) (hq : q ∈ dA l i) : IQ l m i rs q rs :=
 fun b P Q f a z t hM hf hR hI hz => InvP.on hM hF hR hI (DA hF hR hI hz h22) h21 hq
theorem IR {l : List cZ} {m h : List Int} (hF : Fine l m h) {i : Nat} {rs : List (Nat × Int)} (h21 : opAt l i = 21) : IQ l m i rs (i + 1) (rs ++ [(i, dd l i)]) :=
 fun b P Q f a z t hM hf hR hI hz => InvP.into hM hF hR hI (DA hF hR hI hz (by rw [h21]; decide)) h21
theorem Gr {l : List cZ} {m h : List Int} (hF : Fine l m h) {i k : Nat} {r : Int} {rs : List (Nat × Int)} (hi : i = mN m k) : IQ l m i (rs ++ [(k, r)]) (k + 1) (rs ++ [(k, r - 1)]) :=
 fun b P Q f a z t hM hf hR hI hz => yN hM hF hf hR hI hi
theorem K4 {l : List cZ} {m h : List Int} (hF : Fine l m h) {i k : Nat} {rs : List (Nat × Int)} (hi : i = mN m k) : IQ l m i (rs ++ [(k, 1)]) (i + 1) rs :=
 fun b P Q f a z t hM hf hR hI hz => InvP.out hM hF hf hR hI hi
def Gs (l : List cZ) (m : List Int) (i q : Nat) : Prop := ∀ p, opAt l p = 23 → enc l m p q = true → (p = i ∧ opAt l i = 23) ∨ (enc l m p i = true ∧ i ≠ mN m p)
theorem xy {l : List cZ} {m h : List Int} (hF : Fine l m h) {p i : Nat} (hp : opAt l p = 23) (he : enc l m p i = true) (h24 : opAt l i ≠ 24) : i ≠ mN m p := by
 have ho := (en he).2
 obtain ⟨j, j1, j2, j3, j4, j5, j6⟩ := oL hF (fR ho) ho
 intro e
 rw [j2] at e
 subst e
 have h21 : ¬ (l.getD p (0, 0, 0)).1 = 21 := fun h => by unfold opAt at hp; rw [hp] at h; cases h
 unfold ends at j6
 rw [if_neg h21] at j6
 unfold opAt at h24
 rw [j6] at h24
 exact h24 rfl
theorem vH {l : List cZ} {m h : List Int} (hF : Fine l m h) {i q : Nat} (hi : i < l.length) (h22 : opAt l i ≠ 22) (hq : q ∈ dA l i) : Gs l m i q := fun p hp he => by
 by_cases h24 : opAt l i = 24
 ·obtain ⟨k0, a1, a2, a3, a4, a5, a6, a7⟩ := kJ hF hi (.inr h24)
  have hq1 : q = i + 1 := by
   unfold dA at hq
   rw [if_neg (by omega), if_neg (by omega), if_neg (by omega)] at hq
   exact aq.1 hq
  subst hq1
  rw [a7] at he
  refine .inr ⟨by rw [a6, he, Bool.or_true], fun e => ?_⟩
  have hpo := (en he).2
  obtain ⟨j, j1, j2, j3, j4, j5, j6⟩ := oL hF (fR hpo) hpo
  rw [j2] at e
  subst e
  rw [a1] at j5
  have : p = k0 := by omega
  subst this
  have := (en he).1
  omega
 ·have key : (p = i ∧ opAt l i = 23) ∨ enc l m p i = true := by
   have hsucc : q = i + 1 → (p = i ∧ opAt l i = 23) ∨ enc l m p i = true := fun e => by
    subst e
    rw [gN hF hi h22 h24, aE, aj, av] at he
    rcases he with ⟨h1, _⟩ | h1
    ·exact .inl ⟨h1, h1 ▸ hp⟩
    ·exact .inr h1
   unfold dA at hq
   split at hq
   ·rename_i h
    have := aq.1 hq
    subst this
    rw [hF.jump_enc hi (.inl h)] at he
    exact .inr he
   ·split at hq
    ·rename_i h
     rw [az, aq] at hq
     rcases hq with e | e
     ·exact hsucc e
     ·subst e
      rw [hF.jump_enc hi (.inr h)] at he
      exact .inr he
    ·split at hq
     ·cases hq
     ·exact hsucc (aq.1 hq)
  rcases key with h | h
  ·exact .inl h
  ·exact .inr ⟨h, xy hF hp h h24⟩
theorem AK {l : List cZ} {m h : List Int} (hF : Fine l m h) {i k : Nat} (hi : i < l.length) (h22 : opAt l i = 22) (hk : m.getD i 0 = (k : Int)) : Gs l m i (k + 1) ∧ Gs l m i (i + 1) := by
 obtain ⟨k0, a1, a2, a3, a4, a5, a6, a7⟩ := kJ hF hi (.inl h22)
 obtain ⟨k1, b1, b2, b3, b4, b5⟩ := oJ hF hi h22
 have e0 : k0 = k := by rw [a1] at hk; omega
 have e1 : k1 = k0 := by rw [a1] at b1; omega
 subst e0
 subst e1
 refine ⟨fun p hp he => ?_, fun p hp he => ?_⟩
 ·rw [gN hF (by omega) (by rw [b3]; decide) (by rw [b3]; decide), aE, aj, av] at he
  rcases he with ⟨h1, _⟩ | h1
  ·subst h1; rw [b3] at hp; cases hp
  ·have he2 : enc l m p i = true := by rw [a6, h1, Bool.or_true]
   exact .inr ⟨he2, xy hF hp he2 (by omega)⟩
 ·rw [a7] at he
  have he2 : enc l m p i = true := by rw [a6, he, Bool.or_true]
  exact .inr ⟨he2, xy hF hp he2 (by omega)⟩
structure NextG (l : List cZ) (m : List Int) (st : List ByteArray) (i : Nat) (rs : List (Nat × Int)) (s' : MS) : Prop where
 ex : ∃ q rs', Ok l m st s' q rs' ∧ nq l m q rs' + 1 ≤ nq l m i rs ∧ IQ l m i rs q rs' ∧ Gs l m i q
theorem IS {l : List cZ} {m h : List Int} {st : List ByteArray} (hR : Row l m h st) {s s' : MS} {i : Nat} {rs : List (Nat × Int)} (hO : Ok l m st s i rs) (h21 : opAt l i ≠ 21) (h22 : opAt l i ≠ 22) (h23 : opAt l i ≠ 23) (h24 : opAt l i ≠ 24) {q : Nat} (hq : q ∈ dA l i)
  (e1 : s'.at_ = (q : Int)) (e2 : VT (dt (l.getD i (0, 0, 0)) (np st i)).1 s'.stk) (e3 : s'.rds = s.rds) (e4 : s'.held = s.held) : NextG l m st i rs s' := by
 have hF := hR.fine
 have hi := hO.lt
 have hql := hF.next hi q hq
 have hlps : lps l m q = lps l m i ∧ ∀ v, HeldB l m i v → HeldB l m q v := by
  unfold dA at hq
  split at hq
  ·rename_i h19
   rw [aq] at hq
   subst hq
   exact ⟨rO hF hi (.inl h19), fun v hv => hv.jump hF hi (.inl h19)⟩
  ·split at hq
   ·rename_i h20
    rw [az, aq] at hq
    rcases hq with rfl | rfl
    ·exact ⟨kK hF hi h21 h22 h24, fun v hv => hv.plain hF hi h23 h22 h24⟩
    ·exact ⟨rO hF hi (.inr h20), fun v hv => hv.jump hF hi (.inr h20)⟩
   ·split at hq
    ·cases hq
    ·rw [aq] at hq
     subst hq
     exact ⟨kK hF hi h21 h22 h24, fun v hv => hv.plain hF hi h23 h22 h24⟩
 refine ⟨q, rs, ⟨e1, hql, ?_, by rw [hlps.1]; exact hO.lps, by rw [e3]; exact hO.rds, hO.rnd, ?_⟩, qu hF hi (xw hq) hO.lps, zB hF h21 h22 hq, vH hF hi h22 hq⟩
 ·rw [hR.stk.nx i hi q hq]
  exact e2
 ·obtain ⟨v, v1, v2⟩ := hO.held
  exact ⟨v, e4.trans v1, hlps.2 v v2⟩
theorem Fi {l : List cZ} {m h : List Int} {st : List ByteArray} (hR : Row l m h st) {s : MS} {i : Nat} {rs : List (Nat × Int)} (hO : Ok l m st s i rs) (mem : dN) (h25 : opAt l i ≠ 25) : NextG l m st i rs (eC (l.getD i (0, 0, 0)) (m.getD i 0) s mem) := by
 have hi := hO.lt
 have hF := hR.fine
 have hr := hF.right hi
 have hok := hR.stk.ok i hi
 have hp := hO.place
 have hv := (zx (o := (l.getD i (0, 0, 0)).1) (A := (l.getD i (0, 0, 0)).2.1) (B := (l.getD i (0, 0, 0)).2.2) (S := s) (mem := mem) hr hok hO.vt).1
 have hx : l.getD i (0, 0, 0) = (opAt l i, dd l i, (l.getD i (0, 0, 0)).2.2) := rfl
 have hstk : VT (dt (l.getD i (0, 0, 0)) (np st i)).1 (eC (l.getD i (0, 0, 0)) (m.getD i 0) s mem).stk := hv
 have hrds : opAt l i ≠ 21 → opAt l i ≠ 22 → (eC (l.getD i (0, 0, 0)) (m.getD i 0) s mem).rds = s.rds := fun h1 h2 => by
  show f8 _ _ = _
  unfold f8
  rw [if_neg h1, if_neg h2]
 have hheld : opAt l i ≠ 23 → opAt l i ≠ 24 → (eC (l.getD i (0, 0, 0)) (m.getD i 0) s mem).held = s.held := fun h1 h2 => by
  show (if _ then _ else if _ then _ else _) = _
  rw [if_neg h1, if_neg h2]
 have hon : opAt l i ≠ 19 → opAt l i ≠ 20 → opAt l i ≠ 22 → (eC (l.getD i (0, 0, 0)) (m.getD i 0) s mem).at_ = ((i + 1 : Nat) : Int) := fun h1 h2 h3 => by
  show ee _ _ _ = _
  unfold ee
  rw [if_neg h1, if_neg h2, if_neg h3, hp]
  rfl
 by_cases h22 : opAt l i = 22
 ·obtain ⟨k, a1, a2, a3, a4, a5, a6, a7⟩ := oJ hF hi h22
  obtain ⟨k', b1, b2, b3⟩ : ∃ k' : Nat, m.getD i 0 = (k' : Int) ∧ (∀ v, HeldB l m i v → HeldB l m (k' + 1) v) ∧ (∀ v, HeldB l m i v → HeldB l m (i + 1) v) := by
   refine ⟨k, a1, fun v hv => ?_, fun v hv => ?_⟩
   ·obtain ⟨k2, c1, c2, c3⟩ := hv.next hF hi h22
    have : k = k2 := by rw [a1] at c1; omega
    rw [this]; exact c2
   ·obtain ⟨k2, c1, c2, c3⟩ := hv.next hF hi h22
    exact c3
  have hkk : k = k' := by rw [a1] at b1; omega
  subst hkk
  obtain ⟨v, v1, v2⟩ := hO.held
  have e := hO.lps
  rw [a5] at e
  obtain ⟨rs0, rs1, e1, e2, e3⟩ := List.map_eq_append_iff.1 e
  obtain ⟨q, e4, e5⟩ := List.map_eq_singleton_iff.1 e3
  obtain ⟨qk, qr⟩ := q
  simp only at e5
  subst e5
  subst e4
  subst e1
  have hsr : s.rds = rs0.map (·.2) ++ [qr] := by rw [hO.rds]; simp
  have hb := hO.rnd (qk, qr) (by simp)
  have hph := Dv hF hi a2 a3 a4 a5 e2 (r := qr)
  have hgm : i = mN m qk := by unfold mN; rw [a4]; rfl
  have hst22 := hR.stk.nt i hi h22
  rw [a1, ai] at hst22
  -- the types ahead of the loop's first instruction are those of its Next
  have hgo : np st (qk + 1) = (dt (l.getD qk (0, 0, 0)) (np st i)).1 := by
   rw [hR.stk.nx qk (by omega) (qk + 1) (fU (by rw [a3]; decide) (by rw [a3]; decide)), hst22]
  have hx22 : l.getD i (0, 0, 0) = (22, dd l i, (l.getD i (0, 0, 0)).2.2) := by rw [← h22]
  have hst : (eC (l.getD i (0, 0, 0)) (m.getD i 0) s mem).stk = s.stk := by
   have e : ∀ A B, fI (22, A, B) s mem = s.stk := fun A B => by kernel_rfl
   show fI (l.getD i (0, 0, 0)) s mem = _
   rw [hx22, e]
  by_cases hq : qr - 1 > 0
  ·refine ⟨qk + 1, rs0 ++ [(qk, qr - 1)], ⟨?_, by omega, ?_, ?_, ?_, ?_, v, (hheld (by omega) (by omega)).trans v1, b2 v v2⟩, hph.1, Gr hF hgm, (AK hF hi h22 a1).1⟩
   ·show ee _ _ _ = _
    unfold ee
    rw [if_neg (show ¬ opAt l i = 19 by omega), if_neg (show ¬ opAt l i = 20 by omega), if_pos h22, hsr, fH, if_pos hq, a1]
    rfl
   ·rw [hst, hgo]
    have hr2 := hF.right (show qk < l.length by omega)
    have hok2 := hR.stk.ok qk (by omega)
    rw [hst22] at hok2
    exact Gp (o := (l.getD qk (0, 0, 0)).1) (A := (l.getD qk (0, 0, 0)).2.1) (B := (l.getD qk (0, 0, 0)).2.2) hok2 hO.vt (.inr (.inl a3))
   ·rw [a6]; simp [e2]
   ·show f8 _ _ = _
    unfold f8
    rw [if_neg (show ¬ opAt l i = 21 by omega), if_pos h22, hsr, fH, gH, if_pos hq]
    simp
   ·intro e he
    rw [aA, aq] at he
    rcases he with he | he
    ·exact hO.rnd e (ba _ he)
    ·subst he
     exact ⟨by show 1 ≤ qr - 1; omega, by have := hb.2; show qr - 1 ≤ dd l qk; simp only at this; omega⟩
  ·have hq1 : qr = 1 := by have := hb.1; simp only at this; omega
   have hnx := fU (l := l) (i := i) (by omega) h25
   refine ⟨i + 1, rs0, ⟨?_, hF.next hi _ hnx, ?_, ?_, ?_, fun e he => hO.rnd e (ba _ he), v, (hheld (by omega) (by omega)).trans v1, b3 v v2⟩, hph.2 hq1, by rw [hq1]; exact K4 hF hgm, (AK hF hi h22 a1).2⟩
   ·show ee _ _ _ = _
    unfold ee
    rw [if_neg (show ¬ opAt l i = 19 by omega), if_neg (show ¬ opAt l i = 20 by omega), if_pos h22, hsr, fH, if_neg hq, hp]
    rfl
   ·rw [hR.stk.nx i hi _ hnx]
    exact hstk
   ·rw [a7]; exact e2
   ·show f8 _ _ = _
    unfold f8
    rw [if_neg (show ¬ opAt l i = 21 by omega), if_pos h22, hsr, fH, gH, if_neg hq]
 by_cases h21 : opAt l i = 21
 ·have hnx := fU (l := l) (i := i) (by omega) h25
  obtain ⟨v, v1, v2⟩ := hO.held
  refine ⟨i + 1, rs ++ [(i, dd l i)], ⟨hon (by omega) (by omega) h22, hF.next hi _ hnx, ?_, ?_, ?_, ?_, v, (hheld (by omega) (by omega)).trans v1, v2.plain hF hi (by omega) h22 (by omega)⟩, Du hF hi hO.lps, IR hF h21, vH hF hi h22 hnx⟩
  ·rw [hR.stk.nx i hi _ hnx]; exact hstk
  ·rw [rP hF hi h21]; simp [hO.lps]
  ·show f8 _ _ = _
   unfold f8
   rw [if_pos h21, hO.rds, cz]
   rfl
  ·intro e he
   rw [aA, aq] at he
   rcases he with he | he
   ·exact hO.rnd e he
   ·subst he
    exact ⟨(yK hr h21).1, bi _⟩
 by_cases h23 : opAt l i = 23
 ·have hnx := fU (l := l) (i := i) (by omega) h25
  obtain ⟨v, v1, v2⟩ := hO.held
  obtain ⟨a, ha, ha7⟩ := rK hr (.inl h23)
  refine ⟨i + 1, rs, ⟨hon (by omega) (by omega) h22, hF.next hi _ hnx, ?_, ?_, ?_, hO.rnd, v ||| 2 ^ a, ?_, v2.lockS hF hi h23 ha ha7⟩, qu hF hi (by omega) hO.lps, zB hF h21 h22 hnx, vH hF hi h22 hnx⟩
  ·rw [hR.stk.nx i hi _ hnx]; exact hstk
  ·rw [kK hF hi h21 h22 (by omega)]; exact hO.lps
  ·rw [hrds h21 h22]; exact hO.rds
  ·show (if _ then _ else if _ then _ else _) = _
   rw [if_pos h23, v1]
   show bits .or .i64 (v : Int) (l8 (dd l i)) = _
   rw [vG ha ha7]
   exact Df v (2 ^ a) v2.1 (by have := Nat.pow_lt_pow_right (a := 2) (by omega) (show a < 8 by omega); omega)
 by_cases h24 : opAt l i = 24
 ·have hnx := fU (l := l) (i := i) (by omega) h25
  obtain ⟨v, v1, v2⟩ := hO.held
  have h0 := m9 (o := (l.getD i (0, 0, 0)).1) (A := (l.getD i (0, 0, 0)).2.1) (B := (l.getD i (0, 0, 0)).2.2) (by rw [show (l.getD i (0, 0, 0)).1 = 24 from h24]; omega) hr
  obtain ⟨a, ha, ha7⟩ : ∃ a : Nat, dd l i = (a : Int) ∧ a ≤ 7 := ⟨(dd l i).toNat, by unfold dd; omega, by unfold dd; omega⟩
  obtain ⟨w, w1, w2, w3⟩ := AJ v a v2.1 ha7
  refine ⟨i + 1, rs, ⟨hon (by omega) (by omega) h22, hF.next hi _ hnx, ?_, ?_, ?_, hO.rnd, w, ?_, v2.unlock hF hR.rise hi h24 ha w2 w3⟩, qu hF hi (by omega) hO.lps, zB hF h21 h22 hnx, vH hF hi h22 hnx⟩
  ·rw [hR.stk.nx i hi _ hnx]; exact hstk
  ·rw [yI hF hi h24]; exact hO.lps
  ·rw [hrds h21 h22]; exact hO.rds
  ·show (if _ then _ else if _ then _ else _) = _
   rw [if_neg h23, if_pos h24, v1]
   show bits .andNot .i64 (v : Int) (l8 (dd l i)) = _
   rw [vG ha ha7]
   exact w1
 have key := fun {q : Nat} (hq : q ∈ dA l i) (e1 : (eC (l.getD i (0, 0, 0)) (m.getD i 0) s mem).at_ = (q : Int)) => IS hR hO h21 h22 h23 h24 hq e1 hstk (hrds h21 h22) (hheld h23 h24)
 by_cases h19 : opAt l i = 19
 ·have hj := oE (o := (l.getD i (0, 0, 0)).1) (A := (l.getD i (0, 0, 0)).2.1) (B := (l.getD i (0, 0, 0)).2.2) (.inl h19) hr
  refine key (q := dp l i) (by unfold dA; rw [if_pos h19]; exact aq.2 rfl) ?_
  show ee _ _ _ = _
  unfold ee dp
  rw [if_pos h19, hp]
  omega
 by_cases h20 : opAt l i = 20
 ·have hj := oE (o := (l.getD i (0, 0, 0)).1) (A := (l.getD i (0, 0, 0)).2.1) (B := (l.getD i (0, 0, 0)).2.2) (.inr h20) hr
  by_cases hz : pv s.stk = 0
  ·refine key (q := dp l i) (by unfold dA; rw [if_neg h19, if_pos h20]; simp) ?_
   show ee _ _ _ = _
   unfold ee dp
   rw [if_neg h19, if_pos h20, if_pos hz, hp]
   omega
  ·refine key (q := i + 1) (by unfold dA; rw [if_neg h19, if_pos h20]; simp) ?_
   show ee _ _ _ = _
   unfold ee
   rw [if_neg h19, if_pos h20, if_neg hz, hp]
   rfl
 ·exact key (q := i + 1) (fU h19 h25) (hon h19 h20 h22)
theorem ly {X R : Type} {S : (X → Option R) → X → Option R} (Q : Nat → X → Prop) (P : R → Prop) (h0 : ∀ x, ¬ Q 0 x) (h : ∀ f x F, (∀ y, Q f y → ∃ r, F y = some r ∧ P r) → Q (f + 1) x → ∃ r, S F x = some r ∧ P r) : ∀ f x, Q f x → ∃ r, it S f x = some r ∧ P r
 | 0, x, hq => absurd hq (h0 x)
 | f + 1, x, hq => h f x (it S f) (ly Q P h0 h f) hq
abbrev z16 : List Int := [0, 0, 0, 0, 0, 0, 0, 0, 0, 0, 0, 0, 0, 0, 0, 0]
abbrev jn (ret inp : List Int) : MS := ⟨ret, 0, [], z8, inp, z16, 0, [], 0, 0, 0⟩
theorem DB {l : List cZ} {m h : List Int} {st : List ByteArray} (hR : Row l m h st) (ret inp : List Int) : Ok l m st (jn ret inp) 0 [] := by
 have hl := hR.fine.len
 refine ⟨rfl, by omega, ?_, rfl, rfl, (fun e he => by cases he), 0, rfl, by omega, fun b => ?_⟩
 ·rw [hR.stk.z]
  exact trivial
 ·rw [Nat.zero_testBit]
  exact ⟨(fun h => by cases h), fun ⟨k, k1, _⟩ => by have := (en k1).1; omega⟩
theorem K5 (n : Nat) {l : List cZ} (hl : 0 < l.length) (m ret inp : List Int) (at_ : Int) (stk loc inp2 out : List Int) (set : Int) (rds : List Int) (held flt stp : Int) :
  gD n inp l m ret false at_ stk loc inp2 out set rds held flt stp = some (0, l, m, ret, true, 0, [], z8, inp, z16, 0, [], 0, 0, 0) := by
 unfold gD
 rw [af (show (l.length : Int) > 0 by omega), if_neg (by decide), if_neg (by decide)]
theorem OF {l : List cZ} (h : l.length ≤ 200) : (decide (0 = 0) && decide (0 = 0) && decide (l.length * 24 ≤ 140737488355328) && decide (1 ≤ 24)) = true := by simp; omega
theorem Pw (a : List Int) (k : Nat) : Sh.eqT (.arr k (.int .i64)) a a = true := by
 show (List.range k).all (fun i => (a.getD i (0 : Int) == a.getD i 0)) = true
 rw [aN]
 intro i _
 exact bj _
def Gt (set : Int) (k : Nat) : Bool := bits .and .i64 (set.fdiv (2 ^ (min ((k : Int)).toNat 64))) 1 == 1
def nH (out : List Int) (set : Int) : Nat → Nat → List (Int × Int)
 | 0, _ => []
 | r + 1, k => (if Gt set k = true then [((k : Int), out.getD k 0)] else []) ++ nH out set r (k + 1)
def jD (out : List Int) (set : Int) : List (Int × Int) := nH out set 16 0
theorem Ma (n : Nat) (hn : 16 < n) (l : List cZ) (m ret : List Int) (on : Bool) (at_ : Int) (stk loc inp out : List Int) (set : Int) (rds : List Int) (held flt stp : Int) :
  yu n l m ret on at_ stk loc inp out set rds held flt stp = some (jD out set, l, m, ret, on, at_, stk, loc, inp, out, set, rds, held, flt, stp) := by
 unfold yu
 have key : ∃ r, un n ([], out, 0, l, m, ret, on, at_, stk, loc, inp, out, set, rds, held, flt, stp) = some r ∧ r = (jD out set, l, m, ret, on, at_, stk, loc, inp, out, set, rds, held, flt, stp) := by
  show ∃ r, it _ n _ = some r ∧ _
  refine ly (fun f x => ∃ (k : Nat) (o : List (Int × Int)), k ≤ 16 ∧ 16 < f + k ∧ o.length ≤ k ∧ o ++ nH out set (16 - k) k = jD out set ∧ x = (o, out, (k : Int), l, m, ret, on, at_, stk, loc, inp, out, set, rds, held, flt, stp)) _ (fun x ⟨k, o, h1, h2, _⟩ => by omega) ?_ n _ ⟨0, [], by omega, by omega, aB _, by unfold jD; rw [bG, bp], rfl⟩
  rintro f x F hF ⟨k, o, h1, h2, h3, h4, rfl⟩
  show ∃ r, vu n F o out (k : Int) l m ret on at_ stk loc inp out set rds held flt stp = some r ∧ _
  unfold vu
  rcases am k 16 with hk | hk
  ·rw [if_pos (af (by omega)), if_pos (by simp; omega), if_neg (by simp), dB (by omega)]
   rw [show 16 - k = (16 - (k + 1)) + 1 by omega] at h4
   unfold nH Gt at h4
   rw [ai] at h4
   rw [ai]
   by_cases hb : (bits .and .i64 (set.fdiv (2 ^ (min k 64))) 1 == 1) = true
   ·rw [if_pos hb, if_pos (by simp; omega)]
    rw [if_pos hb] at h4
    exact hF _ ⟨k + 1, _, by omega, by omega, by simp; omega, by rw [aI]; exact h4, rfl⟩
   ·rw [if_neg hb]
    rw [if_neg hb, bG] at h4
    exact hF _ ⟨k + 1, o, by omega, by omega, by omega, h4, rfl⟩
  ·have : k = 16 := by omega
   subst this
   rw [if_neg (by decide)]
   rw [bo] at h4
   unfold nH at h4
   rw [aG] at h4
   subst h4
   exact ⟨_, rfl, rfl⟩
 obtain ⟨r, e1, e2⟩ := key
 subst e2
 rw [e1]
 rfl
structure CS where
 on : Bool
 s : MS
 mem : dN
def d9 (l : List cZ) (m : List Int) (c : CS) : CS :=
 if c.on = true then ⟨decide ((l.getD c.s.at_.toNat (0, 0, 0)).1 ≠ 25), eC (l.getD c.s.at_.toNat (0, 0, 0)) (m.getD c.s.at_.toNat 0) c.s c.mem, l9 (l.getD c.s.at_.toNat (0, 0, 0)) c.s c.mem⟩ else c
def o9 (l : List cZ) (m : List Int) (st : List ByteArray) (c : CS) : Prop := c.on = true → ∃ i rs, Ok l m st c.s i rs
abbrev Qa (l : List cZ) (m : List Int) (c : CS) := KY l m c.on c.s c.mem
theorem yO {l : List cZ} {m h : List Int} {st : List ByteArray} (hR : Row l m h st) {c : CS} (hc : o9 l m st c) (n : Nat) : (∃ ev e, yM n l m c.on c.s c.mem = some (ev, e, Qa l m (d9 l m c))) ∧ o9 l m st (d9 l m c) := by
 obtain ⟨on, s, mem⟩ := c
 cases on with
 | false =>
  refine ⟨⟨(0, 0), 16, ?_⟩, fun h => by cases h⟩
  have hl := hR.fine.len
  unfold yM dE eB
  dsimp only
  rw [af (show (l.length : Int) > 0 by omega), if_neg (by decide), if_pos (by decide)]
  rfl
 | true =>
  obtain ⟨i, rs, hO⟩ := hc rfl
  have hp : s.at_ = (i : Int) := hO.place
  have e : s.at_.toNat = i := by rw [hp]; exact ai i
  have e1 : d9 l m ⟨true, s, mem⟩ = ⟨decide ((l.getD i (0, 0, 0)).1 ≠ 25), eC (l.getD i (0, 0, 0)) (m.getD i 0) s mem, l9 (l.getD i (0, 0, 0)) s mem⟩ := by
   unfold d9
   rw [if_pos rfl]
   dsimp only
   rw [e]
  rw [e1]
  refine ⟨⟨_, 0, L8 hR hO n mem⟩, fun h => ?_⟩
  have h25 : opAt l i ≠ 25 := aT h
  obtain ⟨q, rs', hq, _⟩ := (IJ hR hO mem h25).ex
  exact ⟨q, rs', hq⟩
def eD (l : List cZ) (m : List Int) : Nat → CS → CS
 | 0, c => c
 | k + 1, c => eD l m k (d9 l m c)
theorem AL {l : List cZ} {m : List Int} {c : CS} (h : c.on = false) : ∀ k, eD l m k c = c
 | 0 => rfl
 | k + 1 => by
  have e : d9 l m c = c := by unfold d9; rw [if_neg (by rw [h]; decide)]
  show eD l m k (d9 l m c) = c
  rw [e]
  exact AL h k
theorem AM {l : List cZ} {m : List Int} : ∀ (a b : Nat) (c : CS), eD l m (a + b) c = eD l m b (eD l m a c)
 | 0, b, c => by rw [bv]; rfl
 | a + 1, b, c => by
  rw [show a + 1 + b = (a + b) + 1 by omega]
  exact AM a b (d9 l m c)
theorem IT {l : List cZ} {m : List Int} (h : ∀ k, k < l.length → opAt l k ≠ 14) (c : CS) : (d9 l m c).s.ret = c.s.ret := by
 unfold d9
 split
 ·show (if _ then _ else _) = _
  rw [if_neg]
  rcases am c.s.at_.toNat l.length with hl | hl
  ·exact h _ hl
  ·rw [au, ce hl]
   decide
 ·rfl
theorem AN {l : List cZ} {m : List Int} (h : ∀ k, k < l.length → opAt l k ≠ 14) : ∀ k (c : CS), (eD l m k c).s.ret = c.s.ret
 | 0, c => rfl
 | k + 1, c => (AN h k (d9 l m c)).trans (IT h c)
theorem AO (out : List Int) (set : Int) : ∀ r k, (nH out set r k).length ≤ r
 | 0, k => ak _
 | r + 1, k => by
  have := AO out set r (k + 1)
  unfold nH
  rw [aF]
  split <;> simp <;> omega
theorem uR (out : List Int) (set : Int) : (jD out set).length ≤ 16 := AO out set 16 0
theorem K6 (n : Nat) {x : List (Int × Int)} (h : x.length ≤ 16) (hn : 16 < n) : uv n x = some x := by
 unfold uv
 have key : ∃ r, uu n (x, [], 0) = some r ∧ r = x := by
  show ∃ r, it _ n _ = some r ∧ _
  refine ly (fun f y => ∃ k : Nat, k ≤ x.length ∧ x.length < f + k ∧ y = (x, x.take k, (k : Int))) _ (fun y ⟨k, h1, h2, _⟩ => by omega) ?_ n _ ⟨0, by omega, by omega, rfl⟩
  rintro f y F hF ⟨k, h1, h2, rfl⟩
  show ∃ r, vw n F x (x.take k) (k : Int) = some r ∧ _
  unfold vw
  rcases am k x.length with hk | hk
  ·have e : x.take k ++ [((x.getD k (0, 0)).1, (x.getD k (0, 0)).2)] = x.take (k + 1) := by
    rw [List.take_add_one, ax hk, au, ax hk]
    rfl
   rw [if_pos (af (by omega)), if_pos (dc hk), if_pos (dc hk), if_pos (by simp; omega), dB (by omega), ai, e]
   exact hF _ ⟨k + 1, by omega, by omega, rfl⟩
  ·rw [if_neg (by simp; omega)]
   exact ⟨_, rfl, aW hk⟩
 obtain ⟨r, e1, e2⟩ := key
 subst e2
 first
  | exact e1
  | (rw [e1]; rfl)
theorem K7 (n : Nat) {x : List (Int × Int)} (h : x.length ≤ 16) (hn : 16 < n) : yx n x x = some true := by
 unfold yx
 have key : ∃ r, uy n (x, x, 0) = some r ∧ r = .inr ((), ()) := by
  show ∃ r, it _ n _ = some r ∧ _
  refine ly (fun f y => ∃ k : Nat, k ≤ x.length ∧ x.length < f + k ∧ y = (x, x, (k : Int))) _ (fun y ⟨k, h1, h2, _⟩ => by omega) ?_ n _ ⟨0, by omega, by omega, rfl⟩
  rintro f y F hF ⟨k, h1, h2, rfl⟩
  show ∃ r, vx n F x x (k : Int) = some r ∧ _
  unfold vx
  rcases am k x.length with hk | hk
  ·rw [if_pos (af (by omega)), if_pos (dc hk), if_pos (dc hk), bj, bj, if_neg (by decide), dB (by omega)]
   exact hF _ ⟨k + 1, by omega, by omega, rfl⟩
  ·rw [if_neg (by simp; omega)]
   exact ⟨_, rfl, rfl⟩
 obtain ⟨r, e1, e2⟩ := key
 subst e2
 rw [e1]
 simp
structure Within (l l' : List cZ) (m m' : List Int) (p a z : Nat) : Prop where
 ins : ∀ i, a ≤ i → i < z → l'.getD (i + p) (0, 0, 0) = l.getD i (0, 0, 0)
 mat : ∀ i, a ≤ i → i < z → opAt l i = 21 → mN m' (i + p) = mN m i + p
theorem Fine.mat {l : List cZ} {m h : List Int} (hF : Fine l m h) {i : Nat} (hi : i < l.length) (e : opAt l i = 21) : m.getD i 0 = ((mN m i : Nat) : Int) ∧ m.getD i 0 ≠ -1 := by
 obtain ⟨j, j1, j2, j3⟩ := hF.nest.open_ i hi (isOpen_iff.2 (.inl e))
 unfold mN
 rw [j1]
 exact ⟨rfl, by omega⟩
structure Both (a b c : List cZ) (p : Nat) (ma mb mc : List Int) : Prop where
 len : c.length = p + b.length
 pa : a.length = p + 1
 ia : ∀ i, i < p → c.getD i (0, 0, 0) = a.getD i (0, 0, 0)
 ib : ∀ i, i < b.length → c.getD (i + p) (0, 0, 0) = b.getD i (0, 0, 0)
 mma : ∀ i, i < p → ma.getD i 0 ≠ -1 → mc.getD i 0 = ma.getD i 0
 mmb : ∀ i, i < b.length → mb.getD i 0 ≠ -1 → mc.getD (i + p) 0 = mb.getD i 0 + p
theorem yP {l : List cZ} {m h : List Int} (hF : Fine l m h) {i : Nat} (hi : i < l.length) : opAt l i = 25 ↔ i + 1 = l.length := by
 constructor
 ·intro h25
  have h1 := hF.ends i hi
  unfold rI at h1
  rw [show ((l.getD i (0, 0, 0)).1 == 25) = true from ah.2 h25] at h1
  cases h4 : ((i : Int) == ((l.length - 1 : Nat) : Int))
  ·rw [h4] at h1; cases h1
  ·have := eq_of_beq h4; omega
 ·intro h
  have := hF.last
  rw [show l.length - 1 = i by omega] at this
  exact this
theorem Both.opb {a b c : List cZ} {p : Nat} {ma mb mc : List Int} (hB : Both a b c p ma mb mc) {i : Nat} (hi : i < b.length) : opAt c (i + p) = opAt b i ∧ dd c (i + p) = dd b i ∧ dp c (i + p) = dp b i + p ∧ dj c (i + p) = dj b i := by
 have e := hB.ib i hi
 unfold opAt dd dp dj
 rw [e]
 exact ⟨rfl, rfl, by omega, rfl⟩
abbrev qv : dN := [[0, 0, 0, 0, 0, 0, 0, 0], [0, 0, 0, 0, 0, 0, 0, 0], [0, 0, 0, 0, 0, 0, 0, 0], [0, 0, 0, 0, 0, 0, 0, 0], [0, 0, 0, 0, 0, 0, 0, 0], [0, 0, 0, 0, 0, 0, 0, 0], [0, 0, 0, 0, 0, 0, 0, 0], [0, 0, 0, 0, 0, 0, 0, 0]]
def jE (l : List cZ) (m : List Int) (c : CS) : CS := ⟨(d9 l m ⟨c.on, c.s, qv⟩).on, (d9 l m ⟨c.on, c.s, qv⟩).s, qv⟩
theorem OG {l : List cZ} {m h : List Int} {st : List ByteArray} (hR : Row l m h st) {c : CS} (hc : o9 l m st c) (n : Nat) : (∃ ev e mem, yM n l m c.on c.s qv = some (ev, e, KY l m (jE l m c).on (jE l m c).s mem)) ∧ o9 l m st (jE l m c) := by
 obtain ⟨⟨ev, e, a1⟩, a2⟩ := yO hR (c := ⟨c.on, c.s, qv⟩) hc n
 exact ⟨⟨ev, e, _, a1⟩, a2⟩
def DC (l : List cZ) (m : List Int) : Nat → CS → CS
 | 0, c => c
 | k + 1, c => jE l m (DC l m k c)
theorem uS {l : List cZ} {m : List Int} {c : CS} (h : c.on = false) : (jE l m c).on = false ∧ (jE l m c).s = c.s := by
 unfold jE d9
 rw [if_neg (show ¬ c.on = true by rw [h]; decide)]
 exact ⟨h, rfl⟩
theorem AP {l : List cZ} {m h : List Int} {st : List ByteArray} (hR : Row l m h st) {c : CS} (hc : o9 l m st c) : ∀ k, o9 l m st (DC l m k c)
 | 0 => hc
 | k + 1 => (OG hR (AP hR hc k) 0).2
theorem xz {l : List cZ} {m : List Int} {c : CS} {i : Nat} (h : c.on = true) (hp : c.s.at_ = (i : Int)) : (jE l m c).on = decide (opAt l i ≠ 25) ∧ (jE l m c).s = eC (l.getD i (0, 0, 0)) (m.getD i 0) c.s qv := by
 unfold jE d9
 rw [if_pos (show c.on = true from h)]
 dsimp only
 rw [show c.s.at_.toNat = i by rw [hp]; exact ai i]
 exact ⟨rfl, rfl⟩
theorem DD (a b : Nat) (ha : a < 65536) (hb : b < 65536) : bits .or .i64 (a : Int) (b : Int) = ((a ||| b : Nat) : Int) := by
 have hx : a ||| b < 2 ^ 16 := Nat.or_lt_two_pow (by omega) (by omega)
 show IntKind.i64.wrap ((BitVec.ofInt 64 (a : Int) ||| BitVec.ofInt 64 (b : Int)).toNat : Int) = _
 rw [BitVec.toNat_or, ofInt_u64 a (by omega), ofInt_u64 b (by omega), dR (by omega) (by omega)]
theorem Fj {A : Int} {a : Nat} (h : A = (a : Int)) (ha : a ≤ 15) : l8 A = ((2 ^ a : Nat) : Int) ∧ 2 ^ a < 65536 := by
 subst h
 have h1 : min ((a : Int)).toNat 64 = a := by rw [ai]; omega
 have h2 : 2 ^ a ≤ 2 ^ 15 := Nat.pow_le_pow_right (by omega) ha
 have h3 : ((2 ^ a : Nat) : Int) = (2 : Int) ^ a := by rw [Int.natCast_pow]; rfl
 refine ⟨?_, by omega⟩
 unfold l8
 rw [h1, Int.one_mul, ← h3]
 generalize 2 ^ a = w at h2 ⊢
 rw [dR (by omega) (by omega)]
theorem Mb {x k : Nat} (hx : x < 65536) (hk : k < 16) : Gt (x : Int) k = x.testBit k := by
 unfold Gt
 have h1 : min ((k : Int)).toNat 64 = k := by rw [ai]; omega
 have h3 : (2 : Int) ^ k = ((2 ^ k : Nat) : Int) := by rw [Int.natCast_pow]; rfl
 have h4 : ((x : Int)).fdiv ((2 ^ k : Nat) : Int) = ((x / 2 ^ k : Nat) : Int) := by
  rw [Int.fdiv_eq_ediv_of_nonneg _ (Int.natCast_nonneg _)]
  rfl
 have h5 : x / 2 ^ k < 65536 := Nat.lt_of_le_of_lt (Nat.div_le_self _ _) hx
 have h6 : bits .and .i64 ((x / 2 ^ k : Nat) : Int) 1 = ((x / 2 ^ k % 2 : Nat) : Int) := by
  have hx : (x / 2 ^ k) &&& 1 = x / 2 ^ k % 2 := nat_mask1 _
  show IntKind.i64.wrap ((BitVec.ofInt 64 ((x / 2 ^ k : Nat) : Int) &&& BitVec.ofInt 64 ((1 : Nat) : Int)).toNat : Int) = _
  rw [BitVec.toNat_and, ofInt_u64 _ (by omega), ofInt_u64 1 (by omega), hx, dR (by omega) (by omega)]
 rw [h1, h3, h4, h6, Nat.testBit_eq_decide_div_mod_eq]
 apply oH
 rw [ah, av]
 omega
structure RunI (inp : List Int) (t : Nat) (s : MS) : Prop where
 inp : s.inp = inp
 stp : 0 ≤ s.stp ∧ s.stp ≤ (t : Int)
 set : ∃ x : Nat, s.set = (x : Int) ∧ x < 65536
theorem DE {x : cZ} {mt : Int} {s : MS} {mem : dN} (hr : dg x = true) {v : Nat} (hv : s.set = (v : Int)) (hv2 : v < 65536) : ∃ b : Nat, b < 65536 ∧ (∀ s' : MS, ∀ w : Nat, s'.set = (w : Int) → w < 65536 → ∀ mt' mem', (eC x mt' s' mem').set = ((w ||| b : Nat) : Int)) := by
 by_cases h16 : x.1 = 16
 ·have ha := vF (o := x.1) (A := x.2.1) (B := x.2.2) (.inr h16) hr
  obtain ⟨b1, b2⟩ := Fj (A := x.2.1) (a := x.2.1.toNat) (by omega) (by omega)
  refine ⟨2 ^ x.2.1.toNat, b2, fun s' w hw hw2 mt' mem' => ?_⟩
  show (if x.1 = 16 then bits .or .i64 s'.set (l8 x.2.1) else s'.set) = _
  rw [if_pos h16, hw, b1, DD w _ hw2 b2]
 ·refine ⟨0, by omega, fun s' w hw hw2 mt' mem' => ?_⟩
  show (if x.1 = 16 then bits .or .i64 s'.set (l8 x.2.1) else s'.set) = _
  rw [if_neg h16, hw, Nat.or_zero]
theorem RunI.step {l : List cZ} {m h : List Int} {st : List ByteArray} (hR : Row l m h st) {inp : List Int} {t : Nat} {c : CS} (hc : o9 l m st c) (hI : RunI inp t c.s) (ht : t < 1000000) : RunI inp (t + 1) (jE l m c).s := by
 cases hon : c.on with
 | false =>
  rw [(uS (l := l) (m := m) hon).2]
  exact ⟨hI.inp, ⟨hI.stp.1, by have := hI.stp.2; omega⟩, hI.set⟩
 | true =>
  obtain ⟨i, rs, hO⟩ := hc hon
  rw [(xz (l := l) (m := m) hon hO.place).2]
  have hs := hI.stp
  obtain ⟨x, x1, x2⟩ := hI.set
  obtain ⟨b, b1, b2⟩ := DE (mt := 0) (mem := qv) (hR.fine.right hO.lt) x1 x2
  refine ⟨hI.inp, ?_, x ||| b, b2 c.s x x1 x2 _ _, Nat.or_lt_two_pow (n := 16) x2 b1⟩
  show 0 ≤ wrap .i64 (c.s.stp + 1) ∧ wrap .i64 (c.s.stp + 1) ≤ _
  rw [dR (by omega) (by omega)]
  omega
theorem RunI.run {l : List cZ} {m h : List Int} {st : List ByteArray} (hR : Row l m h st) {inp : List Int} {c : CS} (hc : o9 l m st c) (hI : RunI inp 0 c.s) : ∀ t, t < 1000000 → RunI inp t (DC l m t c).s
 | 0, _ => hI
 | t + 1, ht => (RunI.run hR hc hI t (by omega)).step hR (AP hR hc t) (by omega)
structure RelB (p : Nat) (S : MS) (T U : CS) : Prop where
 on : U.on = T.on
 at_ : U.s.at_ = T.s.at_ + p
 stk : U.s.stk = T.s.stk
 rds : U.s.rds = T.s.rds
 held : U.s.held = T.s.held
 inp : U.s.inp = T.s.inp
 stp : U.s.stp = S.stp + T.s.stp
 set : ∃ x y : Nat, S.set = (x : Int) ∧ T.s.set = (y : Int) ∧ U.s.set = ((x ||| y : Nat) : Int) ∧ x < 65536 ∧ y < 65536
theorem RelB.step {a b c : List cZ} {p : Nat} {ma mb mc hb : List Int} {sb : List ByteArray} (hB : Both a b c p ma mb mc) (hR : Row b mb hb sb) (h11 : ∀ k, k < b.length → opAt b k ≠ 11 ∧ opAt b k ≠ 13) {S : MS} {T U : CS} (hT : o9 b mb sb T) (h : RelB p S T U) (hs : 0 ≤ S.stp ∧ S.stp ≤ 1000000) (ht : 0 ≤ T.s.stp ∧ T.s.stp ≤ 1000000) : RelB p S (jE b mb T) (jE c mc U) := by
 cases hon : T.on with
 | false =>
  have e1 := uS (l := b) (m := mb) hon
  have e2 := uS (l := c) (m := mc) (h.on.trans hon)
  refine ⟨e2.1.trans e1.1.symm, ?_, ?_, ?_, ?_, ?_, ?_, ?_⟩ <;> rw [e1.2, e2.2]
  ·exact h.at_
  ·exact h.stk
  ·exact h.rds
  ·exact h.held
  ·exact h.inp
  ·exact h.stp
  ·exact h.set
 | true =>
  obtain ⟨i, rs, hO⟩ := hT hon
  have hi := hO.lt
  have hp := hO.place
  have hpU : U.s.at_ = ((i + p : Nat) : Int) := by rw [h.at_, hp]; omega
  have e1 := xz (l := b) (m := mb) hon hp
  have e2 := xz (l := c) (m := mc) (h.on.trans hon) hpU
  have hr := hR.fine.right hi
  have hm : opAt b i = 22 → mc.getD (i + p) 0 = mb.getD i 0 + p := fun h22 => by
   obtain ⟨k, k1, _⟩ := hR.fine.closed.cl i hi (.inl h22)
   exact hB.mmb i hi (by rw [k1]; omega)
  rw [hB.ib i hi] at e2
  obtain ⟨x, y, s1, s2, s3, s4, s5⟩ := h.set
  obtain ⟨w, w1, w2⟩ := DE (mt := 0) (mem := qv) hr s2 s5
  obtain ⟨n11, n13⟩ := h11 i hi
  unfold opAt at hm n11 n13
  have eop := (hB.opb hi).1
  unfold opAt at eop
  refine ⟨?_, ?_, ?_, ?_, ?_, ?_, ?_, x, y ||| w, s1, ?_, ?_, s4, Nat.or_lt_two_pow (n := 16) s5 w1⟩
  ·rw [e1.1, e2.1]
   unfold opAt
   rw [eop]
  all_goals try rw [e1.2]
  all_goals try rw [e2.2]
  ·show ee _ _ _ = ee _ _ _ + _
   unfold ee
   rw [h.at_, h.stk, h.rds]
   split
   ·omega
   ·split
    ·split <;> omega
    ·split
     ·rename_i h22
      rw [hm h22]
      split <;> omega
     ·omega
  ·show fI _ _ _ = fI _ _ _
   unfold fI
   rw [h.stk, h.inp, if_neg n11, if_neg n13, if_neg n11, if_neg n13]
  ·show f8 _ _ = f8 _ _
   unfold f8
   rw [h.rds]
  ·show (if _ then _ else if _ then _ else _) = (if _ then _ else if _ then _ else _)
   rw [h.held]
  ·exact h.inp
  ·show wrap .i64 (U.s.stp + 1) = S.stp + wrap .i64 (T.s.stp + 1)
   have := h.stp
   rw [dR (by omega) (by omega), dR (by omega) (by omega)]
   omega
  ·exact w2 _ _ s2 s5 _ _
  ·rw [w2 _ _ s3 (Nat.or_lt_two_pow (n := 16) s4 s5) _ _, Nat.or_assoc]
theorem Mc {l : List cZ} {m h : List Int} (hF : Fine l m h) {i : Nat} (hi : i < l.length) (h25 : opAt l i = 25) : lps l m i = [] := by
 cases hl : lps l m i with
 | nil => rfl
 | cons k r =>
  exfalso
  have hk : k ∈ lps l m i := by rw [hl]; exact aD ..
  obtain ⟨k1, k2⟩ := qq hk
  have ho := (en k1).2
  obtain ⟨j, j1, j2, j3, j4, j5, j6⟩ := oL hF (fR ho) ho
  have h1 := (fi ho j1).1 k1
  have h2 := (yP hF hi).1 h25
  have hji : j = i := by omega
  subst hji
  have := qn (l.getD k (0, 0, 0))
  rw [← j6] at this
  unfold opAt at h25
  rw [h25] at this
  rcases this with h | h <;> cases h
theorem OH {rs : List (Nat × Int)} (h : rs.map (·.1) = []) : rs = [] := List.map_eq_nil_iff.1 h
theorem Fl {l : List cZ} {m h : List Int} {st : List ByteArray} (hR : Row l m h st) {f : Nat} (hf : l.length < f) (hw : em bM l m f 0 (l.length - 1) < 1048577) : ∀ (N : Nat) {s : MS} {i : Nat} {rs : List (Nat × Int)} {k : Int}, nq l m i rs ≤ (N : Int) → Ok l m st s i rs → InvP bM sw IL l m f 0 (l.length - 1) i rs k → k ≤ em bM l m f 0 (l.length - 1)
 | N, s, i, rs, k, hN, hO, hI => by
  have hF := hR.fine
  have hA := hF.all
  by_cases h25 : opAt l i = 25
  ·have e := hO.lps
   rw [Mc hF hO.lt h25] at e
   have := OH e
   subst this
   have hi : i = l.length - 1 := by have := (yP hF hO.lt).1 h25; omega
   subst hi
   obtain ⟨h1, h2, h3, h4⟩ := hI
   rw [Dz hF hf hA] at h4
   unfold sw fD at h4
   split at h4 <;> omega
  ·obtain ⟨q, rs', hq, hp, hg, _⟩ := (Fi hR hO qv h25).ex
   have hz : i ≠ l.length - 1 := fun e => h25 ((yP hF hO.lt).2 (by have := hO.lt; omega))
   have hI2 := hg bM sw IL f 0 (l.length - 1) k zy hf hA hI hz
   have hnn := OC hF (i := q) (rs := rs') (fun e he => (hq.rnd e he).1)
   cases N with
   | zero => omega
   | succ N =>
    have := Fl hR hf hw N (by omega) hq hI2
    omega
theorem jo {X R : Type} {S : (X → Option R) → X → Option R} (Q : Nat → X → R → Prop) (h0 : ∀ x r, ¬ Q 0 x r) (h : ∀ f x F, (∀ y r, Q f y r → F y = some r) → ∀ r, Q (f + 1) x r → S F x = some r) : ∀ f x r, Q f x r → it S f x = some r
 | 0, x, r, hq => absurd hq (h0 x r)
 | f + 1, x, r, hq => h f x (it S f) (jo Q h0 h f) r hq
abbrev Tsk := Int × Int × Int × Int × List Int × List Int × List cZ
abbrev Img := Int × Int × Int × Int × List Int × List (List Int) × List Tsk
abbrev Tsk.blocks (t : Tsk) : List Int := t.2.2.2.2.1
abbrev Tsk.outs (t : Tsk) : List Int := t.2.2.2.2.2.1
abbrev Tsk.code (t : Tsk) : List cZ := t.2.2.2.2.2.2
abbrev Img.inputs (m : Img) : Int := m.2.2.2.1
abbrev Img.safe (m : Img) : List Int := m.2.2.2.2.1
abbrev Img.blocks (m : Img) : List (List Int) := m.2.2.2.2.2.1
abbrev Img.tasks (m : Img) : List Tsk := m.2.2.2.2.2.2
theorem eE {α : Type} {l : List α} {i : Nat} {d : α} (h : i < l.length) : l.drop i = l.getD i d :: l.drop (i + 1) := by
 rw [b8 h, au, ax h]
 rfl
theorem Md (n : Nat) (t : Tsk) (m : Img) (p : Int) (hl : t.outs.length < n) (hn : n < 1000000) : ui n (t, m) p = some (t.outs.contains p) := by
 unfold ui uh
 have := jo (S := fun F => (dZ q_) (pW n F)) (fun f x r => ∃ i : Nat, x = (p, t.outs, (t.outs.length : Int), (i : Int)) ∧ i ≤ t.outs.length ∧ t.outs.length < f + i ∧ r = if (t.outs.drop i).contains p = true then .inl ((true, ()), ()) else .inr ((), ())) (fun x r ⟨i, _, h1, h2, _⟩ => by omega) (fun f x F hF r => ?_) n (p, t.outs, (t.outs.length : Int), 0) _ ⟨0, rfl, aB _, by omega, rfl⟩
 ·rw [this, bH]
  cases h : t.outs.contains p <;> rfl
 ·rintro ⟨i, rfl, h1, h2, rfl⟩
  show pW n F p t.outs (t.outs.length : Int) (i : Int) = _
  unfold pW
  rcases am i t.outs.length with hlt | hge
  ·rw [if_pos (af (by omega)), if_pos (dc hlt), ai, dB (by omega), eE (d := (0 : Int)) hlt, List.contains_cons]
   by_cases e : t.outs.getD i 0 = p
   ·rw [if_pos (ah.2 e), e, bj, Bool.true_or, if_pos rfl]
   ·rw [if_neg (fun h => e (ah.1 h))]
    have e2 : (p == t.outs.getD i 0) = false := by rw [aY]; exact fun h => e h.symm
    rw [e2, bW]
    exact hF _ _ ⟨i + 1, rfl, by omega, by omega, rfl⟩
  ·have : i = t.outs.length := by omega
   subst this
   rw [if_neg (by simp), bz]
   rfl
def lz (m : Img) (t : Tsk) (i : cZ) : Bool :=
 if i.1 = 15 then decide (i.2.1 < m.inputs) else if i.1 = 16 then t.outs.contains i.2.1 else if i.1 = 17 then decide (i.2.2 < ((m.blocks.getD i.2.1.toNat []).length : Int)) else if i.1 = 18 then decide (i.2.2 < ((m.blocks.getD i.2.1.toNat []).length : Int)) else true
theorem Me (n : Nat) (t : Tsk) (m : Img) (i : cZ) (ho : t.outs.length < n) (hn : n < 1000000) (hb : i.1 = 17 ∨ i.1 = 18 → 0 ≤ i.2.1 ∧ i.2.1 < (m.blocks.length : Int)) (l : List cZ) (v k : Int) :
  yo n true l v k t.1 t.2.1 t.2.2.1 t.2.2.2.1 t.2.2.2.2.1 t.2.2.2.2.2.1 t.2.2.2.2.2.2 m.1 m.2.1 m.2.2.1 m.2.2.2.1 m.2.2.2.2.1 m.2.2.2.2.2.1 m.2.2.2.2.2.2 i.1 i.2.1 i.2.2 = some (lz m t i, l, v, k, t.1, t.2.1, t.2.2.1, t.2.2.2.1, t.2.2.2.2.1, t.2.2.2.2.2.1, t.2.2.2.2.2.2, m.1, m.2.1, m.2.2.1, m.2.2.2.1, m.2.2.2.2.1, m.2.2.2.2.2.1, m.2.2.2.2.2.2, i.1, i.2.1, i.2.2) := by
 unfold yo lz
 by_cases h15 : i.1 = 15
 ·rw [if_pos (ah.2 h15), if_pos h15]
 rw [if_neg (fun h => h15 (ah.1 h)), if_neg h15]
 by_cases h16 : i.1 = 16
 ·rw [if_pos (ah.2 h16), if_pos h16]
  have := Md n t m i.2.1 ho hn
  show ((ui n (t, m) i.2.1).bind _) = _
  rw [this]; rfl
 rw [if_neg (fun h => h16 (ah.1 h)), if_neg h16]
 by_cases h17 : i.1 = 17
 ·have := hb (.inl h17)
  rw [if_pos (ah.2 h17), if_pos h17, if_pos (by rw [af this.1, af this.2]; rfl)]
 rw [if_neg (fun h => h17 (ah.1 h)), if_neg h17]
 by_cases h18 : i.1 = 18
 ·have := hb (.inr h18)
  rw [if_pos (ah.2 h18), if_pos h18, if_pos (by rw [af this.1, af this.2]; rfl)]
 rw [if_neg (fun h => h18 (ah.1 h)), if_neg h18]
theorem K8 (n : Nat) (t : Tsk) (m : Img) (hl : t.code.length < n) (ho : t.outs.length < n) (hn : n < 1000000) (hb : ∀ i ∈ t.code, i.1 = 17 ∨ i.1 = 18 → 0 ≤ i.2.1 ∧ i.2.1 < (m.blocks.length : Int)) : yp n (t, m) = some (if t.code.all (lz m t) = true then 0 else 12) := by
 unfold yp xc
 have := jo (S := fun F => (fg (eo (dZ (C_ q_)))) (uk n F))
  (fun f x r => ∃ i : Nat, x = (t.code, (t.code.length : Int), (i : Int), t.1, t.2.1, t.2.2.1, t.2.2.2.1, t.2.2.2.2.1, t.2.2.2.2.2.1, t.2.2.2.2.2.2, m) ∧ i ≤ t.code.length ∧ t.code.length < f + i ∧ r = if (t.code.drop i).all (lz m t) = true then .inr ((), ((t.1, t.2.1, t.2.2.1, t.2.2.2.1, t.2.2.2.2.1, t.2.2.2.2.2.1, t.2.2.2.2.2.2, m.1, m.2.1, m.2.2.1, m.2.2.2.1, m.2.2.2.2.1, m.2.2.2.2.2.1, m.2.2.2.2.2.2, ()), ())) else .inl ((12, ()), ((t.1, t.2.1, t.2.2.1, t.2.2.2.1, t.2.2.2.2.1, t.2.2.2.2.2.1, t.2.2.2.2.2.2, m.1, m.2.1, m.2.2.1, m.2.2.2.1, m.2.2.2.2.1, m.2.2.2.2.2.1, m.2.2.2.2.2.2, ()), ()))) (fun x r ⟨i, _, h1, h2, _⟩ => by omega) (fun f x F hF r => ?_) n (t.code, (t.code.length : Int), 0, t.1, t.2.1, t.2.2.1, t.2.2.2.1, t.2.2.2.2.1, t.2.2.2.2.2.1, t.2.2.2.2.2.2, m) _ ⟨0, rfl, aB _, by omega, rfl⟩
 ·try dsimp only at this ⊢
  rw [this, bH]
  cases h : t.code.all (lz m t) <;> rfl
 ·rintro ⟨i, rfl, h1, h2, rfl⟩
  show uk n F t.code (t.code.length : Int) (i : Int) t.1 t.2.1 t.2.2.1 t.2.2.2.1 t.2.2.2.2.1 t.2.2.2.2.2.1 t.2.2.2.2.2.2 m.1 m.2.1 m.2.2.1 m.2.2.2.1 m.2.2.2.2.1 m.2.2.2.2.2.1 m.2.2.2.2.2.2 = _
  unfold uk
  rcases am i t.code.length with hlt | hge
  ·have hm : t.code.getD i (0, 0, 0) ∈ t.code := by rw [au, ax hlt]; exact bP hlt
   rw [if_pos (af (by omega)), if_pos (dc hlt), ai, Me n t m _ ho hn (hb _ hm), eE (d := ((0 : Int), (0 : Int), (0 : Int))) hlt, b6]
   simp only [ae]
   cases e : lz m t (t.code.getD i (0, 0, 0)) with
   | true =>
    rw [if_neg (by simp), dB (by omega), aU]
    exact hF _ _ ⟨i + 1, rfl, by omega, by omega, rfl⟩
   | false => rfl
  ·have : i = t.code.length := by omega
   subst this
   rw [if_neg (by simp), bz]
   rfl
theorem IU (l : List cZ) (i : Nat) : (mD l i).length ≤ 1 := by unfold mD; split <;> simp
theorem AQ (l : List cZ) : ∀ (r i : Nat), (iW l r i).length ≤ r
 | 0, i => by simp [iW]
 | r + 1, i => by
  have := AQ l r (i + 1)
  have h1 := IU l i
  rw [show iW l (r + 1) i = mD l i ++ iW l r (i + 1) from rfl, aF]
  omega
theorem IV (l : List cZ) : (fQ l).length ≤ l.length := by
 unfold fQ
 split
 ·exact AQ l _ _
 ·simp
theorem IW (n : Nat) (t : Tsk) (m : Img) (hl : t.code.length < n) (hn3 : 3 < n) (hn : n < 1000000) : uf n (t, m) = some (if d7 t.code ≠ 0 then d7 t.code else if fQ t.code = t.blocks then 0 else 11) := by
 unfold uf
 rw [show mQ n ((t, m) : Tsk × Img).1.2.2.2.2.2.2 = some (fQ t.code, d7 t.code) from uD n t.code hl hn]
 simp only [ae]
 by_cases h0 : d7 t.code ≠ 0
 ·rw [if_pos (aw.2 h0), if_pos h0]
 rw [if_neg (fun h => h0 (aw.1 h)), if_neg h0]
 by_cases hlen : (fQ t.code).length ≠ t.blocks.length
 ·rw [if_pos (show ((((fQ t.code).length : Nat) : Int) != ((t.2.2.2.2.1.length : Nat) : Int)) = true from aw.2 (fun h => hlen (Int.ofNat.inj h))), if_neg (fun h => hlen (by rw [h]))]
 have hlen : (fQ t.code).length = t.blocks.length := Decidable.not_not.1 hlen
 rw [if_neg (show ¬ ((((fQ t.code).length : Nat) : Int) != ((t.2.2.2.2.1.length : Nat) : Int)) = true from fun h => aw.1 h (congrArg Int.ofNat hlen))]
 unfold ue
 have hk : (fQ t.code).length ≤ t.code.length := IV t.code
 generalize fQ t.code = L at hlen hk
 have := jo (S := fun F => (fg (eo (dZ (C_ q_)))) (pV n F))
  (fun f x r => ∃ i : Nat, x = (L, (L.length : Int), (i : Int), t.1, t.2.1, t.2.2.1, t.2.2.2.1, t.2.2.2.2.1, t.2.2.2.2.2.1, t.2.2.2.2.2.2, m) ∧ i ≤ L.length ∧ L.length < f + i ∧ r = if L.drop i = t.blocks.drop i then .inr ((), ((t.1, t.2.1, t.2.2.1, t.2.2.2.1, t.2.2.2.2.1, t.2.2.2.2.2.1, t.2.2.2.2.2.2, m.1, m.2.1, m.2.2.1, m.2.2.2.1, m.2.2.2.2.1, m.2.2.2.2.2.1, m.2.2.2.2.2.2, ()), ())) else .inl ((11, ()), ((t.1, t.2.1, t.2.2.1, t.2.2.2.1, t.2.2.2.2.1, t.2.2.2.2.2.1, t.2.2.2.2.2.2, m.1, m.2.1, m.2.2.1, m.2.2.2.1, m.2.2.2.2.1, m.2.2.2.2.2.1, m.2.2.2.2.2.2, ()), ()))) (fun x r ⟨i, _, h1, h2, _⟩ => by omega) (fun f x F hF r => ?_) n (L, (L.length : Int), 0, t.1, t.2.1, t.2.2.1, t.2.2.2.1, t.2.2.2.2.1, t.2.2.2.2.2.1, t.2.2.2.2.2.2, m) _ ⟨0, rfl, aB _, by omega, rfl⟩
 ·try dsimp only at this ⊢
  rw [this, bH, bH]
  by_cases h : L = t.blocks
  ·rw [if_pos h, if_pos h]; rfl
  ·rw [if_neg h, if_neg h]; rfl
 ·rintro ⟨i, rfl, h1, h2, rfl⟩
  show pV n F L (L.length : Int) (i : Int) t.1 t.2.1 t.2.2.1 t.2.2.2.1 t.2.2.2.2.1 t.2.2.2.2.2.1 t.2.2.2.2.2.2 m.1 m.2.1 m.2.2.1 m.2.2.2.1 m.2.2.2.2.1 m.2.2.2.2.2.1 m.2.2.2.2.2.2 = _
  unfold pV
  rcases am i L.length with hlt | hge
  ·have hlt2 : i < t.2.2.2.2.1.length := by have : t.blocks.length = t.2.2.2.2.1.length := rfl; omega
   rw [if_pos (af (by omega)), if_pos (dc hlt), if_pos (dc hlt2), ai, eE (d := (0 : Int)) hlt, show t.blocks.drop i = t.2.2.2.2.1.getD i 0 :: t.blocks.drop (i + 1) from eE (d := (0 : Int)) hlt2]
   by_cases e : L.getD i 0 = t.2.2.2.2.1.getD i 0
   ·rw [if_neg (fun h => aw.1 h e), dB (by omega), e]
    refine hF _ _ ⟨i + 1, rfl, by omega, by omega, ?_⟩
    simp only [bb, true_and]
   ·rw [if_pos (aw.2 e), if_neg (fun h => e (List.cons.inj h).1)]
  ·have : i = L.length := by omega
   subst this
   rw [if_neg (by simp), bz, hlen, bz]
   rfl
theorem rT (n : Int) : IntKind.u64.wrap n = n % 18446744073709551616 := by simp [IntKind.wrap, IntKind.bits, IntKind.signed]
theorem Mf (n : Nat) (a : Int) : ∃ y, mz n a = some y ∧ 0 ≤ y ∧ y < 18446744073709551616 := by
 unfold mz
 refine ⟨_, rfl, ?_, ?_⟩
 ·unfold bits
  rw [rT]
  exact Int.emod_nonneg _ (by decide)
 ·unfold bits
  rw [rT]
  exact Int.emod_lt_of_pos _ (by decide)
theorem DF (n : Nat) : ∀ (f g : Nat) (o : List Int) (v : Int), 0 ≤ v → v < 128 ^ g → g < f → o.length + g < 1000 → ∃ o' v', it (fun F => q_ (iJ n F)) f (o, v) = some (o', v') ∧ o'.length ≤ o.length + g
 | 0, g, o, v, h0, h1, hg, h2 => by omega
 | f + 1, g, o, v, h0, h1, hg, h2 => by
  have ih := DF n f
  show ∃ o' v', iJ n (it _ f) o v = some (o', v') ∧ _
  generalize it (fun F => q_ (iJ n F)) f = F at ih ⊢
  unfold iJ
  by_cases h : 128 ≤ v
  ·obtain _ | g := g
   ·rw [Int.pow_zero] at h1
    omega
   rw [if_pos (af h), if_pos (by rw [af (by omega), af (by omega)]; rfl)]
   have hd : v.tdiv 128 = v / 128 := cM h0
   have hv : v / 128 < 128 ^ g := by
    rw [Int.pow_succ] at h1
    exact Int.ediv_lt_of_lt_mul (by decide) h1
   obtain ⟨o', v', h3, h4⟩ := ih g (o ++ [(IntKind.wrap .u8 (IntKind.wrap .u64 ((v.tmod 128) + 128)))]) ((IntKind.wrap .u64 (v.tdiv 128))) (by rw [rT]; exact Int.emod_nonneg _ (by decide)) (by
    rw [rT, hd]
    exact Int.lt_of_le_of_lt (by omega) hv) (by omega) (by rw [aF]; show _ + 1 + g < 1000; omega)
   rw [aF] at h4
   exact ⟨o', v', h3, by have : [IntKind.u8.wrap (IntKind.u64.wrap (v.tmod 128 + 128))].length = 1 := rfl; omega⟩
  ·rw [if_neg (by simpa using h)]
   exact ⟨o, v, rfl, by omega⟩
theorem uT (l : List Int) : (eZ l).size = l.length := by
 unfold eZ ByteArray.size
 simp
theorem IX (n : Nat) (hn : 10 < n) (a : Int) : ∃ y, jz n a = some y ∧ y.size ≤ 11 := by
 obtain ⟨u, h1, h2, h3⟩ := Mf n a
 unfold jz ni
 rw [h1, ae]
 obtain ⟨o, v, h4, h5⟩ := DF n n 10 [] u h2 (Int.lt_trans h3 (by decide)) hn (by decide)
 have h5 : o.length ≤ 10 := by simpa using h5
 rw [h4, ae]
 dsimp only
 rw [if_pos (by rw [af (by omega), af (by omega)]; rfl)]
 refine ⟨_, rfl, ?_⟩
 rw [uT, aF]
 show _ + 1 ≤ 11
 omega
theorem Mg (n : Nat) (x : cZ) : ∃ y, lU n x.1 = some y := by
 have h := eU n x
 unfold db at h
 match h2 : lU n x.1 with
 | some y => exact ⟨y, rfl⟩
 | none => rw [h2] at h; cases h
theorem DG (y : ByteArray) : ∀ (k i : Nat) (r : List UInt8), y.size - i = k → r.length ≤ (ByteArray.toList.loop y i r).length
 | 0, i, r, h => by
  unfold ByteArray.toList.loop
  rw [if_neg (by omega), List.length_reverse]
  exact ak _
 | k + 1, i, r, h => by
  unfold ByteArray.toList.loop
  rw [if_pos (by omega)]
  have := DG y k (i + 1) (y.get! i :: r) (by omega)
  rw [aH] at this
  omega
theorem DH : (ByteArray.mk #[]).toList = [] := by
 unfold ByteArray.toList ByteArray.toList.loop
 rw [if_neg (by decide)]
 rfl
theorem qw {y : ByteArray} (h : 0 < y.size) : (y.toList == (ByteArray.mk #[]).toList) = false := by
 rw [DH, aY]
 intro h1
 have : (ByteArray.toList.loop y 0 []).length = 0 := by
  have : y.toList = ByteArray.toList.loop y 0 [] := rfl
  rw [← this, h1]
  rfl
 unfold ByteArray.toList.loop at this
 rw [if_pos h] at this
 have h2 := DG y _ (0 + 1) [y.get! 0] rfl
 rw [this] at h2
 exact absurd h2 (Nat.not_succ_le_zero 0)
theorem AR (n : Nat) (hn : 10 < n) (x : cZ) : ∃ y, fq n x = some y ∧ y.size ≤ 30 ∧ (y.toList == (ByteArray.mk #[]).toList) = !dg x := by
 obtain ⟨o, ho⟩ := Mg n x
 obtain ⟨p, hp1, hp2⟩ := IX n hn x.2.1
 obtain ⟨q, hq1, hq2⟩ := IX n hn x.2.2
 have hs : (eZ ([(IntKind.wrap .u8 x.1)])).size = 1 := uT _
 unfold fq mU
 have hr : db n (x.1, x.2.1, x.2.2) = some (dg x) := eU n x
 rw [hr, ae]
 cases hb : dg x with
 | false => exact ⟨_, rfl, by decide, by rw [bj]; rfl⟩
 | true =>
  rw [if_neg (by simp), ho, hp1, hq1]
  simp only [ae]
  split
  ·rw [if_pos (af (by omega))]
   split
   ·have : (eZ ([(IntKind.wrap .u8 x.1)]) ++ p).size = 1 + p.size := by rw [bR, hs]
    rw [if_pos (af (by omega))]
    refine ⟨_, rfl, ?_, ?_⟩
    ·rw [bR, this]; omega
    ·exact qw (by rw [bR, this]; omega)
   ·have : (eZ ([(IntKind.wrap .u8 x.1)]) ++ p).size = 1 + p.size := by rw [bR, hs]
    exact ⟨_, rfl, by omega, qw (by omega)⟩
  ·split
   ·rw [if_pos (af (by omega))]
    have : (eZ ([(IntKind.wrap .u8 x.1)]) ++ q).size = 1 + q.size := by rw [bR, hs]
    exact ⟨_, rfl, by omega, qw (by omega)⟩
   ·exact ⟨_, rfl, by omega, qw (by omega)⟩
def Says (o : Option Bool) (p : Prop) : Prop := ∃ b, o = some b ∧ (b = true ↔ p)
theorem Says.dec {p : Prop} [Decidable p] : Says (some (decide p)) p := ⟨_, rfl, ca⟩
theorem Says.and {o : Option Bool} {f : Bool → Option Bool} {p q : Prop} (h : Says o p) (k : Says (f true) q) (g : f false = some false) : Says (o.bind f) (p ∧ q) := by
 obtain ⟨b, h1, h2⟩ := h
 obtain ⟨c, k1, k2⟩ := k
 rw [h1]
 cases b with
 | true => exact ⟨c, k1, by rw [k2]; exact ⟨fun e => ⟨h2.1 rfl, e⟩, fun e => e.2⟩⟩
 | false => exact ⟨false, g, ⟨fun e => absurd e (by decide), fun e => absurd (h2.2 e.1) (by decide)⟩⟩
theorem Says.iff {o : Option Bool} {p q : Prop} (h : Says o p) (k : p ↔ q) : Says o q := by
 obtain ⟨b, h1, h2⟩ := h
 exact ⟨b, h1, h2.trans k⟩
theorem Says.no {p : Prop} (h : ¬ p) : Says (some false) p := ⟨false, rfl, fun e => absurd e (by decide), fun e => absurd e h⟩
def Rises (e : Int) : Int → List Int → Prop
 | _, [] => True
 | b, x :: l => b < x ∧ x < e ∧ Rises e x l
theorem DI (n : Nat) (l : List Int) (e : Int) (he : 0 ≤ e) (hen : e + 1 < n) (hn : n < 1000000) : Says (iB n l e) (Rises e (-1) l) := by
 unfold iB km
 have := jo (S := fun F => (dZ (C_ q_)) (hU n F)) (fun f x r => ∃ (i : Nat) (b : Int) (c : Bool), x = (e, b, l, (l.length : Int), (i : Int)) ∧ (i ≤ l.length ∧ (i : Int) ≤ b + 1 ∧ b < e) ∧ e < b + f ∧ (c = true ↔ Rises e b (l.drop i)) ∧ r = if c = true then .inr ((), ()) else .inl ((false, ()), ())) (fun x r ⟨i, b, c, _, h1, h2, _⟩ => by omega) (fun f x F hF r => ?_) n (e, -1, l, (l.length : Int), 0)
 ·classical
  refine ⟨decide (Rises e (-1) l), ?_, ca⟩
  rw [this _ ⟨0, -1, decide (Rises e (-1) l), rfl, ⟨aB _, by omega, by omega⟩, by omega, ca, rfl⟩]
  cases decide (Rises e (-1) l) <;> rfl
 ·rintro ⟨i, b, c, rfl, h1, h2, hc, rfl⟩
  show hU n F e b l (l.length : Int) (i : Int) = _
  unfold hU
  rcases am i l.length with hlt | hge
  ·rw [eE (d := (0 : Int)) hlt] at hc
   rw [if_pos (af (by omega)), if_pos (dc hlt), ai, dB (by omega)]
   have hno : ∀ (h : ¬ (b < l.getD i 0 ∧ l.getD i 0 < e)), c = false := fun h => by
    cases c with
    | false => rfl
    | true => exact absurd ⟨(hc.1 rfl).1, (hc.1 rfl).2.1⟩ h
   by_cases g1 : l.getD i 0 ≤ b
   ·rw [if_pos (af g1), hno (by omega)]; rfl
   rw [if_neg (by simpa using g1)]
   by_cases g2 : l.getD i 0 ≥ e
   ·rw [if_pos (af g2), hno (by omega)]; rfl
   rw [if_neg (by simpa using g2)]
   exact hF _ _ ⟨i + 1, l.getD i 0, c, rfl, by omega, by omega, hc.trans ⟨fun h => h.2.2, fun h => ⟨by omega, by omega, h⟩⟩, rfl⟩
  ·have : i = l.length := by omega
   subst this
   rw [bz] at hc
   rw [if_neg (by simp), if_pos (hc.2 trivial)]
theorem Rises.len {e : Int} : ∀ {l : List Int} {b : Int}, Rises e b l → b < e → (l.length : Int) ≤ e - 1 - b
 | [], b, _, h => by simp; omega
 | x :: l, b, h, h1 => by
  have := Rises.len h.2.2 h.2.1
  have := h.1
  rw [aH]
  omega
theorem Rises.mem {e : Int} : ∀ {l : List Int} {b : Int}, Rises e b l → ∀ x ∈ l, b < x ∧ x < e
 | x :: l, b, h, y, hy => by
  rcases az.1 hy with rfl | hy
  ·exact ⟨h.1, h.2.1⟩
  ·have := Rises.mem h.2.2 y hy
   have := h.1
   omega
theorem Ea {y : ByteArray} (h : y.size = 0) : y.toList = [] := by
 unfold ByteArray.toList ByteArray.toList.loop
 rw [if_neg (by omega)]
 rfl
def xA (n : Nat) (s : ByteArray) (l : List cZ) : ByteArray := l.foldl (fun s x => s ++ (fq n x).getD (ByteArray.mk #[])) s
theorem Eb (n : Nat) (hn : 10 < n) {x : cZ} (hx : dg x = true) : ∃ y, fq n x = some y ∧ 1 ≤ y.size ∧ y.size ≤ 30 := by
 obtain ⟨y, h1, h2, h3⟩ := AR n hn x
 refine ⟨y, h1, ?_, h2⟩
 rcases bX y.size with h | h
 ·rw [Ea h, DH, hx] at h3
  exact absurd h3 (by decide)
 ·exact h
theorem AS (n : Nat) (hn : 10 < n) : ∀ (l : List cZ) (s : ByteArray), (∀ x ∈ l, dg x = true) → s.size + l.length ≤ (xA n s l).size
 | [], s, _ => ak _
 | x :: l, s, h => by
  obtain ⟨y, h1, h2, _⟩ := Eb n hn (h x aD)
  have := AS n hn l (s ++ (fq n x).getD (ByteArray.mk #[])) fun y hy => h y (ay _ hy)
  rw [bR, h1, bV] at this
  show _ ≤ (xA n (s ++ (fq n x).getD (ByteArray.mk #[])) l).size
  rw [h1, bV, aH]
  omega
def DJ (l : List cZ) : Prop := 1 ≤ l.length ∧ l.length ≤ 200 ∧ ∀ x ∈ l, dg x = true
theorem Mh (n : Nat) (hn : 200 < n) (l : List cZ) : Says ((oY n l).bind fun y4 => some (!(y4.toList == (ByteArray.mk #[]).toList))) (DJ l) := by
 unfold oY oB
 by_cases hl : ¬ l.length ≤ 200
 ·rw [if_pos (af (by omega)), ae, bj]
  exact Says.no (fun h => hl h.2.1)
 have hl : l.length ≤ 200 := Decidable.not_not.1 hl
 rw [if_neg (by simp; omega)]
 have := jo (S := fun F => (dZ q_) (li n F)) (fun f x r => ∃ (i : Nat) (s : ByteArray), x = (s, l, (l.length : Int), (i : Int)) ∧ i ≤ l.length ∧ l.length < f + i ∧ s.size ≤ 30 * i ∧ r = if (l.drop i).all dg = true then .inr ((xA n s (l.drop i), ()), ()) else .inl ((ByteArray.mk #[], ()), ())) (fun x r ⟨i, s, _, h1, h2, _⟩ => by omega) (fun f x F hF r => ?_) n (ByteArray.mk #[], l, (l.length : Int), 0) _ ⟨0, _, rfl, aB _, by omega, by decide, rfl⟩
 ·rw [this, bH, ae]
  cases h : l.all dg with
  | true =>
   have hr : ∀ x ∈ l, dg x = true := aN.1 h
   have hs := AS n (by omega) l (ByteArray.mk #[]) hr
   refine Says.iff (p := 1 ≤ l.length) ?_ ⟨fun h => ⟨h, hl, hr⟩, fun h => h.1⟩
   refine ⟨_, rfl, ?_⟩
   show (!((xA n (ByteArray.mk #[]) l).toList == (ByteArray.mk #[]).toList)) = true ↔ _
   by_cases h1 : 1 ≤ l.length
   ·rw [qw (by omega)]
    exact ⟨fun _ => h1, fun _ => rfl⟩
   ·have : l = [] := List.length_eq_zero_iff.1 (by omega)
    subst this
    rw [show xA n (ByteArray.mk #[]) [] = ByteArray.mk #[] from rfl, bj]
    exact ⟨fun h => absurd h (by decide), fun h => absurd h h1⟩
  | false =>
   rw [if_neg (by decide)]
   show Says (some (!((ByteArray.mk #[]).toList == (ByteArray.mk #[]).toList))) _
   rw [bj]
   exact Says.no (fun k => by rw [aN.2 k.2.2] at h; cases h)
 ·rintro ⟨i, s, rfl, h1, h2, hs, rfl⟩
  show li n F s l (l.length : Int) (i : Int) = _
  unfold li
  rcases am i l.length with hlt | hge
  ·obtain ⟨y, e1, e2, e3⟩ := AR n (by omega) (l.getD i (0, 0, 0))
   rw [if_pos (af (by omega)), if_pos (dc hlt), ai, dB (by omega), show fq n ((l.getD i (0, 0, 0)).1, (l.getD i (0, 0, 0)).2.1, (l.getD i (0, 0, 0)).2.2) = some y from e1, ae, e3, eE (d := ((0 : Int), (0 : Int), (0 : Int))) hlt, b6]
   cases hb : dg (l.getD i (0, 0, 0)) with
   | false => rfl
   | true =>
    rw [if_neg (by decide), if_pos (af (by omega)), aU]
    refine hF _ _ ⟨i + 1, _, rfl, by omega, by omega, by rw [bR]; omega, ?_⟩
    rw [show xA n s (l.getD i (0, 0, 0) :: l.drop (i + 1)) = xA n (s ++ (fq n (l.getD i (0, 0, 0))).getD (ByteArray.mk #[])) (l.drop (i + 1)) from rfl, e1, bV]
  ·have : i = l.length := by omega
   subst this
   rw [if_neg (by simp), bz]
   rfl
def yQ (t : Tsk) : Prop := (1 ≤ t.1 ∧ t.1 ≤ 100) ∧ (1 ≤ t.2.1 ∧ t.2.1 ≤ 1048576) ∧ (1 ≤ t.2.2.1 ∧ t.2.2.1 ≤ t.2.1) ∧ (0 ≤ t.2.2.2.1 ∧ t.2.2.2.1 ≤ 1048576)
def lA (m : Img) (t : Tsk) : Prop := yQ t ∧ Rises m.blocks.length (-1) t.blocks ∧ Rises m.safe.length (-1) t.outs ∧ DJ t.code
theorem Gu (n : Nat) (t : Tsk) : Says ((ez n t).bind fun y1 => some (Sh.eqT (.arr 4 (.int .i64)) y1 [t.1, t.2.1, t.2.2.1, t.2.2.2.1])) (yQ t) := by
 obtain ⟨a, b, c, d, t⟩ := t
 unfold ez yQ
 refine ⟨_, rfl, ?_⟩
 dsimp only
 rw [show ∀ x1 x2 x3 x4 y1 y2 y3 y4 : Int, Sh.eqT (.arr 4 (.int .i64)) [x1, x2, x3, x4] [y1, y2, y3, y4] = (x1 == y1 && (x2 == y2 && (x3 == y3 && (x4 == y4 && true)))) from fun _ _ _ _ _ _ _ _ => rfl]
 simp only [aj, ah, aR]
 constructor
 ·rintro ⟨h1, h2, h3, h4⟩
  repeat' split at h1
  all_goals (repeat' split at h4)
  all_goals (rw [h2] at h3; repeat' split at h2)
  all_goals (repeat' split at h3)
  all_goals omega
 ·rintro ⟨⟨h1, h2⟩, ⟨h3, h4⟩, ⟨h5, h6⟩, h7, h8⟩
  have e : (if (if 1048576 < b then 1048576 else b) > 1 then (if 1048576 < b then 1048576 else b) else 1) = b := by
   rw [if_neg (show ¬ 1048576 < b by omega)]; split <;> omega
  rw [e, if_neg (show ¬ 100 < a by omega), if_neg (show ¬ b < c by omega), if_neg (show ¬ 1048576 < d by omega)]
  refine ⟨?_, rfl, ?_, ?_⟩ <;> (split <;> omega)
theorem Bo (n : Nat) (hn : 200 < n) (hn2 : n < 1000000) (m : Img) (t : Tsk) (hb : m.blocks.length + 1 < n) (ho : m.safe.length + 1 < n) : Says (fM n t m) (lA m t) := by
 obtain ⟨b, h1, h2⟩ := Gu n t
 unfold fM
 unfold Option.bind at h1
 rw [show ez n (t.1, t.2.1, t.2.2.1, t.2.2.2.1, t.2.2.2.2.1, t.2.2.2.2.2.1, t.2.2.2.2.2.2) = ez n t from rfl]
 match hy : ez n t with
 | none => rw [hy] at h1; cases h1
 | some y =>
  rw [hy] at h1
  have h1 : Sh.eqT (.arr 4 (.int .i64)) y [t.1, t.2.1, t.2.2.1, t.2.2.2.1] = b := ao h1
  rw [ae, h1]
  cases b with
  | false => exact Says.no (fun h => by have := h2.2 h.1; cases this)
  | true =>
   rw [if_neg (by decide)]
   have hN : yQ t := h2.1 rfl
   by_cases h0 : t.code.length = 0
   ·rw [if_pos (show (((t.2.2.2.2.2.2.length : Nat) : Int) == 0) = true from ah.2 (by have : t.code.length = t.2.2.2.2.2.2.length := rfl; omega))]
    exact Says.no (fun h => by have := h.2.2.2.1; omega)
   ·rw [if_neg (show ¬ (((t.2.2.2.2.2.2.length : Nat) : Int) == 0) = true from fun h => h0 (by have h := ah.1 h; have : t.code.length = t.2.2.2.2.2.2.length := rfl; omega))]
    refine Says.iff (p := Rises m.blocks.length (-1) t.blocks ∧ Rises m.safe.length (-1) t.outs ∧ DJ t.code) ?_ ⟨fun h => ⟨hN, h⟩, fun h => h.2⟩
    exact Says.and (DI n t.blocks (m.blocks.length : Int) (by omega) (by omega) hn2) (Says.and (DI n t.outs (m.safe.length : Int) (by omega) (by omega) hn2) (Mh n hn t.code) rfl) rfl
def apart : List Int → List Int → Bool
 | _, [] => true
 | s, x :: l => !s.contains x && apart (s ++ [x]) l
def mF : List Int → List Int → List Int
 | s, [] => s
 | s, x :: l => if s.contains x = true then s else mF (s ++ [x]) l
theorem AT : ∀ {l s : List Int}, apart s l = true → mF s l = s ++ l
 | [], s, _ => by simp [mF]
 | x :: l, s, h => by
  unfold apart at h
  rw [aj, bT] at h
  unfold mF
  rw [if_neg (by rw [h.1]; decide), AT h.2, aI]
  rfl
theorem uU : ∀ {l k s : List Int}, apart s (l ++ k) = (apart s l && apart (s ++ l) k)
 | [], k, s => by simp [apart]
 | x :: l, k, s => by
  rw [List.cons_append, show apart s (x :: (l ++ k)) = (!s.contains x && apart (s ++ [x]) (l ++ k)) from rfl, show apart s (x :: l) = (!s.contains x && apart (s ++ [x]) l) from rfl, uU, Bool.and_assoc, aI]
  rfl
def own (s : List Int) : List Bool := (List.range 16).map fun i => s.contains ((i : Nat) : Int)
theorem Mi (s : List Int) {o : Int} (h0 : 0 ≤ o) (h1 : o < 16) : (own s).getD o.toNat false = s.contains o := by
 unfold own
 rw [au, bI, List.getElem?_range (by omega)]
 simp [Int.toNat_of_nonneg h0]
theorem Mj (s : List Int) {o : Int} (h0 : 0 ≤ o) (h1 : o < 16) : (own s).set o.toNat true = own (s ++ [o]) := by
 apply List.ext_getElem
 ·simp [own]
 ·intro i h2 h3
  have hi : i < 16 := by simpa [own] using h3
  rw [List.getElem_set]
  unfold own
  simp only [List.getElem_map, List.getElem_range, List.contains_append]
  by_cases h : o.toNat = i
  ·rw [if_pos h]
   have : ((i : Nat) : Int) = o := by omega
   rw [this]
   simp
  ·rw [if_neg h]
   have : ((i : Nat) : Int) ≠ o := by omega
   simp [this]
theorem Gv (n : Nat) (m : Img) (T : List Tsk) (a k : Int) (l : List Int) (hl : l.length < n) (hn : n < 1000000) (hb : ∀ x ∈ l, 0 ≤ x ∧ x < 16) (s : List Int) : rv n (T, a, k, l, (l.length : Int), 0, m.1, m.2.1, m.2.2.1, m.2.2.2.1, m.2.2.2.2.1, m.2.2.2.2.2.1, m.2.2.2.2.2.2, own s) = some (if apart s l = true then .inr ((T, a, k, ()), ((m.1, m.2.1, m.2.2.1, m.2.2.2.1, m.2.2.2.2.1, m.2.2.2.2.2.1, m.2.2.2.2.2.2, ()), (own (mF s l), ()), ())) else .inl ((false, ()), ((m.1, m.2.1, m.2.2.1, m.2.2.2.1, m.2.2.2.2.1, m.2.2.2.2.2.1, m.2.2.2.2.2.2, ()), (own (mF s l), ()), ()))) := by
 unfold rv
 refine jo (S := fun F => (fg (eo q_)) (uc n F))
  (fun f x r => ∃ (i : Nat) (s : List Int), x = (T, a, k, l, (l.length : Int), (i : Int), m.1, m.2.1, m.2.2.1, m.2.2.2.1, m.2.2.2.2.1, m.2.2.2.2.2.1, m.2.2.2.2.2.2, own s) ∧ i ≤ l.length ∧ l.length < f + i ∧ r = if apart s (l.drop i) = true then .inr ((T, a, k, ()), ((m.1, m.2.1, m.2.2.1, m.2.2.2.1, m.2.2.2.2.1, m.2.2.2.2.2.1, m.2.2.2.2.2.2, ()), (own (mF s (l.drop i)), ()), ())) else .inl ((false, ()), ((m.1, m.2.1, m.2.2.1, m.2.2.2.1, m.2.2.2.2.1, m.2.2.2.2.2.1, m.2.2.2.2.2.2, ()), (own (mF s (l.drop i)), ()), ()))) (fun x r ⟨i, s, _, h1, h2, _⟩ => by omega) (fun f x F hF r => ?_) n _ _ ⟨0, s, rfl, aB _, by omega, rfl⟩
 rintro ⟨i, s, rfl, h1, h2, rfl⟩
 show uc n F T a k l (l.length : Int) (i : Int) m.1 m.2.1 m.2.2.1 m.2.2.2.1 m.2.2.2.2.1 m.2.2.2.2.2.1 m.2.2.2.2.2.2 (own s) = _
 unfold uc
 rcases am i l.length with hlt | hge
 ·have hm : l.getD i 0 ∈ l := by rw [au, ax hlt]; exact bP hlt
  obtain ⟨h3, h4⟩ := hb _ hm
  have h5 : (decide (0 ≤ l.getD i 0) && decide (l.getD i 0 < 16)) = true := by rw [af h3, af h4]; rfl
  rw [if_pos (af (by omega)), if_pos (dc hlt), ai, if_pos h5, Mi s h3 h4, eE (d := (0 : Int)) hlt, dB (by omega)]
  unfold apart mF
  cases h : s.contains (l.getD i 0) with
  | true => rfl
  | false =>
   rw [if_neg (show ¬ (false = true) by decide), if_neg (show ¬ (false = true) by decide), if_pos h5, Mj s h3 h4, Bool.not_false, aU]
   exact hF _ _ ⟨i + 1, _, rfl, by omega, by omega, rfl⟩
 ·have : i = l.length := by omega
  subst this
  rw [if_neg (by simp), bz]
  rfl
def TasksOk (m : Img) : List Int → List Tsk → Prop
 | _, [] => True
 | s, t :: l => lA m t ∧ apart s t.outs = true ∧ TasksOk m (s ++ t.outs) l
theorem TasksOk.all {m : Img} : ∀ {l : List Tsk} {s : List Int}, TasksOk m s l ↔ (∀ t ∈ l, lA m t) ∧ apart s (l.flatMap Tsk.outs) = true
 | [], s => by simp [TasksOk, apart]
 | t :: l, s => by
  unfold TasksOk
  rw [TasksOk.all, cF, uU, aj, List.forall_mem_cons]
  exact ⟨fun ⟨h1, h2, h3, h4⟩ => ⟨⟨h1, h3⟩, h2, h4⟩, fun ⟨⟨h1, h3⟩, h2, h4⟩ => ⟨h1, h2, h3, h4⟩⟩
open Classical in
def yR (m : Img) : List Int → List Tsk → List Int
 | s, [] => s
 | s, t :: l => if lA m t then (if apart s t.outs = true then yR m (s ++ t.outs) l else mF s t.outs) else s
theorem Gw (n : Nat) (hn : 200 < n) (hn2 : n < 1000000) (m : Img) (hbl : m.blocks.length + 1 < n) (hs : m.safe.length ≤ 16) (hT : m.tasks.length < n) :
  Says ((rx n (m.tasks, (m.tasks.length : Int), 0, m.1, m.2.1, m.2.2.1, m.2.2.2.1, m.2.2.2.2.1, m.2.2.2.2.2.1, m.2.2.2.2.2.2, own [])).bind fun y => Sum.elim (fun z => some z.1.1) (fun z => some true) y) (TasksOk m [] m.tasks) := by
 unfold rx
 have hit := jo (S := fun F => (fg (C_ q_)) (ud n F))
  (fun f x r => ∃ (i : Nat) (s : List Int) (c : Bool), x = (m.tasks, (m.tasks.length : Int), (i : Int), m.1, m.2.1, m.2.2.1, m.2.2.2.1, m.2.2.2.2.1, m.2.2.2.2.2.1, m.2.2.2.2.2.2, own s) ∧ i ≤ m.tasks.length ∧ m.tasks.length < f + i ∧ (c = true ↔ TasksOk m s (m.tasks.drop i)) ∧ r = if c = true then .inr ((), ((m.1, m.2.1, m.2.2.1, m.2.2.2.1, m.2.2.2.2.1, m.2.2.2.2.2.1, m.2.2.2.2.2.2, ()), (own (yR m s (m.tasks.drop i)), ()), ())) else .inl ((false, ()), ((m.1, m.2.1, m.2.2.1, m.2.2.2.1, m.2.2.2.2.1, m.2.2.2.2.2.1, m.2.2.2.2.2.2, ()), (own (yR m s (m.tasks.drop i)), ()), ()))) (fun x r ⟨i, s, c, _, h1, h2, _⟩ => by omega) (fun f x F hF r => ?_) n (m.tasks, (m.tasks.length : Int), 0, m.1, m.2.1, m.2.2.1, m.2.2.2.1, m.2.2.2.2.1, m.2.2.2.2.2.1, m.2.2.2.2.2.2, own [])
 ·have := Classical.propDecidable (TasksOk m [] m.tasks)
  refine ⟨decide (TasksOk m [] m.tasks), ?_, ca⟩
  rw [hit _ ⟨0, [], decide (TasksOk m [] m.tasks), rfl, aB _, by omega, ca, rfl⟩, ae]
  cases decide (TasksOk m [] m.tasks) <;> rfl
 ·rintro ⟨i, s, c, rfl, h1, h2, hc, rfl⟩
  show ud n F m.tasks (m.tasks.length : Int) (i : Int) m.1 m.2.1 m.2.2.1 m.2.2.2.1 m.2.2.2.2.1 m.2.2.2.2.2.1 m.2.2.2.2.2.2 (own s) = _
  unfold ud
  rcases am i m.tasks.length with hlt | hge
  ·rw [eE (d := ((0 : Int), (0 : Int), (0 : Int), (0 : Int), ([] : List Int), ([] : List Int), ([] : List cZ))) hlt] at hc ⊢
   rw [if_pos (af (by omega)), if_pos (dc hlt), ai]
   generalize m.tasks.getD i (0, 0, 0, 0, [], [], []) = t at hc ⊢
   obtain ⟨b, e1, e2⟩ := Bo n hn hn2 m t hbl (by omega)
   rw [show fM n (t.1, t.2.1, t.2.2.1, t.2.2.2.1, t.2.2.2.2.1, t.2.2.2.2.2.1, t.2.2.2.2.2.2) (m.1, m.2.1, m.2.2.1, m.2.2.2.1, m.2.2.2.2.1, m.2.2.2.2.2.1, m.2.2.2.2.2.2) = some b from e1, ae]
   cases b with
   | false =>
    have ht : ¬ lA m t := fun h => by have := e2.2 h; cases this
    have hc0 : c = false := by cases c with
     | false => rfl
     | true => exact absurd (hc.1 rfl).1 ht
    rw [hc0]
    unfold yR
    rw [if_neg ht]
    rfl
   | true =>
    have ht : lA m t := e2.1 rfl
    have hr := ht.2.2.1
    have hlen := hr.len (by omega)
    have hmem := hr.mem
    rw [if_neg (by decide), Gv n m m.tasks _ _ t.outs (by omega) hn2 (fun x hx => by have := hmem x hx; omega) s, ae]
    unfold yR
    rw [if_pos ht]
    cases ha : apart s t.outs with
    | false =>
     have hc0 : c = false := by cases c with
      | false => rfl
      | true => have := (hc.1 rfl).2.1; rw [ha] at this; cases this
     rw [hc0]
     rfl
    | true =>
     rw [if_pos rfl, AT ha, if_pos rfl]
     dsimp only [Sum.elim_inr]
     rw [dB (by omega)]
     exact hF _ _ ⟨i + 1, s ++ t.outs, c, rfl, by omega, by omega, hc.trans ⟨fun h => h.2.2, fun h => ⟨ht, ha, h⟩⟩, rfl⟩
  ·have : i = m.tasks.length := by omega
   subst this
   rw [bz] at hc ⊢
   rw [if_neg (by simp), if_pos (hc.2 trivial)]
   rfl
def zC (m : Img) : Prop := (0 ≤ m.1 ∧ m.1 ≤ 100) ∧ (1 ≤ m.2.1 ∧ m.2.1 ≤ 100) ∧ (1 ≤ m.2.2.1 ∧ m.2.2.1 ≤ 100) ∧ (0 ≤ m.2.2.2.1 ∧ m.2.2.2.1 ≤ 16) ∧ m.safe.length ≤ 16 ∧ m.blocks.length ≤ 8 ∧ (1 ≤ m.tasks.length ∧ m.tasks.length ≤ 8)
def me (l : List (List Int)) : Prop := ∀ b ∈ l, 1 ≤ b.length ∧ b.length ≤ 8
def RightP (m : Img) : Prop := zC m ∧ me m.blocks ∧ TasksOk m [] m.tasks
theorem Gx (n : Nat) (hn2 : n < 1000000) (m : Img) (hT : m.blocks.length < n) (F : Option Bool) :
  ∃ c, (c = true ↔ me m.blocks) ∧ ru n (m.blocks, (m.blocks.length : Int), 0, m.1, m.2.1, m.2.2.1, m.2.2.2.1, m.2.2.2.2.1, m.2.2.2.2.2.1, m.2.2.2.2.2.2) = some (if c = true then .inr ((), ((m.1, m.2.1, m.2.2.1, m.2.2.2.1, m.2.2.2.2.1, m.2.2.2.2.2.1, m.2.2.2.2.2.2, ()), ())) else .inl ((false, ()), ((m.1, m.2.1, m.2.2.1, m.2.2.2.1, m.2.2.2.2.1, m.2.2.2.2.2.1, m.2.2.2.2.2.2, ()), ()))) := by
 unfold ru
 have := Classical.propDecidable (me m.blocks)
 refine ⟨decide (me m.blocks), ca, ?_⟩
 refine jo (S := fun F => (fg q_) (ub n F))
  (fun f x r => ∃ (i : Nat) (c : Bool), x = (m.blocks, (m.blocks.length : Int), (i : Int), m.1, m.2.1, m.2.2.1, m.2.2.2.1, m.2.2.2.2.1, m.2.2.2.2.2.1, m.2.2.2.2.2.2) ∧ i ≤ m.blocks.length ∧ m.blocks.length < f + i ∧ (c = true ↔ me (m.blocks.drop i)) ∧ r = if c = true then .inr ((), ((m.1, m.2.1, m.2.2.1, m.2.2.2.1, m.2.2.2.2.1, m.2.2.2.2.2.1, m.2.2.2.2.2.2, ()), ())) else .inl ((false, ()), ((m.1, m.2.1, m.2.2.1, m.2.2.2.1, m.2.2.2.2.1, m.2.2.2.2.2.1, m.2.2.2.2.2.2, ()), ()))) (fun x r ⟨i, c, _, h1, h2, _⟩ => by omega) (fun f x F hF r => ?_) n _ _ ⟨0, decide (me m.blocks), rfl, aB _, by omega, ca, rfl⟩
 rintro ⟨i, c, rfl, h1, h2, hc, rfl⟩
 show ub n F m.blocks (m.blocks.length : Int) (i : Int) m.1 m.2.1 m.2.2.1 m.2.2.2.1 m.2.2.2.2.1 m.2.2.2.2.2.1 m.2.2.2.2.2.2 = _
 unfold ub
 rcases am i m.blocks.length with hlt | hge
 ·rw [eE (d := ([] : List Int)) hlt] at hc
  rw [if_pos (af (by omega)), if_pos (dc hlt), ai]
  generalize m.blocks.getD i [] = b at hc ⊢
  have hc : c = true ↔ (1 ≤ b.length ∧ b.length ≤ 8) ∧ me (m.blocks.drop (i + 1)) := hc.trans List.forall_mem_cons
  have hno : ∀ (h : ¬ (1 ≤ b.length ∧ b.length ≤ 8)), c = false := fun h => by
   cases c with
   | false => rfl
   | true => exact absurd (hc.1 rfl).1 h
  by_cases g1 : b.length = 0
  ·rw [if_pos (ah.2 (by omega)), hno (by omega)]; rfl
  rw [if_neg (fun h => g1 (by have := ah.1 h; omega))]
  by_cases g2 : b.length ≤ 8
  ·rw [if_neg (by simp; omega), dB (by omega)]
   exact hF _ _ ⟨i + 1, c, rfl, by omega, by omega, hc.trans ⟨fun h => h.2, fun h => ⟨by omega, h⟩⟩, rfl⟩
  ·rw [if_pos (af (by omega)), hno (by omega)]; rfl
 ·have : i = m.blocks.length := by omega
  subst this
  rw [bz] at hc
  rw [if_neg (by simp), if_pos (hc.2 (fun b hb => by cases hb))]
theorem Qb {a b c d e f g : Bool} {A B C D E F G : Prop} (ha : a = true ↔ A) (hb : b = true ↔ B) (hc : c = true ↔ C) (hd : d = true ↔ D) (he : e = true ↔ E) (hf : f = true ↔ F) (hg : g = true ↔ G) : (a && (b && (c && (d && (e && (f && g)))))) = true ↔ A ∧ B ∧ C ∧ D ∧ E ∧ F ∧ G := by
 simp only [aj, ha, hb, hc, hd, he, hf, hg]
theorem uV (n : Nat) (hn : 200 < n) (hn2 : n < 1000000) (m : Img) : Says (ry n m) (RightP m) := by
 unfold ry
 have hN : ∀ {b : Bool}, (b = true ↔ zC m) → ∀ {o : Option Bool}, (zC m → Says o (RightP m)) → Says (if (!b) = true then some false else o) (RightP m) := fun {b} hb {o} ho => by
  cases b with
  | false => exact Says.no (fun h => by have := hb.2 h.1; cases this)
  | true => exact ho (hb.1 rfl)
 refine hN ?_ ?_
 ·refine Qb ?_ ?_ ?_ ?_ ?_ ?_ ?_
  all_goals (rw [ah])
  ·generalize m.1 = a; constructor <;> intro h <;> (repeat' split at *) <;> omega
  ·generalize m.2.1 = a; constructor <;> intro h <;> (repeat' split at *) <;> omega
  ·generalize m.2.2.1 = a; constructor <;> intro h <;> (repeat' split at *) <;> omega
  ·generalize m.2.2.2.1 = a; constructor <;> intro h <;> (repeat' split at *) <;> omega
  ·show (m.safe.length : Int) = _ ↔ _
   generalize m.safe.length = a; constructor <;> intro h <;> (repeat' split at *) <;> omega
  ·show (m.blocks.length : Int) = _ ↔ _
   generalize m.blocks.length = a; constructor <;> intro h <;> (repeat' split at *) <;> omega
  ·show (m.tasks.length : Int) = _ ↔ _
   generalize m.tasks.length = a; constructor <;> intro h <;> (repeat' split at *) <;> omega
 ·intro hI
  obtain ⟨_, _, _, _, h5, h6, h7⟩ := id hI
  obtain ⟨c, hc, e⟩ := Gx n hn2 m (by omega) none
  rw [e, ae]
  cases c with
  | false => exact Says.no (fun h => by have := hc.2 h.2.1; cases this)
  | true => exact (Gw n hn hn2 m (by omega) h5 (by omega)).iff ⟨fun h => ⟨hI, hc.1 rfl, h⟩, fun h => h.2.2⟩
def DK (m : Img) : Prop := m.safe.length + m.blocks.length + m.tasks.length ≤ 80 ∧ ∀ t ∈ m.tasks, t.code.length ≤ 4019
theorem AU (l : List cZ) : ∀ (r i p : Nat), i ≤ p → p < i + r → opAt l p = 23 → dd l p ∈ iW l r i
 | 0, i, p, h1, h2, h3 => by omega
 | r + 1, i, p, h1, h2, h3 => by
  rw [show iW l (r + 1) i = mD l i ++ iW l r (i + 1) from rfl, aA]
  by_cases h : i = p
  ·subst h
   left
   unfold mD
   rw [if_pos h3]
   exact aD
  ·exact .inr (AU l r (i + 1) p (by omega) (by omega) h3)
theorem yS {l : List cZ} (h : d7 l = 0) {i : Nat} (hi : i < l.length) (ho : opAt l i = 17 ∨ opAt l i = 18) : dd l i ∈ fQ l := by
 have hb := KT h hi
 unfold jK at hb
 rw [if_neg (by omega), if_pos ho, Bool.not_eq_false'] at hb
 unfold uC at hb
 obtain ⟨k, h1, h2⟩ := anyB_iff.1 hb
 simp only [aj, ah] at h2
 unfold fQ
 rw [if_pos h, ← h2.2.2]
 exact AU l _ _ k (aB _) (by omega) h2.2.1
theorem Bp {m : Img} {t : Tsk} (hl : d7 t.code = 0) (hb : fQ t.code = t.blocks) (ht : lA m t) : ∀ i ∈ t.code, i.1 = 17 ∨ i.1 = 18 → 0 ≤ i.2.1 ∧ i.2.1 < (m.blocks.length : Int) := by
 intro x hx ho
 obtain ⟨i, hi, e⟩ := co hx
 have e : t.code.getD i (0, 0, 0) = x := by rw [vy hi, e]
 have h := yS hl hi (by unfold opAt; rw [e]; exact ho)
 rw [hb] at h
 have := ht.2.1.mem _ h
 unfold dd at this
 rw [e] at this
 omega
open Classical in
def nI (n : Nat) (m : Img) (i : Int) : Int :=
 if RightP m then
  if i < 0 ∨ i ≥ (m.tasks.length : Int) then 14
  else
   let t := m.tasks.getD i.toNat (0, 0, 0, 0, [], [], [])
   if (fx bM n t.code).2 ≠ 0 then (fx bM n t.code).2 else if fQ t.code = t.blocks then (if t.code.all (lz m t) = true then 0 else 12) else 11
 else 12
theorem RightP.task {m : Img} (h : RightP m) {i : Int} (h0 : 0 ≤ i) (h1 : i < (m.tasks.length : Int)) : lA m (m.tasks.getD i.toNat (0, 0, 0, 0, [], [], [])) ∧ m.tasks.getD i.toNat (0, 0, 0, 0, [], [], []) ∈ m.tasks := by
 have hlt : i.toNat < m.tasks.length := by omega
 have hm : m.tasks.getD i.toNat ((0 : Int), (0 : Int), (0 : Int), (0 : Int), ([] : List Int), ([] : List Int), ([] : List cZ)) ∈ m.tasks := by rw [au, ax hlt]; exact bP hlt
 exact ⟨(TasksOk.all.1 h.2.2).1 _ hm, hm⟩
theorem Mk (n : Nat) (hn : 200 < n) (hn2 : n < 1000000) (m : Img) (i : Int) : lj n m i = some (nI n m i) := by
 obtain ⟨b, e1, e2⟩ := uV n hn hn2 m
 unfold lj
 rw [show ry n (m.1, m.2.1, m.2.2.1, m.2.2.2.1, m.2.2.2.2.1, m.2.2.2.2.2.1, m.2.2.2.2.2.2) = some b from e1, ae]
 unfold nI
 cases b with
 | false =>
  rw [if_pos (show (!false) = true from rfl), if_neg (show ¬ RightP m from fun h => by have := e2.2 h; cases this)]
 | true =>
  have hR := e2.1 rfl
  rw [if_pos hR, if_neg (by decide)]
  by_cases h0 : i < 0
  ·rw [if_pos (af h0), if_pos (.inl h0)]
  rw [if_neg (by simpa using h0)]
  by_cases h1 : i ≥ (m.tasks.length : Int)
  ·rw [if_pos (show decide (i ≥ (m.2.2.2.2.2.2.length : Int)) = true from af h1), if_pos (.inr h1)]
  rw [if_neg (show ¬ decide (i ≥ (m.2.2.2.2.2.2.length : Int)) = true from fun h => h1 (aT h)), if_neg (show ¬ (i < 0 ∨ i ≥ (m.tasks.length : Int)) by omega), if_pos (show (decide (0 ≤ i) && decide (i < (m.2.2.2.2.2.2.length : Int))) = true by rw [af (by omega), af (show i < (m.2.2.2.2.2.2.length : Int) from by have : (m.tasks.length : Int) = (m.2.2.2.2.2.2.length : Int) := rfl; omega)]; rfl)]
  obtain ⟨ht, hm⟩ := hR.task (i := i) (by omega) (by omega)
  rw [show m.2.2.2.2.2.2.getD i.toNat (0, 0, 0, 0, [], [], []) = m.tasks.getD i.toNat (0, 0, 0, 0, [], [], []) from rfl]
  generalize m.tasks.getD i.toNat (0, 0, 0, 0, [], [], []) = t at ht ⊢
  have hc : t.code.length < n := by have := ht.2.2.2.2.1; omega
  have hol : t.outs.length < n := by have := ht.2.2.1.len (by omega); have := hR.1.2.2.2.2.1; omega
  have hS : gQ n ((t.1, t.2.1, t.2.2.1, t.2.2.2.1, t.2.2.2.2.1, t.2.2.2.2.2.1, t.2.2.2.2.2.2), (m.1, m.2.1, m.2.2.1, m.2.2.2.1, m.2.2.2.2.1, m.2.2.2.2.2.1, m.2.2.2.2.2.2)) = some (fx bM n t.code).2 := by
   unfold gQ
   rw [show gi n (((t.1, t.2.1, t.2.2.1, t.2.2.2.1, t.2.2.2.2.1, t.2.2.2.2.2.1, t.2.2.2.2.2.2), (m.1, m.2.1, m.2.2.1, m.2.2.2.1, m.2.2.2.2.1, m.2.2.2.2.2.1, m.2.2.2.2.2.2)) : Tsk × Img).1.2.2.2.2.2.2 = some (fx bM n t.code) from Dr n t.code hc (by omega) hn2]
   rfl
  rw [hS, ae]
  dsimp only
  by_cases hz : (fx bM n t.code).2 ≠ 0
  ·rw [if_pos (aw.2 hz), if_pos hz]
  rw [if_neg (fun h => hz (aw.1 h)), if_neg hz]
  have hlk := (xx (Decidable.not_not.1 hz)).1
  have hB : uf n ((t.1, t.2.1, t.2.2.1, t.2.2.2.1, t.2.2.2.2.1, t.2.2.2.2.2.1, t.2.2.2.2.2.2), (m.1, m.2.1, m.2.2.1, m.2.2.2.1, m.2.2.2.2.1, m.2.2.2.2.2.1, m.2.2.2.2.2.2)) = some (if fQ t.code = t.blocks then 0 else 11) := by
   have := IW n t m hc (by omega) hn2
   rw [if_neg (fun h => h hlk)] at this
   exact this
  rw [hB, ae]
  by_cases hb : fQ t.code = t.blocks
  ·rw [if_pos hb, if_pos hb, if_neg (by decide)]
   have hN : yp n ((t.1, t.2.1, t.2.2.1, t.2.2.2.1, t.2.2.2.2.1, t.2.2.2.2.2.1, t.2.2.2.2.2.2), (m.1, m.2.1, m.2.2.1, m.2.2.2.1, m.2.2.2.2.1, m.2.2.2.2.2.1, m.2.2.2.2.2.2)) = _ := K8 n t m hc hol hn2 (Bp hlk hb ht)
   rw [hN, ae]
   cases t.code.all (lz m t) <;> rfl
  ·rw [if_neg hb, if_neg hb]
   rfl
def eT (k : Nat) : Int := if (100 : Int) < (k : Int) then 100 else (k : Int)
def eH (k : Nat) : Int := if (10000 : Int) < (k : Int) then 10000 else (k : Int)
theorem kO (k : Nat) : 0 ≤ eT k ∧ eT k ≤ 100 := by unfold eT; split <;> omega
theorem pC (k : Nat) : 0 ≤ eH k ∧ eH k ≤ 10000 := by unfold eH; split <;> omega
def jV (a : Int) (l : List (List Int)) : Int := l.foldl (fun a b => a + eT b.length) a
def na (a : Int) (l : List Tsk) : Int := l.foldl (fun a t => a + eT t.blocks.length + eT t.outs.length + (eH t.code.length).tdiv 20) a
theorem AV : ∀ {l : List (List Int)} {a : Int}, a ≤ jV a l ∧ jV a l ≤ a + 100 * l.length
 | [], a => by simp [jV]
 | b :: l, a => by
  have := AV (l := l) (a := a + eT b.length)
  have := kO b.length
  rw [show jV a (b :: l) = jV (a + eT b.length) l from rfl, aH]
  omega
theorem AW : ∀ {l : List Tsk} {a : Int}, a ≤ na a l ∧ ∀ t ∈ l, a + (eH t.code.length).tdiv 20 ≤ na a l
 | [], a => by simp [na]
 | t :: l, a => by
  obtain ⟨h1, h2⟩ := AW (l := l) (a := a + eT t.blocks.length + eT t.outs.length + (eH t.code.length).tdiv 20)
  have h3 := kO t.blocks.length
  have h4 := kO t.outs.length
  have h5 := pC t.code.length
  have h6 : (eH t.code.length).tdiv 20 = eH t.code.length / 20 := cM h5.1
  rw [show na a (t :: l) = na (a + eT t.blocks.length + eT t.outs.length + (eH t.code.length).tdiv 20) l from rfl, List.forall_mem_cons]
  refine ⟨by omega, by omega, fun u hu => ?_⟩
  have := h2 u hu
  omega
theorem IY (n : Nat) (hn : n < 1000000) (m : Img) (hT : m.blocks.length < n) (a : Int) (ha : 0 ≤ a ∧ a ≤ 80) : rm n (a, 0, m.1, m.2.1, m.2.2.1, m.2.2.2.1, m.2.2.2.2.1, m.2.2.2.2.2.1, m.2.2.2.2.2.2) = some (jV a m.blocks, m.1, m.2.1, m.2.2.1, m.2.2.2.1, m.2.2.2.2.1, m.2.2.2.2.2.1, m.2.2.2.2.2.2) := by
 unfold rm
 refine jo (S := fun F => (eo (dZ (C_ q_))) (tw n F))
  (fun f x r => ∃ (i : Nat) (b : Int), x = (b, (i : Int), m.1, m.2.1, m.2.2.1, m.2.2.2.1, m.2.2.2.2.1, m.2.2.2.2.2.1, m.2.2.2.2.2.2) ∧ i ≤ m.blocks.length ∧ m.blocks.length < f + i ∧ (0 ≤ b ∧ b ≤ 80 + 100 * i) ∧ r = (jV b (m.blocks.drop i), m.1, m.2.1, m.2.2.1, m.2.2.2.1, m.2.2.2.2.1, m.2.2.2.2.2.1, m.2.2.2.2.2.2)) (fun x r ⟨i, b, _, h1, h2, _⟩ => by omega) (fun f x F hF r => ?_) n _ _ ⟨0, a, rfl, aB _, by omega, by omega, rfl⟩
 rintro ⟨i, b, rfl, h1, h2, hb, rfl⟩
 show tw n F b (i : Int) m.1 m.2.1 m.2.2.1 m.2.2.2.1 m.2.2.2.2.1 m.2.2.2.2.2.1 m.2.2.2.2.2.2 = _
 unfold tw
 rcases am i m.blocks.length with hlt | hge
 ·rw [if_pos (show decide ((i : Int) < (m.2.2.2.2.2.1.length : Int)) = true from af (by exact_mod_cast hlt)), if_pos (show (decide (0 ≤ (i : Int)) && decide ((i : Int) < (m.2.2.2.2.2.1.length : Int))) = true from dc hlt), ai, dB (by omega), eE (d := ([] : List Int)) hlt]
  have hc := kO (m.blocks.getD i []).length
  show F (wrap .i64 (b + eT (m.blocks.getD i []).length), _) = _
  rw [dR (show -9223372036854775808 ≤ b + eT (m.blocks.getD i []).length by omega) (show b + eT (m.blocks.getD i []).length ≤ 9223372036854775807 by omega)]
  exact hF _ _ ⟨i + 1, _, rfl, by omega, by omega, by omega, rfl⟩
 ·have : i = m.blocks.length := by omega
  subst this
  rw [if_neg (by simp), bz]
  rfl
theorem IZ (n : Nat) (hn : n < 1000000) (m : Img) (hT : m.tasks.length < n) (hB : m.blocks.length < n) (a : Int) (ha : 0 ≤ a ∧ a ≤ 80 + 100 * m.blocks.length) : ot n (a, 0, m.1, m.2.1, m.2.2.1, m.2.2.2.1, m.2.2.2.2.1, m.2.2.2.2.2.1, m.2.2.2.2.2.2) = some (na a m.tasks, m.1, m.2.1, m.2.2.1, m.2.2.2.1, m.2.2.2.2.1, m.2.2.2.2.2.1, m.2.2.2.2.2.2) := by
 unfold ot
 refine jo (S := fun F => (eo (dZ (C_ q_))) (tx n F))
  (fun f x r => ∃ (i : Nat) (b : Int), x = (b, (i : Int), m.1, m.2.1, m.2.2.1, m.2.2.2.1, m.2.2.2.2.1, m.2.2.2.2.2.1, m.2.2.2.2.2.2) ∧ i ≤ m.tasks.length ∧ m.tasks.length < f + i ∧ (0 ≤ b ∧ b ≤ 80 + 100 * m.blocks.length + 700 * i) ∧ r = (na b (m.tasks.drop i), m.1, m.2.1, m.2.2.1, m.2.2.2.1, m.2.2.2.2.1, m.2.2.2.2.2.1, m.2.2.2.2.2.2)) (fun x r ⟨i, b, _, h1, h2, _⟩ => by omega) (fun f x F hF r => ?_) n _ _ ⟨0, a, rfl, aB _, by omega, by omega, rfl⟩
 rintro ⟨i, b, rfl, h1, h2, hb, rfl⟩
 show tx n F b (i : Int) m.1 m.2.1 m.2.2.1 m.2.2.2.1 m.2.2.2.2.1 m.2.2.2.2.2.1 m.2.2.2.2.2.2 = _
 unfold tx
 rcases am i m.tasks.length with hlt | hge
 ·rw [if_pos (show decide ((i : Int) < (m.2.2.2.2.2.2.length : Int)) = true from af (by exact_mod_cast hlt)), if_pos (show (decide (0 ≤ (i : Int)) && decide ((i : Int) < (m.2.2.2.2.2.2.length : Int))) = true from dc hlt), ai, dB (by omega), eE (d := ((0 : Int), (0 : Int), (0 : Int), (0 : Int), ([] : List Int), ([] : List Int), ([] : List cZ))) hlt]
  rw [show m.2.2.2.2.2.2.getD i (0, 0, 0, 0, [], [], []) = m.tasks.getD i (0, 0, 0, 0, [], [], []) from rfl]
  generalize m.tasks.getD i (0, 0, 0, 0, [], [], []) = t
  have h3 := kO t.blocks.length
  have h4 := kO t.outs.length
  have h5 := pC t.code.length
  have h6 : (eH t.code.length).tdiv 20 = eH t.code.length / 20 := cM h5.1
  show F (wrap .i64 (wrap .i64 (wrap .i64 (b + eT t.blocks.length) + eT t.outs.length) + wrap .i64 ((eH t.code.length).tdiv 20)), _) = _
  rw [dR (e := (eH t.code.length).tdiv 20) (by omega) (by omega), dR (e := b + eT t.blocks.length) (by omega) (by omega), dR (e := b + eT t.blocks.length + eT t.outs.length) (by omega) (by omega), dR (e := b + eT t.blocks.length + eT t.outs.length + (eH t.code.length).tdiv 20) (by omega) (by omega)]
  exact hF _ _ ⟨i + 1, _, rfl, by omega, by omega, by omega, rfl⟩
 ·have : i = m.tasks.length := by omega
  subst this
  rw [if_neg (by simp), bz]
  rfl
theorem K9 (n : Nat) (hn0 : 200 < n) (hn : n < 1000000) (m : Img) (hs : m.safe.length < 9000000000000000 ∧ m.blocks.length < 9000000000000000 ∧ m.tasks.length < 9000000000000000) : nC n m = some 0 ∨ (nC n m = some 1 ∧ DK m) := by
 unfold nC
 have e : wrap .i64 (wrap .i64 ((m.safe.length : Int) + (m.blocks.length : Int)) + (m.tasks.length : Int)) = (m.safe.length : Int) + (m.blocks.length : Int) + (m.tasks.length : Int) := by
  rw [dR (e := (m.safe.length : Int) + (m.blocks.length : Int)) (by omega) (by omega), dR (by omega) (by omega)]
 rw [show wrap .i64 (wrap .i64 ((m.2.2.2.2.1.length : Int) + (m.2.2.2.2.2.1.length : Int)) + (m.2.2.2.2.2.2.length : Int)) = (m.safe.length : Int) + (m.blocks.length : Int) + (m.tasks.length : Int) from e]
 by_cases h : (m.safe.length : Int) + (m.blocks.length : Int) + (m.tasks.length : Int) > 80
 ·rw [if_pos (af h)]
  exact .inl rfl
 rw [if_neg (by simpa using h), IY n hn m (by omega) _ (by omega), ae]
 obtain ⟨hB1, hB2⟩ := AV (l := m.blocks) (a := (m.safe.length : Int) + (m.blocks.length : Int) + (m.tasks.length : Int))
 rw [show ot n _ = _ from IZ n hn m (by omega) (by omega) (jV ((m.safe.length : Int) + (m.blocks.length : Int) + (m.tasks.length : Int)) m.blocks) (by omega), ae]
 dsimp only
 obtain ⟨hT1, hT2⟩ := AW (l := m.tasks) (a := jV ((m.safe.length : Int) + (m.blocks.length : Int) + (m.tasks.length : Int)) m.blocks)
 split
 ·exact .inl rfl
 ·rename_i h2
  have h2 : na (jV ((m.safe.length : Int) + (m.blocks.length : Int) + (m.tasks.length : Int)) m.blocks) m.tasks ≤ 200 := by simpa using h2
  refine .inr ⟨rfl, by omega, fun t ht => ?_⟩
  have h3 := hT2 t ht
  have h5 := pC t.code.length
  have h6 : (eH t.code.length).tdiv 20 = eH t.code.length / 20 := cM h5.1
  have h7 : eH t.code.length ≤ 4019 := by omega
  unfold eH at h7
  split at h7 <;> omega
abbrev qx (m : Img) (i : Int) : Tsk := m.tasks.getD i.toNat (0, 0, 0, 0, [], [], [])
theorem Gy {n : Nat} {m : Img} {i : Int} (h : nI n m i = 0) : RightP m ∧ (0 ≤ i ∧ i < (m.tasks.length : Int)) ∧ (fx bM n (qx m i).code).2 = 0 ∧ fQ (qx m i).code = (qx m i).blocks ∧ (qx m i).code.all (lz m (qx m i)) = true := by
 unfold nI at h
 split at h
 ·rename_i hR
  split at h
  ·cases h
  ·dsimp only at h
   split at h
   ·rename_i h1
    exact absurd h h1
   ·rename_i h1
    split at h
    ·rename_i h2
     split at h
     ·rename_i h3
      exact ⟨hR, by omega, Decidable.not_not.1 h1, h2, h3⟩
     ·cases h
    ·cases h
 ·cases h
theorem zD {i : Int} {k : Nat} (h0 : 0 ≤ i) (h1 : i < (k : Int)) : (decide (0 ≤ i) && decide (i < (k : Int))) = true := by rw [af h0, af h1]; rfl
abbrev Qc : Sh := .pair (.int .i64) (.pair (.int .i64) (.pair (.int .i64) (.pair (.int .i64) (.pair (.sl (.int .i64)) (.pair (.sl (.int .i64)) (.sl (.pair (.int .i64) (.pair (.int .i64) (.int .i64)))))))))
abbrev OI : Sh := .pair (.int .i64) (.pair (.int .i64) (.pair (.int .i64) (.pair (.int .i64) (.pair (.sl (.int .i64)) (.pair (.sl (.sl (.int .i64))) (.sl Qc))))))
theorem I8 (n : Nat) (hn0 : 200 < n) (hn : n < 1000000) {m : Img} (h : Sh.Sm OI m) : nC n m = some 0 ∨ (nC n m = some 1 ∧ DK m) :=
 K9 n hn0 hn m (by
  have h1 : m.safe.length ≤ 140737488351232 := h.2.2.2.2.1
  have h2 : m.blocks.length ≤ 140737488351232 := h.2.2.2.2.2.1
  have h3 : m.tasks.length ≤ 140737488351232 := h.2.2.2.2.2.2
  omega)
end Go.Proofs.Dk
