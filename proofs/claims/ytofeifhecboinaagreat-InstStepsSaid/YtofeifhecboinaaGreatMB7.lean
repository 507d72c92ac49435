/- A part of the proofs: Plain: what a step of the reference machine does, operation by operation. -/
import Derived.Test.YtofeifhecboinaaGreatMB6
import Derived.Test.YtofeifhecboinaaGreatMB4
set_option linter.unusedVariables false
set_option linter.unusedSimpArgs false
noncomputable section
namespace Go.Proofs.Dk
open Go Go.IntKind
set_option maxRecDepth 100000
theorem R5 (n : Nat) (v16 : Int) (v17 : (List (Int × (Int × Int)))) (v18 : (List Int)) (v19 : Bool) (v20 : Int) (v21 : (List Int)) (v22 : (List Int)) (v23 : (List Int)) (v24 : (List Int)) (v25 : (List Int)) (v26 : (List Bool)) (v27 : (List Int)) (v28 : Int) (v29 : Int) (v30 : Int) (v31 : (List (List Int))) (v32 : Int) (v33 : Int) (v35 : Int) (v36 : Int) : ep n v16 v17 v18 v19 v20 v21 v22 v23 v24 v25 v26 v27 v28 v29 v30 v31 v32 v33 (1 : Int) v35 v36 = (if (decide ((v21.length + 1) * 8 ≤ 140737488355328) && decide (1 ≤ 8)) then (some (.inl ((v16, ()), ((v17, v18, v19, v20, (v21 ++ [v35]), v22, v23, v24, v25, v26, v27, v28, v29, v30, ()), (v31, ()), (v32, v33, ()), ((1 : Int), v35, v36, ()), ())))) else none) := by kernel_rfl
theorem R6 (n : Nat) (v16 : Int) (v17 : (List (Int × (Int × Int)))) (v18 : (List Int)) (v19 : Bool) (v20 : Int) (v21 : (List Int)) (v22 : (List Int)) (v23 : (List Int)) (v24 : (List Int)) (v25 : (List Int)) (v26 : (List Bool)) (v27 : (List Int)) (v28 : Int) (v29 : Int) (v30 : Int) (v31 : (List (List Int))) (v32 : Int) (v33 : Int) (v35 : Int) (v36 : Int) : ep n v16 v17 v18 v19 v20 v21 v22 v23 v24 v25 v26 v27 v28 v29 v30 v31 v32 v33 (2 : Int) v35 v36 = ((ea n v17 v18 v19 v20 v21 v22 v23 v24 v25 v26 v27 v28 v29 v30).bind fun y49 => (some (.inl ((v16, ()), ((y49.2.1, y49.2.2.1, y49.2.2.2.1, y49.2.2.2.2.1, y49.2.2.2.2.2.1, y49.2.2.2.2.2.2.1, y49.2.2.2.2.2.2.2.1, y49.2.2.2.2.2.2.2.2.1, y49.2.2.2.2.2.2.2.2.2.1, y49.2.2.2.2.2.2.2.2.2.2.1, y49.2.2.2.2.2.2.2.2.2.2.2.1, y49.2.2.2.2.2.2.2.2.2.2.2.2.1, y49.2.2.2.2.2.2.2.2.2.2.2.2.2.1, y49.2.2.2.2.2.2.2.2.2.2.2.2.2.2, ()), (v31, ()), (v32, v33, ()), ((2 : Int), v35, v36, ()), ()))))) := by kernel_rfl
theorem R7 (n : Nat) (v16 : Int) (v17 : (List (Int × (Int × Int)))) (v18 : (List Int)) (v19 : Bool) (v20 : Int) (v21 : (List Int)) (v22 : (List Int)) (v23 : (List Int)) (v24 : (List Int)) (v25 : (List Int)) (v26 : (List Bool)) (v27 : (List Int)) (v28 : Int) (v29 : Int) (v30 : Int) (v31 : (List (List Int))) (v32 : Int) (v33 : Int) (v35 : Int) (v36 : Int) : ep n v16 v17 v18 v19 v20 v21 v22 v23 v24 v25 v26 v27 v28 v29 v30 v31 v32 v33 (3 : Int) v35 v36 = ((ea n v17 v18 v19 v20 v21 v22 v23 v24 v25 v26 v27 v28 v29 v30).bind fun y50 => (if (decide ((y50.2.2.2.2.2.1.length + 1) * 8 ≤ 140737488355328) && decide (1 ≤ 8)) then (if (decide (((y50.2.2.2.2.2.1 ++ [y50.1]).length + 1) * 8 ≤ 140737488355328) && decide (1 ≤ 8)) then (some (.inl ((v16, ()), ((y50.2.1, y50.2.2.1, y50.2.2.2.1, y50.2.2.2.2.1, ((y50.2.2.2.2.2.1 ++ [y50.1]) ++ [y50.1]), y50.2.2.2.2.2.2.1, y50.2.2.2.2.2.2.2.1, y50.2.2.2.2.2.2.2.2.1, y50.2.2.2.2.2.2.2.2.2.1, y50.2.2.2.2.2.2.2.2.2.2.1, y50.2.2.2.2.2.2.2.2.2.2.2.1, y50.2.2.2.2.2.2.2.2.2.2.2.2.1, y50.2.2.2.2.2.2.2.2.2.2.2.2.2.1, y50.2.2.2.2.2.2.2.2.2.2.2.2.2.2, ()), (v31, ()), (v32, v33, ()), ((3 : Int), v35, v36, ()), ())))) else none) else none)) := by kernel_rfl
theorem R8 (n : Nat) (v16 : Int) (v17 : (List (Int × (Int × Int)))) (v18 : (List Int)) (v19 : Bool) (v20 : Int) (v21 : (List Int)) (v22 : (List Int)) (v23 : (List Int)) (v24 : (List Int)) (v25 : (List Int)) (v26 : (List Bool)) (v27 : (List Int)) (v28 : Int) (v29 : Int) (v30 : Int) (v31 : (List (List Int))) (v32 : Int) (v33 : Int) (v35 : Int) (v36 : Int) : ep n v16 v17 v18 v19 v20 v21 v22 v23 v24 v25 v26 v27 v28 v29 v30 v31 v32 v33 (4 : Int) v35 v36 = ((ea n v17 v18 v19 v20 v21 v22 v23 v24 v25 v26 v27 v28 v29 v30).bind fun y37 => ((ea n y37.2.1 y37.2.2.1 y37.2.2.2.1 y37.2.2.2.2.1 y37.2.2.2.2.2.1 y37.2.2.2.2.2.2.1 y37.2.2.2.2.2.2.2.1 y37.2.2.2.2.2.2.2.2.1 y37.2.2.2.2.2.2.2.2.2.1 y37.2.2.2.2.2.2.2.2.2.2.1 y37.2.2.2.2.2.2.2.2.2.2.2.1 y37.2.2.2.2.2.2.2.2.2.2.2.2.1 y37.2.2.2.2.2.2.2.2.2.2.2.2.2.1 y37.2.2.2.2.2.2.2.2.2.2.2.2.2.2).bind fun y38 => (if (decide ((y38.2.2.2.2.2.1.length + 1) * 8 ≤ 140737488355328) && decide (1 ≤ 8)) then (if (decide (((y38.2.2.2.2.2.1 ++ [y37.1]).length + 1) * 8 ≤ 140737488355328) && decide (1 ≤ 8)) then (some (.inl ((v16, ()), ((y38.2.1, y38.2.2.1, y38.2.2.2.1, y38.2.2.2.2.1, ((y38.2.2.2.2.2.1 ++ [y37.1]) ++ [y38.1]), y38.2.2.2.2.2.2.1, y38.2.2.2.2.2.2.2.1, y38.2.2.2.2.2.2.2.2.1, y38.2.2.2.2.2.2.2.2.2.1, y38.2.2.2.2.2.2.2.2.2.2.1, y38.2.2.2.2.2.2.2.2.2.2.2.1, y38.2.2.2.2.2.2.2.2.2.2.2.2.1, y38.2.2.2.2.2.2.2.2.2.2.2.2.2.1, y38.2.2.2.2.2.2.2.2.2.2.2.2.2.2, ()), (v31, ()), (v32, v33, ()), ((4 : Int), v35, v36, ()), ())))) else none) else none))) := by kernel_rfl
theorem R9 (n : Nat) (v16 : Int) (v17 : (List (Int × (Int × Int)))) (v18 : (List Int)) (v19 : Bool) (v20 : Int) (v21 : (List Int)) (v22 : (List Int)) (v23 : (List Int)) (v24 : (List Int)) (v25 : (List Int)) (v26 : (List Bool)) (v27 : (List Int)) (v28 : Int) (v29 : Int) (v30 : Int) (v31 : (List (List Int))) (v32 : Int) (v33 : Int) (v35 : Int) (v36 : Int) : ep n v16 v17 v18 v19 v20 v21 v22 v23 v24 v25 v26 v27 v28 v29 v30 v31 v32 v33 (5 : Int) v35 v36 = ((ea n v17 v18 v19 v20 v21 v22 v23 v24 v25 v26 v27 v28 v29 v30).bind fun y40 => ((ea n y40.2.1 y40.2.2.1 y40.2.2.2.1 y40.2.2.2.2.1 y40.2.2.2.2.2.1 y40.2.2.2.2.2.2.1 y40.2.2.2.2.2.2.2.1 y40.2.2.2.2.2.2.2.2.1 y40.2.2.2.2.2.2.2.2.2.1 y40.2.2.2.2.2.2.2.2.2.2.1 y40.2.2.2.2.2.2.2.2.2.2.2.1 y40.2.2.2.2.2.2.2.2.2.2.2.2.1 y40.2.2.2.2.2.2.2.2.2.2.2.2.2.1 y40.2.2.2.2.2.2.2.2.2.2.2.2.2.2).bind fun y41 => ((fm n v35 y41.1 y40.1).bind fun y42 => (if (decide ((y41.2.2.2.2.2.1.length + 1) * 8 ≤ 140737488355328) && decide (1 ≤ 8)) then (if y42.2 then (some (.inl ((v16, ()), ((y41.2.1, y41.2.2.1, y41.2.2.2.1, y41.2.2.2.2.1, (y41.2.2.2.2.2.1 ++ [y42.1]), y41.2.2.2.2.2.2.1, y41.2.2.2.2.2.2.2.1, y41.2.2.2.2.2.2.2.2.1, y41.2.2.2.2.2.2.2.2.2.1, y41.2.2.2.2.2.2.2.2.2.2.1, y41.2.2.2.2.2.2.2.2.2.2.2.1, y41.2.2.2.2.2.2.2.2.2.2.2.2.1, (wrap .i64 (y41.2.2.2.2.2.2.2.2.2.2.2.2.2.1 + 1)), y41.2.2.2.2.2.2.2.2.2.2.2.2.2.2, ()), (v31, ()), (v32, v33, ()), ((5 : Int), v35, v36, ()), ())))) else (some (.inl ((v16, ()), ((y41.2.1, y41.2.2.1, y41.2.2.2.1, y41.2.2.2.2.1, (y41.2.2.2.2.2.1 ++ [y42.1]), y41.2.2.2.2.2.2.1, y41.2.2.2.2.2.2.2.1, y41.2.2.2.2.2.2.2.2.1, y41.2.2.2.2.2.2.2.2.2.1, y41.2.2.2.2.2.2.2.2.2.2.1, y41.2.2.2.2.2.2.2.2.2.2.2.1, y41.2.2.2.2.2.2.2.2.2.2.2.2.1, y41.2.2.2.2.2.2.2.2.2.2.2.2.2.1, y41.2.2.2.2.2.2.2.2.2.2.2.2.2.2, ()), (v31, ()), (v32, v33, ()), ((5 : Int), v35, v36, ()), ()))))) else none)))) := by kernel_rfl
theorem Sa (n : Nat) (v16 : Int) (v17 : (List (Int × (Int × Int)))) (v18 : (List Int)) (v19 : Bool) (v20 : Int) (v21 : (List Int)) (v22 : (List Int)) (v23 : (List Int)) (v24 : (List Int)) (v25 : (List Int)) (v26 : (List Bool)) (v27 : (List Int)) (v28 : Int) (v29 : Int) (v30 : Int) (v31 : (List (List Int))) (v32 : Int) (v33 : Int) (v35 : Int) (v36 : Int) : ep n v16 v17 v18 v19 v20 v21 v22 v23 v24 v25 v26 v27 v28 v29 v30 v31 v32 v33 (6 : Int) v35 v36 = ((ea n v17 v18 v19 v20 v21 v22 v23 v24 v25 v26 v27 v28 v29 v30).bind fun y51 => (if (decide ((y51.2.2.2.2.2.1.length + 1) * 8 ≤ 140737488355328) && decide (1 ≤ 8)) then (some (.inl ((v16, ()), ((y51.2.1, y51.2.2.1, y51.2.2.2.1, y51.2.2.2.2.1, (y51.2.2.2.2.2.1 ++ [(wrap .i64 (0 - y51.1))]), y51.2.2.2.2.2.2.1, y51.2.2.2.2.2.2.2.1, y51.2.2.2.2.2.2.2.2.1, y51.2.2.2.2.2.2.2.2.2.1, y51.2.2.2.2.2.2.2.2.2.2.1, y51.2.2.2.2.2.2.2.2.2.2.2.1, y51.2.2.2.2.2.2.2.2.2.2.2.2.1, y51.2.2.2.2.2.2.2.2.2.2.2.2.2.1, y51.2.2.2.2.2.2.2.2.2.2.2.2.2.2, ()), (v31, ()), (v32, v33, ()), ((6 : Int), v35, v36, ()), ())))) else none)) := by kernel_rfl
theorem Sb (n : Nat) (v16 : Int) (v17 : (List (Int × (Int × Int)))) (v18 : (List Int)) (v19 : Bool) (v20 : Int) (v21 : (List Int)) (v22 : (List Int)) (v23 : (List Int)) (v24 : (List Int)) (v25 : (List Int)) (v26 : (List Bool)) (v27 : (List Int)) (v28 : Int) (v29 : Int) (v30 : Int) (v31 : (List (List Int))) (v32 : Int) (v33 : Int) (v35 : Int) (v36 : Int) : ep n v16 v17 v18 v19 v20 v21 v22 v23 v24 v25 v26 v27 v28 v29 v30 v31 v32 v33 (7 : Int) v35 v36 = ((ea n v17 v18 v19 v20 v21 v22 v23 v24 v25 v26 v27 v28 v29 v30).bind fun y52 => (if (decide ((y52.2.2.2.2.2.1.length + 1) * 8 ≤ 140737488355328) && decide (1 ≤ 8)) then (some (.inl ((v16, ()), ((y52.2.1, y52.2.2.1, y52.2.2.2.1, y52.2.2.2.2.1, (y52.2.2.2.2.2.1 ++ [(wrap .i64 (1 - y52.1))]), y52.2.2.2.2.2.2.1, y52.2.2.2.2.2.2.2.1, y52.2.2.2.2.2.2.2.2.1, y52.2.2.2.2.2.2.2.2.2.1, y52.2.2.2.2.2.2.2.2.2.2.1, y52.2.2.2.2.2.2.2.2.2.2.2.1, y52.2.2.2.2.2.2.2.2.2.2.2.2.1, y52.2.2.2.2.2.2.2.2.2.2.2.2.2.1, y52.2.2.2.2.2.2.2.2.2.2.2.2.2.2, ()), (v31, ()), (v32, v33, ()), ((7 : Int), v35, v36, ()), ())))) else none)) := by kernel_rfl
theorem Sc (n : Nat) (v16 : Int) (v17 : (List (Int × (Int × Int)))) (v18 : (List Int)) (v19 : Bool) (v20 : Int) (v21 : (List Int)) (v22 : (List Int)) (v23 : (List Int)) (v24 : (List Int)) (v25 : (List Int)) (v26 : (List Bool)) (v27 : (List Int)) (v28 : Int) (v29 : Int) (v30 : Int) (v31 : (List (List Int))) (v32 : Int) (v33 : Int) (v35 : Int) (v36 : Int) : ep n v16 v17 v18 v19 v20 v21 v22 v23 v24 v25 v26 v27 v28 v29 v30 v31 v32 v33 (8 : Int) v35 v36 = ((ea n v17 v18 v19 v20 v21 v22 v23 v24 v25 v26 v27 v28 v29 v30).bind fun y43 => ((ea n y43.2.1 y43.2.2.1 y43.2.2.2.1 y43.2.2.2.2.1 y43.2.2.2.2.2.1 y43.2.2.2.2.2.2.1 y43.2.2.2.2.2.2.2.1 y43.2.2.2.2.2.2.2.2.1 y43.2.2.2.2.2.2.2.2.2.1 y43.2.2.2.2.2.2.2.2.2.2.1 y43.2.2.2.2.2.2.2.2.2.2.2.1 y43.2.2.2.2.2.2.2.2.2.2.2.2.1 y43.2.2.2.2.2.2.2.2.2.2.2.2.2.1 y43.2.2.2.2.2.2.2.2.2.2.2.2.2.2).bind fun y44 => (if (decide ((y44.2.2.2.2.2.1.length + 1) * 8 ≤ 140737488355328) && decide (1 ≤ 8)) then (some (.inl ((v16, ()), ((y44.2.1, y44.2.2.1, y44.2.2.2.1, y44.2.2.2.2.1, (y44.2.2.2.2.2.1 ++ [(if y43.1 < y44.1 then y43.1 else y44.1)]), y44.2.2.2.2.2.2.1, y44.2.2.2.2.2.2.2.1, y44.2.2.2.2.2.2.2.2.1, y44.2.2.2.2.2.2.2.2.2.1, y44.2.2.2.2.2.2.2.2.2.2.1, y44.2.2.2.2.2.2.2.2.2.2.2.1, y44.2.2.2.2.2.2.2.2.2.2.2.2.1, y44.2.2.2.2.2.2.2.2.2.2.2.2.2.1, y44.2.2.2.2.2.2.2.2.2.2.2.2.2.2, ()), (v31, ()), (v32, v33, ()), ((8 : Int), v35, v36, ()), ())))) else none))) := by kernel_rfl
theorem Sd (n : Nat) (v16 : Int) (v17 : (List (Int × (Int × Int)))) (v18 : (List Int)) (v19 : Bool) (v20 : Int) (v21 : (List Int)) (v22 : (List Int)) (v23 : (List Int)) (v24 : (List Int)) (v25 : (List Int)) (v26 : (List Bool)) (v27 : (List Int)) (v28 : Int) (v29 : Int) (v30 : Int) (v31 : (List (List Int))) (v32 : Int) (v33 : Int) (v35 : Int) (v36 : Int) : ep n v16 v17 v18 v19 v20 v21 v22 v23 v24 v25 v26 v27 v28 v29 v30 v31 v32 v33 (9 : Int) v35 v36 = ((ea n v17 v18 v19 v20 v21 v22 v23 v24 v25 v26 v27 v28 v29 v30).bind fun y46 => ((ea n y46.2.1 y46.2.2.1 y46.2.2.2.1 y46.2.2.2.2.1 y46.2.2.2.2.2.1 y46.2.2.2.2.2.2.1 y46.2.2.2.2.2.2.2.1 y46.2.2.2.2.2.2.2.2.1 y46.2.2.2.2.2.2.2.2.2.1 y46.2.2.2.2.2.2.2.2.2.2.1 y46.2.2.2.2.2.2.2.2.2.2.2.1 y46.2.2.2.2.2.2.2.2.2.2.2.2.1 y46.2.2.2.2.2.2.2.2.2.2.2.2.2.1 y46.2.2.2.2.2.2.2.2.2.2.2.2.2.2).bind fun y47 => (if (decide ((y47.2.2.2.2.2.1.length + 1) * 8 ≤ 140737488355328) && decide (1 ≤ 8)) then (some (.inl ((v16, ()), ((y47.2.1, y47.2.2.1, y47.2.2.2.1, y47.2.2.2.2.1, (y47.2.2.2.2.2.1 ++ [(if y46.1 > y47.1 then y46.1 else y47.1)]), y47.2.2.2.2.2.2.1, y47.2.2.2.2.2.2.2.1, y47.2.2.2.2.2.2.2.2.1, y47.2.2.2.2.2.2.2.2.2.1, y47.2.2.2.2.2.2.2.2.2.2.1, y47.2.2.2.2.2.2.2.2.2.2.2.1, y47.2.2.2.2.2.2.2.2.2.2.2.2.1, y47.2.2.2.2.2.2.2.2.2.2.2.2.2.1, y47.2.2.2.2.2.2.2.2.2.2.2.2.2.2, ()), (v31, ()), (v32, v33, ()), ((9 : Int), v35, v36, ()), ())))) else none))) := by kernel_rfl
theorem PI (n : Nat) (v16 : Int) (v17 : (List (Int × (Int × Int)))) (v18 : (List Int)) (v19 : Bool) (v20 : Int) (v21 : (List Int)) (v22 : (List Int)) (v23 : (List Int)) (v24 : (List Int)) (v25 : (List Int)) (v26 : (List Bool)) (v27 : (List Int)) (v28 : Int) (v29 : Int) (v30 : Int) (v31 : (List (List Int))) (v32 : Int) (v33 : Int) (v35 : Int) (v36 : Int) : ep n v16 v17 v18 v19 v20 v21 v22 v23 v24 v25 v26 v27 v28 v29 v30 v31 v32 v33 (10 : Int) v35 v36 = (some (.inl ((v16, ()), ((v17, v18, v19, v20, v21, v22, v23, v24, v25, v26, v27, v28, v29, v30, ()), (v31, ()), (v32, v33, ()), ((10 : Int), v35, v36, ()), ())))) := by kernel_rfl
theorem PJ (n : Nat) (v16 : Int) (v17 : (List (Int × (Int × Int)))) (v18 : (List Int)) (v19 : Bool) (v20 : Int) (v21 : (List Int)) (v22 : (List Int)) (v23 : (List Int)) (v24 : (List Int)) (v25 : (List Int)) (v26 : (List Bool)) (v27 : (List Int)) (v28 : Int) (v29 : Int) (v30 : Int) (v31 : (List (List Int))) (v32 : Int) (v33 : Int) (v35 : Int) (v36 : Int) : ep n v16 v17 v18 v19 v20 v21 v22 v23 v24 v25 v26 v27 v28 v29 v30 v31 v32 v33 (11 : Int) v35 v36 = (if (decide (0 ≤ v35) && decide (v35 < 8)) then (if (decide ((v21.length + 1) * 8 ≤ 140737488355328) && decide (1 ≤ 8)) then (some (.inl ((v16, ()), ((v17, v18, v19, v20, (v21 ++ [(v22.getD v35.toNat (0 : Int))]), v22, v23, v24, v25, v26, v27, v28, v29, v30, ()), (v31, ()), (v32, v33, ()), ((11 : Int), v35, v36, ()), ())))) else none) else none) := by kernel_rfl
theorem PK (n : Nat) (v16 : Int) (v17 : (List (Int × (Int × Int)))) (v18 : (List Int)) (v19 : Bool) (v20 : Int) (v21 : (List Int)) (v22 : (List Int)) (v23 : (List Int)) (v24 : (List Int)) (v25 : (List Int)) (v26 : (List Bool)) (v27 : (List Int)) (v28 : Int) (v29 : Int) (v30 : Int) (v31 : (List (List Int))) (v32 : Int) (v33 : Int) (v35 : Int) (v36 : Int) : ep n v16 v17 v18 v19 v20 v21 v22 v23 v24 v25 v26 v27 v28 v29 v30 v31 v32 v33 (12 : Int) v35 v36 = ((ea n v17 v18 v19 v20 v21 v22 v23 v24 v25 v26 v27 v28 v29 v30).bind fun y53 => (if (decide (0 ≤ v35) && decide (v35 < 8)) then (some (.inl ((v16, ()), ((y53.2.1, y53.2.2.1, y53.2.2.2.1, y53.2.2.2.2.1, y53.2.2.2.2.2.1, (y53.2.2.2.2.2.2.1.set v35.toNat y53.1), y53.2.2.2.2.2.2.2.1, y53.2.2.2.2.2.2.2.2.1, y53.2.2.2.2.2.2.2.2.2.1, y53.2.2.2.2.2.2.2.2.2.2.1, y53.2.2.2.2.2.2.2.2.2.2.2.1, y53.2.2.2.2.2.2.2.2.2.2.2.2.1, y53.2.2.2.2.2.2.2.2.2.2.2.2.2.1, y53.2.2.2.2.2.2.2.2.2.2.2.2.2.2, ()), (v31, ()), (v32, v33, ()), ((12 : Int), v35, v36, ()), ())))) else none)) := by kernel_rfl
theorem PL (n : Nat) (v16 : Int) (v17 : (List (Int × (Int × Int)))) (v18 : (List Int)) (v19 : Bool) (v20 : Int) (v21 : (List Int)) (v22 : (List Int)) (v23 : (List Int)) (v24 : (List Int)) (v25 : (List Int)) (v26 : (List Bool)) (v27 : (List Int)) (v28 : Int) (v29 : Int) (v30 : Int) (v31 : (List (List Int))) (v32 : Int) (v33 : Int) (v35 : Int) (v36 : Int) : ep n v16 v17 v18 v19 v20 v21 v22 v23 v24 v25 v26 v27 v28 v29 v30 v31 v32 v33 (13 : Int) v35 v36 = (if (decide (0 ≤ v35) && decide (v35 < 8)) then (if (decide ((v21.length + 1) * 8 ≤ 140737488355328) && decide (1 ≤ 8)) then (some (.inl ((v16, ()), ((v17, v18, v19, v20, (v21 ++ [(v23.getD v35.toNat (0 : Int))]), v22, v23, v24, v25, v26, v27, v28, v29, v30, ()), (v31, ()), (v32, v33, ()), ((13 : Int), v35, v36, ()), ())))) else none) else none) := by kernel_rfl
theorem PM (n : Nat) (v16 : Int) (v17 : (List (Int × (Int × Int)))) (v18 : (List Int)) (v19 : Bool) (v20 : Int) (v21 : (List Int)) (v22 : (List Int)) (v23 : (List Int)) (v24 : (List Int)) (v25 : (List Int)) (v26 : (List Bool)) (v27 : (List Int)) (v28 : Int) (v29 : Int) (v30 : Int) (v31 : (List (List Int))) (v32 : Int) (v33 : Int) (v35 : Int) (v36 : Int) : ep n v16 v17 v18 v19 v20 v21 v22 v23 v24 v25 v26 v27 v28 v29 v30 v31 v32 v33 (14 : Int) v35 v36 = ((ea n v17 v18 v19 v20 v21 v22 v23 v24 v25 v26 v27 v28 v29 v30).bind fun y54 => (if (decide (0 ≤ v35) && decide (v35 < 8)) then (some (.inl ((v16, ()), ((y54.2.1, y54.2.2.1, y54.2.2.2.1, y54.2.2.2.2.1, y54.2.2.2.2.2.1, y54.2.2.2.2.2.2.1, (y54.2.2.2.2.2.2.2.1.set v35.toNat y54.1), y54.2.2.2.2.2.2.2.2.1, y54.2.2.2.2.2.2.2.2.2.1, y54.2.2.2.2.2.2.2.2.2.2.1, y54.2.2.2.2.2.2.2.2.2.2.2.1, y54.2.2.2.2.2.2.2.2.2.2.2.2.1, y54.2.2.2.2.2.2.2.2.2.2.2.2.2.1, y54.2.2.2.2.2.2.2.2.2.2.2.2.2.2, ()), (v31, ()), (v32, v33, ()), ((14 : Int), v35, v36, ()), ())))) else none)) := by kernel_rfl
theorem PN (n : Nat) (v16 : Int) (v17 : (List (Int × (Int × Int)))) (v18 : (List Int)) (v19 : Bool) (v20 : Int) (v21 : (List Int)) (v22 : (List Int)) (v23 : (List Int)) (v24 : (List Int)) (v25 : (List Int)) (v26 : (List Bool)) (v27 : (List Int)) (v28 : Int) (v29 : Int) (v30 : Int) (v31 : (List (List Int))) (v32 : Int) (v33 : Int) (v35 : Int) (v36 : Int) : ep n v16 v17 v18 v19 v20 v21 v22 v23 v24 v25 v26 v27 v28 v29 v30 v31 v32 v33 (15 : Int) v35 v36 = (if (decide (0 ≤ v35) && decide (v35 < 16)) then (if (decide ((v21.length + 1) * 8 ≤ 140737488355328) && decide (1 ≤ 8)) then (some (.inl ((v16, ()), ((v17, v18, v19, v20, (v21 ++ [(v24.getD v35.toNat (0 : Int))]), v22, v23, v24, v25, v26, v27, v28, v29, v30, ()), (v31, ()), (v32, v33, ()), ((15 : Int), v35, v36, ()), ())))) else none) else none) := by kernel_rfl
theorem PO (n : Nat) (v16 : Int) (v17 : (List (Int × (Int × Int)))) (v18 : (List Int)) (v19 : Bool) (v20 : Int) (v21 : (List Int)) (v22 : (List Int)) (v23 : (List Int)) (v24 : (List Int)) (v25 : (List Int)) (v26 : (List Bool)) (v27 : (List Int)) (v28 : Int) (v29 : Int) (v30 : Int) (v31 : (List (List Int))) (v32 : Int) (v33 : Int) (v35 : Int) (v36 : Int) : ep n v16 v17 v18 v19 v20 v21 v22 v23 v24 v25 v26 v27 v28 v29 v30 v31 v32 v33 (16 : Int) v35 v36 = ((ea n v17 v18 v19 v20 v21 v22 v23 v24 v25 v26 v27 v28 v29 v30).bind fun y55 => (if (decide (0 ≤ v35) && decide (v35 < 16)) then (if (decide (0 ≤ v35) && decide (v35 < 16)) then (some (.inl ((v16, ()), ((y55.2.1, y55.2.2.1, y55.2.2.2.1, y55.2.2.2.2.1, y55.2.2.2.2.2.1, y55.2.2.2.2.2.2.1, y55.2.2.2.2.2.2.2.1, y55.2.2.2.2.2.2.2.2.1, (y55.2.2.2.2.2.2.2.2.2.1.set v35.toNat y55.1), (y55.2.2.2.2.2.2.2.2.2.2.1.set v35.toNat true), y55.2.2.2.2.2.2.2.2.2.2.2.1, y55.2.2.2.2.2.2.2.2.2.2.2.2.1, y55.2.2.2.2.2.2.2.2.2.2.2.2.2.1, y55.2.2.2.2.2.2.2.2.2.2.2.2.2.2, ()), (v31, ()), (v32, v33, ()), ((16 : Int), v35, v36, ()), ())))) else none) else none)) := by kernel_rfl
theorem PP (n : Nat) (v16 : Int) (v17 : (List (Int × (Int × Int)))) (v18 : (List Int)) (v19 : Bool) (v20 : Int) (v21 : (List Int)) (v22 : (List Int)) (v23 : (List Int)) (v24 : (List Int)) (v25 : (List Int)) (v26 : (List Bool)) (v27 : (List Int)) (v28 : Int) (v29 : Int) (v30 : Int) (v31 : (List (List Int))) (v32 : Int) (v33 : Int) (v35 : Int) (v36 : Int) : ep n v16 v17 v18 v19 v20 v21 v22 v23 v24 v25 v26 v27 v28 v29 v30 v31 v32 v33 (17 : Int) v35 v36 = (if (decide (0 ≤ v35) && decide (v35 < 8)) then (if (decide (0 ≤ v36) && decide (v36 < 8)) then (if (decide ((v21.length + 1) * 8 ≤ 140737488355328) && decide (1 ≤ 8)) then (some (.inl ((v16, ()), ((v17, v18, v19, v20, (v21 ++ [((v31.getD v35.toNat [(0 : Int), (0 : Int), (0 : Int), (0 : Int), (0 : Int), (0 : Int), (0 : Int), (0 : Int)]).getD v36.toNat (0 : Int))]), v22, v23, v24, v25, v26, v27, v28, v29, v30, ()), (v31, ()), (v32, v33, ()), ((17 : Int), v35, v36, ()), ())))) else none) else none) else none) := by kernel_rfl
theorem PQ (n : Nat) (v16 : Int) (v17 : (List (Int × (Int × Int)))) (v18 : (List Int)) (v19 : Bool) (v20 : Int) (v21 : (List Int)) (v22 : (List Int)) (v23 : (List Int)) (v24 : (List Int)) (v25 : (List Int)) (v26 : (List Bool)) (v27 : (List Int)) (v28 : Int) (v29 : Int) (v30 : Int) (v31 : (List (List Int))) (v32 : Int) (v33 : Int) (v35 : Int) (v36 : Int) : ep n v16 v17 v18 v19 v20 v21 v22 v23 v24 v25 v26 v27 v28 v29 v30 v31 v32 v33 (18 : Int) v35 v36 = ((ea n v17 v18 v19 v20 v21 v22 v23 v24 v25 v26 v27 v28 v29 v30).bind fun y56 => (if (decide (0 ≤ v35) && decide (v35 < 8)) then (if (decide (0 ≤ v36) && decide (v36 < 8)) then (some (.inl ((v16, ()), ((y56.2.1, y56.2.2.1, y56.2.2.2.1, y56.2.2.2.2.1, y56.2.2.2.2.2.1, y56.2.2.2.2.2.2.1, y56.2.2.2.2.2.2.2.1, y56.2.2.2.2.2.2.2.2.1, y56.2.2.2.2.2.2.2.2.2.1, y56.2.2.2.2.2.2.2.2.2.2.1, y56.2.2.2.2.2.2.2.2.2.2.2.1, y56.2.2.2.2.2.2.2.2.2.2.2.2.1, y56.2.2.2.2.2.2.2.2.2.2.2.2.2.1, y56.2.2.2.2.2.2.2.2.2.2.2.2.2.2, ()), ((v31.set v35.toNat ((v31.getD v35.toNat [(0 : Int), (0 : Int), (0 : Int), (0 : Int), (0 : Int), (0 : Int), (0 : Int), (0 : Int)]).set v36.toNat y56.1)), ()), (v32, v33, ()), ((18 : Int), v35, v36, ()), ())))) else none) else none)) := by kernel_rfl
theorem PR (n : Nat) (v16 : Int) (v17 : (List (Int × (Int × Int)))) (v18 : (List Int)) (v19 : Bool) (v20 : Int) (v21 : (List Int)) (v22 : (List Int)) (v23 : (List Int)) (v24 : (List Int)) (v25 : (List Int)) (v26 : (List Bool)) (v27 : (List Int)) (v28 : Int) (v29 : Int) (v30 : Int) (v31 : (List (List Int))) (v32 : Int) (v33 : Int) (v35 : Int) (v36 : Int) : ep n v16 v17 v18 v19 v20 v21 v22 v23 v24 v25 v26 v27 v28 v29 v30 v31 v32 v33 (19 : Int) v35 v36 = ((gc n v16 v17 v18 v19 v20 v21 v22 v23 v24 v25 v26 v27 v28 v29 v30 (19 : Int) v35 v36 0 0).bind fun y57 => ((Sum.elim (fun (z58 : ((Int × Unit) × (((List (Int × (Int × Int))) × (List Int) × Bool × Int × (List Int) × (List Int) × (List Int) × (List Int) × (List Int) × (List Bool) × (List Int) × Int × Int × Int × Unit) × (Int × Int × Int × Unit) × (Int × Int × Unit) × Unit))) => (some (.inr ((0, ()), ((z58.2.1.1, z58.2.1.2.1, z58.2.1.2.2.1, z58.1.1, z58.2.1.2.2.2.2.1, z58.2.1.2.2.2.2.2.1, z58.2.1.2.2.2.2.2.2.1, z58.2.1.2.2.2.2.2.2.2.1, z58.2.1.2.2.2.2.2.2.2.2.1, z58.2.1.2.2.2.2.2.2.2.2.2.1, z58.2.1.2.2.2.2.2.2.2.2.2.2.1, z58.2.1.2.2.2.2.2.2.2.2.2.2.2.1, z58.2.1.2.2.2.2.2.2.2.2.2.2.2.2.1, z58.2.1.2.2.2.2.2.2.2.2.2.2.2.2.2.1, ()), (v31, ()), (z58.2.2.2.1.1, z58.2.2.2.1.2.1, ()), ((19 : Int), v35, v36, ()), ()))))) (fun (z59 : ((Int × Unit) × (((List (Int × (Int × Int))) × (List Int) × Bool × Int × (List Int) × (List Int) × (List Int) × (List Int) × (List Int) × (List Bool) × (List Int) × Int × Int × Int × Unit) × (Int × Int × Int × Unit) × (Int × Int × Unit) × Unit))) => (some (.inr ((0, ()), ((z59.2.1.1, z59.2.1.2.1, z59.2.1.2.2.1, (wrap .i64 (z59.1.1 + 1)), z59.2.1.2.2.2.2.1, z59.2.1.2.2.2.2.2.1, z59.2.1.2.2.2.2.2.2.1, z59.2.1.2.2.2.2.2.2.2.1, z59.2.1.2.2.2.2.2.2.2.2.1, z59.2.1.2.2.2.2.2.2.2.2.2.1, z59.2.1.2.2.2.2.2.2.2.2.2.2.1, z59.2.1.2.2.2.2.2.2.2.2.2.2.2.1, z59.2.1.2.2.2.2.2.2.2.2.2.2.2.2.1, z59.2.1.2.2.2.2.2.2.2.2.2.2.2.2.2.1, ()), (v31, ()), (0, 0, ()), ((19 : Int), v35, v36, ()), ())))))) y57)) := by kernel_rfl
theorem PS (n : Nat) (v16 : Int) (v17 : (List (Int × (Int × Int)))) (v18 : (List Int)) (v19 : Bool) (v20 : Int) (v21 : (List Int)) (v22 : (List Int)) (v23 : (List Int)) (v24 : (List Int)) (v25 : (List Int)) (v26 : (List Bool)) (v27 : (List Int)) (v28 : Int) (v29 : Int) (v30 : Int) (v31 : (List (List Int))) (v32 : Int) (v33 : Int) (v35 : Int) (v36 : Int) : ep n v16 v17 v18 v19 v20 v21 v22 v23 v24 v25 v26 v27 v28 v29 v30 v31 v32 v33 (20 : Int) v35 v36 = ((gc n v16 v17 v18 v19 v20 v21 v22 v23 v24 v25 v26 v27 v28 v29 v30 (20 : Int) v35 v36 0 0).bind fun y57 => ((Sum.elim (fun (z58 : ((Int × Unit) × (((List (Int × (Int × Int))) × (List Int) × Bool × Int × (List Int) × (List Int) × (List Int) × (List Int) × (List Int) × (List Bool) × (List Int) × Int × Int × Int × Unit) × (Int × Int × Int × Unit) × (Int × Int × Unit) × Unit))) => (some (.inr ((0, ()), ((z58.2.1.1, z58.2.1.2.1, z58.2.1.2.2.1, z58.1.1, z58.2.1.2.2.2.2.1, z58.2.1.2.2.2.2.2.1, z58.2.1.2.2.2.2.2.2.1, z58.2.1.2.2.2.2.2.2.2.1, z58.2.1.2.2.2.2.2.2.2.2.1, z58.2.1.2.2.2.2.2.2.2.2.2.1, z58.2.1.2.2.2.2.2.2.2.2.2.2.1, z58.2.1.2.2.2.2.2.2.2.2.2.2.2.1, z58.2.1.2.2.2.2.2.2.2.2.2.2.2.2.1, z58.2.1.2.2.2.2.2.2.2.2.2.2.2.2.2.1, ()), (v31, ()), (z58.2.2.2.1.1, z58.2.2.2.1.2.1, ()), ((20 : Int), v35, v36, ()), ()))))) (fun (z59 : ((Int × Unit) × (((List (Int × (Int × Int))) × (List Int) × Bool × Int × (List Int) × (List Int) × (List Int) × (List Int) × (List Int) × (List Bool) × (List Int) × Int × Int × Int × Unit) × (Int × Int × Int × Unit) × (Int × Int × Unit) × Unit))) => (some (.inr ((0, ()), ((z59.2.1.1, z59.2.1.2.1, z59.2.1.2.2.1, (wrap .i64 (z59.1.1 + 1)), z59.2.1.2.2.2.2.1, z59.2.1.2.2.2.2.2.1, z59.2.1.2.2.2.2.2.2.1, z59.2.1.2.2.2.2.2.2.2.1, z59.2.1.2.2.2.2.2.2.2.2.1, z59.2.1.2.2.2.2.2.2.2.2.2.1, z59.2.1.2.2.2.2.2.2.2.2.2.2.1, z59.2.1.2.2.2.2.2.2.2.2.2.2.2.1, z59.2.1.2.2.2.2.2.2.2.2.2.2.2.2.1, z59.2.1.2.2.2.2.2.2.2.2.2.2.2.2.2.1, ()), (v31, ()), (0, 0, ()), ((20 : Int), v35, v36, ()), ())))))) y57)) := by kernel_rfl
theorem PT (n : Nat) (v16 : Int) (v17 : (List (Int × (Int × Int)))) (v18 : (List Int)) (v19 : Bool) (v20 : Int) (v21 : (List Int)) (v22 : (List Int)) (v23 : (List Int)) (v24 : (List Int)) (v25 : (List Int)) (v26 : (List Bool)) (v27 : (List Int)) (v28 : Int) (v29 : Int) (v30 : Int) (v31 : (List (List Int))) (v32 : Int) (v33 : Int) (v35 : Int) (v36 : Int) : ep n v16 v17 v18 v19 v20 v21 v22 v23 v24 v25 v26 v27 v28 v29 v30 v31 v32 v33 (21 : Int) v35 v36 = ((gc n v16 v17 v18 v19 v20 v21 v22 v23 v24 v25 v26 v27 v28 v29 v30 (21 : Int) v35 v36 0 0).bind fun y57 => ((Sum.elim (fun (z58 : ((Int × Unit) × (((List (Int × (Int × Int))) × (List Int) × Bool × Int × (List Int) × (List Int) × (List Int) × (List Int) × (List Int) × (List Bool) × (List Int) × Int × Int × Int × Unit) × (Int × Int × Int × Unit) × (Int × Int × Unit) × Unit))) => (some (.inr ((0, ()), ((z58.2.1.1, z58.2.1.2.1, z58.2.1.2.2.1, z58.1.1, z58.2.1.2.2.2.2.1, z58.2.1.2.2.2.2.2.1, z58.2.1.2.2.2.2.2.2.1, z58.2.1.2.2.2.2.2.2.2.1, z58.2.1.2.2.2.2.2.2.2.2.1, z58.2.1.2.2.2.2.2.2.2.2.2.1, z58.2.1.2.2.2.2.2.2.2.2.2.2.1, z58.2.1.2.2.2.2.2.2.2.2.2.2.2.1, z58.2.1.2.2.2.2.2.2.2.2.2.2.2.2.1, z58.2.1.2.2.2.2.2.2.2.2.2.2.2.2.2.1, ()), (v31, ()), (z58.2.2.2.1.1, z58.2.2.2.1.2.1, ()), ((21 : Int), v35, v36, ()), ()))))) (fun (z59 : ((Int × Unit) × (((List (Int × (Int × Int))) × (List Int) × Bool × Int × (List Int) × (List Int) × (List Int) × (List Int) × (List Int) × (List Bool) × (List Int) × Int × Int × Int × Unit) × (Int × Int × Int × Unit) × (Int × Int × Unit) × Unit))) => (some (.inr ((0, ()), ((z59.2.1.1, z59.2.1.2.1, z59.2.1.2.2.1, (wrap .i64 (z59.1.1 + 1)), z59.2.1.2.2.2.2.1, z59.2.1.2.2.2.2.2.1, z59.2.1.2.2.2.2.2.2.1, z59.2.1.2.2.2.2.2.2.2.1, z59.2.1.2.2.2.2.2.2.2.2.1, z59.2.1.2.2.2.2.2.2.2.2.2.1, z59.2.1.2.2.2.2.2.2.2.2.2.2.1, z59.2.1.2.2.2.2.2.2.2.2.2.2.2.1, z59.2.1.2.2.2.2.2.2.2.2.2.2.2.2.1, z59.2.1.2.2.2.2.2.2.2.2.2.2.2.2.2.1, ()), (v31, ()), (0, 0, ()), ((21 : Int), v35, v36, ()), ())))))) y57)) := by kernel_rfl
theorem PU (n : Nat) (v16 : Int) (v17 : (List (Int × (Int × Int)))) (v18 : (List Int)) (v19 : Bool) (v20 : Int) (v21 : (List Int)) (v22 : (List Int)) (v23 : (List Int)) (v24 : (List Int)) (v25 : (List Int)) (v26 : (List Bool)) (v27 : (List Int)) (v28 : Int) (v29 : Int) (v30 : Int) (v31 : (List (List Int))) (v32 : Int) (v33 : Int) (v35 : Int) (v36 : Int) : ep n v16 v17 v18 v19 v20 v21 v22 v23 v24 v25 v26 v27 v28 v29 v30 v31 v32 v33 (22 : Int) v35 v36 = ((gc n v16 v17 v18 v19 v20 v21 v22 v23 v24 v25 v26 v27 v28 v29 v30 (22 : Int) v35 v36 0 0).bind fun y57 => ((Sum.elim (fun (z58 : ((Int × Unit) × (((List (Int × (Int × Int))) × (List Int) × Bool × Int × (List Int) × (List Int) × (List Int) × (List Int) × (List Int) × (List Bool) × (List Int) × Int × Int × Int × Unit) × (Int × Int × Int × Unit) × (Int × Int × Unit) × Unit))) => (some (.inr ((0, ()), ((z58.2.1.1, z58.2.1.2.1, z58.2.1.2.2.1, z58.1.1, z58.2.1.2.2.2.2.1, z58.2.1.2.2.2.2.2.1, z58.2.1.2.2.2.2.2.2.1, z58.2.1.2.2.2.2.2.2.2.1, z58.2.1.2.2.2.2.2.2.2.2.1, z58.2.1.2.2.2.2.2.2.2.2.2.1, z58.2.1.2.2.2.2.2.2.2.2.2.2.1, z58.2.1.2.2.2.2.2.2.2.2.2.2.2.1, z58.2.1.2.2.2.2.2.2.2.2.2.2.2.2.1, z58.2.1.2.2.2.2.2.2.2.2.2.2.2.2.2.1, ()), (v31, ()), (z58.2.2.2.1.1, z58.2.2.2.1.2.1, ()), ((22 : Int), v35, v36, ()), ()))))) (fun (z59 : ((Int × Unit) × (((List (Int × (Int × Int))) × (List Int) × Bool × Int × (List Int) × (List Int) × (List Int) × (List Int) × (List Int) × (List Bool) × (List Int) × Int × Int × Int × Unit) × (Int × Int × Int × Unit) × (Int × Int × Unit) × Unit))) => (some (.inr ((0, ()), ((z59.2.1.1, z59.2.1.2.1, z59.2.1.2.2.1, (wrap .i64 (z59.1.1 + 1)), z59.2.1.2.2.2.2.1, z59.2.1.2.2.2.2.2.1, z59.2.1.2.2.2.2.2.2.1, z59.2.1.2.2.2.2.2.2.2.1, z59.2.1.2.2.2.2.2.2.2.2.1, z59.2.1.2.2.2.2.2.2.2.2.2.1, z59.2.1.2.2.2.2.2.2.2.2.2.2.1, z59.2.1.2.2.2.2.2.2.2.2.2.2.2.1, z59.2.1.2.2.2.2.2.2.2.2.2.2.2.2.1, z59.2.1.2.2.2.2.2.2.2.2.2.2.2.2.2.1, ()), (v31, ()), (0, 0, ()), ((22 : Int), v35, v36, ()), ())))))) y57)) := by kernel_rfl
theorem PV (n : Nat) (v16 : Int) (v17 : (List (Int × (Int × Int)))) (v18 : (List Int)) (v19 : Bool) (v20 : Int) (v21 : (List Int)) (v22 : (List Int)) (v23 : (List Int)) (v24 : (List Int)) (v25 : (List Int)) (v26 : (List Bool)) (v27 : (List Int)) (v28 : Int) (v29 : Int) (v30 : Int) (v31 : (List (List Int))) (v32 : Int) (v33 : Int) (v35 : Int) (v36 : Int) : ep n v16 v17 v18 v19 v20 v21 v22 v23 v24 v25 v26 v27 v28 v29 v30 v31 v32 v33 (23 : Int) v35 v36 = ((gc n v16 v17 v18 v19 v20 v21 v22 v23 v24 v25 v26 v27 v28 v29 v30 (23 : Int) v35 v36 0 0).bind fun y57 => ((Sum.elim (fun (z58 : ((Int × Unit) × (((List (Int × (Int × Int))) × (List Int) × Bool × Int × (List Int) × (List Int) × (List Int) × (List Int) × (List Int) × (List Bool) × (List Int) × Int × Int × Int × Unit) × (Int × Int × Int × Unit) × (Int × Int × Unit) × Unit))) => (some (.inr ((0, ()), ((z58.2.1.1, z58.2.1.2.1, z58.2.1.2.2.1, z58.1.1, z58.2.1.2.2.2.2.1, z58.2.1.2.2.2.2.2.1, z58.2.1.2.2.2.2.2.2.1, z58.2.1.2.2.2.2.2.2.2.1, z58.2.1.2.2.2.2.2.2.2.2.1, z58.2.1.2.2.2.2.2.2.2.2.2.1, z58.2.1.2.2.2.2.2.2.2.2.2.2.1, z58.2.1.2.2.2.2.2.2.2.2.2.2.2.1, z58.2.1.2.2.2.2.2.2.2.2.2.2.2.2.1, z58.2.1.2.2.2.2.2.2.2.2.2.2.2.2.2.1, ()), (v31, ()), (z58.2.2.2.1.1, z58.2.2.2.1.2.1, ()), ((23 : Int), v35, v36, ()), ()))))) (fun (z59 : ((Int × Unit) × (((List (Int × (Int × Int))) × (List Int) × Bool × Int × (List Int) × (List Int) × (List Int) × (List Int) × (List Int) × (List Bool) × (List Int) × Int × Int × Int × Unit) × (Int × Int × Int × Unit) × (Int × Int × Unit) × Unit))) => (some (.inr ((0, ()), ((z59.2.1.1, z59.2.1.2.1, z59.2.1.2.2.1, (wrap .i64 (z59.1.1 + 1)), z59.2.1.2.2.2.2.1, z59.2.1.2.2.2.2.2.1, z59.2.1.2.2.2.2.2.2.1, z59.2.1.2.2.2.2.2.2.2.1, z59.2.1.2.2.2.2.2.2.2.2.1, z59.2.1.2.2.2.2.2.2.2.2.2.1, z59.2.1.2.2.2.2.2.2.2.2.2.2.1, z59.2.1.2.2.2.2.2.2.2.2.2.2.2.1, z59.2.1.2.2.2.2.2.2.2.2.2.2.2.2.1, z59.2.1.2.2.2.2.2.2.2.2.2.2.2.2.2.1, ()), (v31, ()), (0, 0, ()), ((23 : Int), v35, v36, ()), ())))))) y57)) := by kernel_rfl
theorem PW (n : Nat) (v16 : Int) (v17 : (List (Int × (Int × Int)))) (v18 : (List Int)) (v19 : Bool) (v20 : Int) (v21 : (List Int)) (v22 : (List Int)) (v23 : (List Int)) (v24 : (List Int)) (v25 : (List Int)) (v26 : (List Bool)) (v27 : (List Int)) (v28 : Int) (v29 : Int) (v30 : Int) (v31 : (List (List Int))) (v32 : Int) (v33 : Int) (v35 : Int) (v36 : Int) : ep n v16 v17 v18 v19 v20 v21 v22 v23 v24 v25 v26 v27 v28 v29 v30 v31 v32 v33 (24 : Int) v35 v36 = ((gc n v16 v17 v18 v19 v20 v21 v22 v23 v24 v25 v26 v27 v28 v29 v30 (24 : Int) v35 v36 0 0).bind fun y57 => ((Sum.elim (fun (z58 : ((Int × Unit) × (((List (Int × (Int × Int))) × (List Int) × Bool × Int × (List Int) × (List Int) × (List Int) × (List Int) × (List Int) × (List Bool) × (List Int) × Int × Int × Int × Unit) × (Int × Int × Int × Unit) × (Int × Int × Unit) × Unit))) => (some (.inr ((0, ()), ((z58.2.1.1, z58.2.1.2.1, z58.2.1.2.2.1, z58.1.1, z58.2.1.2.2.2.2.1, z58.2.1.2.2.2.2.2.1, z58.2.1.2.2.2.2.2.2.1, z58.2.1.2.2.2.2.2.2.2.1, z58.2.1.2.2.2.2.2.2.2.2.1, z58.2.1.2.2.2.2.2.2.2.2.2.1, z58.2.1.2.2.2.2.2.2.2.2.2.2.1, z58.2.1.2.2.2.2.2.2.2.2.2.2.2.1, z58.2.1.2.2.2.2.2.2.2.2.2.2.2.2.1, z58.2.1.2.2.2.2.2.2.2.2.2.2.2.2.2.1, ()), (v31, ()), (z58.2.2.2.1.1, z58.2.2.2.1.2.1, ()), ((24 : Int), v35, v36, ()), ()))))) (fun (z59 : ((Int × Unit) × (((List (Int × (Int × Int))) × (List Int) × Bool × Int × (List Int) × (List Int) × (List Int) × (List Int) × (List Int) × (List Bool) × (List Int) × Int × Int × Int × Unit) × (Int × Int × Int × Unit) × (Int × Int × Unit) × Unit))) => (some (.inr ((0, ()), ((z59.2.1.1, z59.2.1.2.1, z59.2.1.2.2.1, (wrap .i64 (z59.1.1 + 1)), z59.2.1.2.2.2.2.1, z59.2.1.2.2.2.2.2.1, z59.2.1.2.2.2.2.2.2.1, z59.2.1.2.2.2.2.2.2.2.1, z59.2.1.2.2.2.2.2.2.2.2.1, z59.2.1.2.2.2.2.2.2.2.2.2.1, z59.2.1.2.2.2.2.2.2.2.2.2.2.1, z59.2.1.2.2.2.2.2.2.2.2.2.2.2.1, z59.2.1.2.2.2.2.2.2.2.2.2.2.2.2.1, z59.2.1.2.2.2.2.2.2.2.2.2.2.2.2.2.1, ()), (v31, ()), (0, 0, ()), ((24 : Int), v35, v36, ()), ())))))) y57)) := by kernel_rfl
theorem PX (n : Nat) (v16 : Int) (v17 : (List (Int × (Int × Int)))) (v18 : (List Int)) (v19 : Bool) (v20 : Int) (v21 : (List Int)) (v22 : (List Int)) (v23 : (List Int)) (v24 : (List Int)) (v25 : (List Int)) (v26 : (List Bool)) (v27 : (List Int)) (v28 : Int) (v29 : Int) (v30 : Int) (v31 : (List (List Int))) (v32 : Int) (v33 : Int) (v35 : Int) (v36 : Int) : ep n v16 v17 v18 v19 v20 v21 v22 v23 v24 v25 v26 v27 v28 v29 v30 v31 v32 v33 (25 : Int) v35 v36 = ((gc n v16 v17 v18 v19 v20 v21 v22 v23 v24 v25 v26 v27 v28 v29 v30 (25 : Int) v35 v36 0 0).bind fun y57 => ((Sum.elim (fun (z58 : ((Int × Unit) × (((List (Int × (Int × Int))) × (List Int) × Bool × Int × (List Int) × (List Int) × (List Int) × (List Int) × (List Int) × (List Bool) × (List Int) × Int × Int × Int × Unit) × (Int × Int × Int × Unit) × (Int × Int × Unit) × Unit))) => (some (.inr ((0, ()), ((z58.2.1.1, z58.2.1.2.1, z58.2.1.2.2.1, z58.1.1, z58.2.1.2.2.2.2.1, z58.2.1.2.2.2.2.2.1, z58.2.1.2.2.2.2.2.2.1, z58.2.1.2.2.2.2.2.2.2.1, z58.2.1.2.2.2.2.2.2.2.2.1, z58.2.1.2.2.2.2.2.2.2.2.2.1, z58.2.1.2.2.2.2.2.2.2.2.2.2.1, z58.2.1.2.2.2.2.2.2.2.2.2.2.2.1, z58.2.1.2.2.2.2.2.2.2.2.2.2.2.2.1, z58.2.1.2.2.2.2.2.2.2.2.2.2.2.2.2.1, ()), (v31, ()), (z58.2.2.2.1.1, z58.2.2.2.1.2.1, ()), ((25 : Int), v35, v36, ()), ()))))) (fun (z59 : ((Int × Unit) × (((List (Int × (Int × Int))) × (List Int) × Bool × Int × (List Int) × (List Int) × (List Int) × (List Int) × (List Int) × (List Bool) × (List Int) × Int × Int × Int × Unit) × (Int × Int × Int × Unit) × (Int × Int × Unit) × Unit))) => (some (.inr ((0, ()), ((z59.2.1.1, z59.2.1.2.1, z59.2.1.2.2.1, (wrap .i64 (z59.1.1 + 1)), z59.2.1.2.2.2.2.1, z59.2.1.2.2.2.2.2.1, z59.2.1.2.2.2.2.2.2.1, z59.2.1.2.2.2.2.2.2.2.1, z59.2.1.2.2.2.2.2.2.2.2.1, z59.2.1.2.2.2.2.2.2.2.2.2.1, z59.2.1.2.2.2.2.2.2.2.2.2.2.1, z59.2.1.2.2.2.2.2.2.2.2.2.2.2.1, z59.2.1.2.2.2.2.2.2.2.2.2.2.2.2.1, z59.2.1.2.2.2.2.2.2.2.2.2.2.2.2.2.1, ()), (v31, ()), (0, 0, ()), ((25 : Int), v35, v36, ()), ())))))) y57)) := by kernel_rfl
theorem PY (n : Nat) (v57 : Int) (v58 : (List (Int × (Int × Int)))) (v59 : (List Int)) (v60 : Bool) (v61 : Int) (v62 : (List Int)) (v63 : (List Int)) (v64 : (List Int)) (v65 : (List Int)) (v66 : (List Int)) (v67 : (List Bool)) (v68 : (List Int)) (v69 : Int) (v70 : Int) (v71 : Int) (v73 : Int) (v74 : Int) (v75 : Int) (v76 : Int) : gc n v57 v58 v59 v60 v61 v62 v63 v64 v65 v66 v67 v68 v69 v70 v71 (19 : Int) v73 v74 v75 v76 = (some (.inl (((wrap .i64 ((wrap .i64 (v57 + 1)) + v73)), ()), ((v58, v59, v60, v61, v62, v63, v64, v65, v66, v67, v68, v69, v70, v71, ()), ((19 : Int), v73, v74, ()), (0, 0, ()), ())))) := by kernel_rfl
theorem PZ (n : Nat) (v57 : Int) (v58 : (List (Int × (Int × Int)))) (v59 : (List Int)) (v60 : Bool) (v61 : Int) (v62 : (List Int)) (v63 : (List Int)) (v64 : (List Int)) (v65 : (List Int)) (v66 : (List Int)) (v67 : (List Bool)) (v68 : (List Int)) (v69 : Int) (v70 : Int) (v71 : Int) (v73 : Int) (v74 : Int) (v75 : Int) (v76 : Int) : gc n v57 v58 v59 v60 v61 v62 v63 v64 v65 v66 v67 v68 v69 v70 v71 (20 : Int) v73 v74 v75 v76 = ((ea n v58 v59 v60 v61 v62 v63 v64 v65 v66 v67 v68 v69 v70 v71).bind fun y77 => (if (y77.1 == 0) then (some (.inl (((wrap .i64 ((wrap .i64 (v57 + 1)) + v73)), ()), ((y77.2.1, y77.2.2.1, y77.2.2.2.1, y77.2.2.2.2.1, y77.2.2.2.2.2.1, y77.2.2.2.2.2.2.1, y77.2.2.2.2.2.2.2.1, y77.2.2.2.2.2.2.2.2.1, y77.2.2.2.2.2.2.2.2.2.1, y77.2.2.2.2.2.2.2.2.2.2.1, y77.2.2.2.2.2.2.2.2.2.2.2.1, y77.2.2.2.2.2.2.2.2.2.2.2.2.1, y77.2.2.2.2.2.2.2.2.2.2.2.2.2.1, y77.2.2.2.2.2.2.2.2.2.2.2.2.2.2, ()), ((20 : Int), v73, v74, ()), (0, 0, ()), ())))) else (some (.inr ((v57, ()), ((y77.2.1, y77.2.2.1, y77.2.2.2.1, y77.2.2.2.2.1, y77.2.2.2.2.2.1, y77.2.2.2.2.2.2.1, y77.2.2.2.2.2.2.2.1, y77.2.2.2.2.2.2.2.2.1, y77.2.2.2.2.2.2.2.2.2.1, y77.2.2.2.2.2.2.2.2.2.2.1, y77.2.2.2.2.2.2.2.2.2.2.2.1, y77.2.2.2.2.2.2.2.2.2.2.2.2.1, y77.2.2.2.2.2.2.2.2.2.2.2.2.2.1, y77.2.2.2.2.2.2.2.2.2.2.2.2.2.2, ()), ((20 : Int), v73, v74, ()), (v75, v76, ()), ())))))) := by kernel_rfl
theorem P0 (n : Nat) (v57 : Int) (v58 : (List (Int × (Int × Int)))) (v59 : (List Int)) (v60 : Bool) (v61 : Int) (v62 : (List Int)) (v63 : (List Int)) (v64 : (List Int)) (v65 : (List Int)) (v66 : (List Int)) (v67 : (List Bool)) (v68 : (List Int)) (v69 : Int) (v70 : Int) (v71 : Int) (v73 : Int) (v74 : Int) (v75 : Int) (v76 : Int) : gc n v57 v58 v59 v60 v61 v62 v63 v64 v65 v66 v67 v68 v69 v70 v71 (21 : Int) v73 v74 v75 v76 = (if (decide ((v68.length + 1) * 8 ≤ 140737488355328) && decide (1 ≤ 8)) then (some (.inr ((v57, ()), ((v58, v59, v60, v61, v62, v63, v64, v65, v66, v67, (v68 ++ [v73]), v69, v70, v71, ()), ((21 : Int), v73, v74, ()), (v75, v76, ()), ())))) else none) := by kernel_rfl
theorem P1 (n : Nat) (v57 : Int) (v58 : (List (Int × (Int × Int)))) (v59 : (List Int)) (v60 : Bool) (v61 : Int) (v62 : (List Int)) (v63 : (List Int)) (v64 : (List Int)) (v65 : (List Int)) (v66 : (List Int)) (v67 : (List Bool)) (v68 : (List Int)) (v69 : Int) (v70 : Int) (v71 : Int) (v73 : Int) (v74 : Int) (v75 : Int) (v76 : Int) : gc n v57 v58 v59 v60 v61 v62 v63 v64 v65 v66 v67 v68 v69 v70 v71 (22 : Int) v73 v74 v75 v76 = (if (decide (0 ≤ (wrap .i64 ((v68.length : Int) - 1))) && decide ((wrap .i64 ((v68.length : Int) - 1)) < (v68.length : Int))) then (if (decide (0 ≤ (wrap .i64 ((v68.length : Int) - 1))) && decide ((wrap .i64 ((v68.length : Int) - 1)) ≤ (v68.length : Int))) then (if (decide ((0 + ((v68.drop 0).take (((wrap .i64 ((v68.length : Int) - 1))).toNat - 0)).length) * 8 ≤ 140737488355328) && decide (1 ≤ 8)) then (if (decide ((wrap .i64 ((v68.getD ((wrap .i64 ((v68.length : Int) - 1))).toNat (0 : Int)) - 1)) > 0)) then (if (decide ((([] ++ ((v68.drop 0).take (((wrap .i64 ((v68.length : Int) - 1))).toNat - 0))).length + 1) * 8 ≤ 140737488355328) && decide (1 ≤ 8)) then (if (decide (0 ≤ v57) && decide (v57 < (v59.length : Int))) then (some (.inl (((wrap .i64 ((v59.getD v57.toNat (0 : Int)) + 1)), ()), ((v58, v59, v60, v61, v62, v63, v64, v65, v66, v67, (([] ++ ((v68.drop 0).take (((wrap .i64 ((v68.length : Int) - 1))).toNat - 0))) ++ [(wrap .i64 ((v68.getD ((wrap .i64 ((v68.length : Int) - 1))).toNat (0 : Int)) - 1))]), v69, v70, v71, ()), ((22 : Int), v73, v74, ()), (0, 0, ()), ())))) else none) else none) else (some (.inl (((wrap .i64 (v57 + 1)), ()), ((v58, v59, v60, v61, v62, v63, v64, v65, v66, v67, ([] ++ ((v68.drop 0).take (((wrap .i64 ((v68.length : Int) - 1))).toNat - 0))), v69, v70, v71, ()), ((22 : Int), v73, v74, ()), (0, 0, ()), ()))))) else none) else none) else none) := by kernel_rfl
theorem P2 (n : Nat) (v57 : Int) (v58 : (List (Int × (Int × Int)))) (v59 : (List Int)) (v60 : Bool) (v61 : Int) (v62 : (List Int)) (v63 : (List Int)) (v64 : (List Int)) (v65 : (List Int)) (v66 : (List Int)) (v67 : (List Bool)) (v68 : (List Int)) (v69 : Int) (v70 : Int) (v71 : Int) (v73 : Int) (v74 : Int) (v75 : Int) (v76 : Int) : gc n v57 v58 v59 v60 v61 v62 v63 v64 v65 v66 v67 v68 v69 v70 v71 (23 : Int) v73 v74 v75 v76 = ((jg n v73).bind fun y78 => (some (.inl (((wrap .i64 (v57 + 1)), ()), ((v58, v59, v60, v61, v62, v63, v64, v65, v66, v67, v68, (wrap .i64 (v69 + y78)), v70, v71, ()), ((23 : Int), v73, v74, ()), (1, v73, ()), ()))))) := by kernel_rfl
theorem P3 (n : Nat) (v57 : Int) (v58 : (List (Int × (Int × Int)))) (v59 : (List Int)) (v60 : Bool) (v61 : Int) (v62 : (List Int)) (v63 : (List Int)) (v64 : (List Int)) (v65 : (List Int)) (v66 : (List Int)) (v67 : (List Bool)) (v68 : (List Int)) (v69 : Int) (v70 : Int) (v71 : Int) (v73 : Int) (v74 : Int) (v75 : Int) (v76 : Int) : gc n v57 v58 v59 v60 v61 v62 v63 v64 v65 v66 v67 v68 v69 v70 v71 (24 : Int) v73 v74 v75 v76 = ((jg n v73).bind fun y79 => (some (.inl (((wrap .i64 (v57 + 1)), ()), ((v58, v59, v60, v61, v62, v63, v64, v65, v66, v67, v68, (wrap .i64 (v69 - y79)), v70, v71, ()), ((24 : Int), v73, v74, ()), (2, v73, ()), ()))))) := by kernel_rfl
theorem P4 (n : Nat) (v57 : Int) (v58 : (List (Int × (Int × Int)))) (v59 : (List Int)) (v60 : Bool) (v61 : Int) (v62 : (List Int)) (v63 : (List Int)) (v64 : (List Int)) (v65 : (List Int)) (v66 : (List Int)) (v67 : (List Bool)) (v68 : (List Int)) (v69 : Int) (v70 : Int) (v71 : Int) (v73 : Int) (v74 : Int) (v75 : Int) (v76 : Int) : gc n v57 v58 v59 v60 v61 v62 v63 v64 v65 v66 v67 v68 v69 v70 v71 (25 : Int) v73 v74 v75 v76 = (some (.inl ((v57, ()), ((v58, v59, false, v61, v62, v63, v64, v65, v66, v67, v68, v69, v70, v71, ()), ((25 : Int), v73, v74, ()), (3, 0, ()), ())))) := by kernel_rfl
theorem fy (n : Nat) (v1 : List cW) (v2 : List Int) (v3 : Bool) (v4 : Int) {v5 : List Int} (v6 v7 v8 v9 : List Int) (v10 : List Bool) (v11 : List Int) (v12 v13 v14 : Int) (h : 0 < v5.length) (h2 : v5.length < 1000) :
  ea n v1 v2 v3 v4 v5 v6 v7 v8 v9 v10 v11 v12 v13 v14 = some (pv v5, v1, v2, v3, v4, pr v5, v6, v7, v8, v9, v10, v11, v12, v13, v14) := by
 unfold ea pv pr
 rw [Cg h h2, if_pos (cY (by omega)), if_pos (by simp), af, aN, cc, bb, bq, if_pos (by rw [cn]; simp; omega)]
theorem NQ {v : List Int} (h : 0 < v.length) : pr v ++ [pv v] = v := by
 unfold pr pv
 have e : v.take (v.length - 1) ++ [v.getD (v.length - 1) 0] = v.take (v.length - 1 + 1) := by
  rw [List.take_add_one, aF (show v.length - 1 < v.length by omega), av, aF (show v.length - 1 < v.length by omega)]
  rfl
 rw [e, show v.length - 1 + 1 = v.length by omega, List.take_length]
theorem Cs (n : Nat) (hn : 8 < n) {a : Nat} (ha : a ≤ 7) : jg n (a : Int) = some ((2 ^ a : Nat) : Int) := by
 have key : ∃ r, tj n ((a : Int), 1, 0) = some r ∧ r = ((2 ^ a : Nat) : Int) := by
  show ∃ r, it _ n _ = some r ∧ _
  refine ju (fun f x => ∃ j : Nat, j ≤ a ∧ a < f + j ∧ x = ((a : Int), ((2 ^ j : Nat) : Int), (j : Int))) _ (fun x ⟨j, h1, h2, _⟩ => by omega) ?_ n _ ⟨0, aq _, by omega, rfl⟩
  rintro f x F hF ⟨j, h1, h2, rfl⟩
  show ∃ r, uq n F (a : Int) ((2 ^ j : Nat) : Int) (j : Int) = some r ∧ _
  unfold uq
  rcases am j a with hj | hj
  ·have h3 : 2 ^ j < 256 := by have := Nat.pow_lt_pow_right (a := 2) (by omega) (show j < 8 by omega); omega
   have h4 : 2 ^ (j + 1) = 2 * 2 ^ j := by rw [Nat.pow_succ, Nat.mul_comm]
   have h5 := Nat.two_pow_pos j
   rw [if_pos (ag (by omega)), dH (by omega), dd (show -9223372036854775808 ≤ 2 * ((2 ^ j : Nat) : Int) by omega) (by omega)]
   exact hF _ ⟨j + 1, by omega, by omega, by rw [h4]; rfl⟩
  ·have : j = a := by omega
   subst this
   rw [if_neg (by simp)]
   exact ⟨_, rfl, rfl⟩
 obtain ⟨r, e1, e2⟩ := key
 unfold jg
 rw [e1, e2]
 rfl
def DT (x : cW) (is : List Bool) : List Bool := if x.1 = 16 then is.set x.2.1.toNat true else is
abbrev fO (n : Nat) (l : List cW) (m : List Int) (s : MS) (is : List Bool) (mem : dq) := eT n l m true s.at_ s.stk s.loc s.ret s.inp s.out is s.rds s.held s.flt s.stp mem
abbrev dF (n : Nat) (l : List cW) (m : List Int) (x : cW) (mt : Int) (s : MS) (is : List Bool) (mem : dq) : Prop :=
 fO n l m s is mem = some (NI x, 0, l, m, decide (x.1 ≠ 25), (if x.1 = 25 then s.at_ else (dN x mt s mem).at_), (dN x mt s mem).stk, (dN x mt s mem).loc, (dN x mt s mem).ret, (dN x mt s mem).inp, (dN x mt s mem).out, DT x is, (dN x mt s mem).rds, (dN x mt s mem).held, (dN x mt s mem).flt, (dN x mt s mem).stp, lW x s mem)
theorem Se (n : Nat) (hN : 64 < n) {l : List cW} {m : List Int} {i : Nat} (hl : l.length ≤ 200) (hi : i < l.length) {A B : Int} (hx : l.getD i (0, 0, 0) = (1, A, B)) (hr : cZ (1, A, B) = true) {ret stk loc inp out rds : List Int} {is : List Bool} {set held flt stp : Int} {mem : dq} (hs : stk.length ≤ 16) {mt : Int} : dF n l m (1, A, B) mt ⟨ret, (i : Int), stk, loc, inp, out, set, rds, held, flt, stp⟩ is mem := by
 have hn := du (show i < 1000000 by omega)
 unfold dF fO eT
 dsimp only
 rw [if_neg (by decide), if_pos (cY hi), af, hx]
 dsimp only
 rw [R5]
 rw [if_pos (dU (by omega))]
 simp only [ab, Sum.elim_inl, ay, hn]
 show _ = _
 kernel_rfl
theorem Sf (n : Nat) (hN : 64 < n) {l : List cW} {m : List Int} {i : Nat} (hl : l.length ≤ 200) (hi : i < l.length) {A B : Int} (hx : l.getD i (0, 0, 0) = (2, A, B)) (hr : cZ (2, A, B) = true) {ret stk loc inp out rds : List Int} {is : List Bool} {set held flt stp : Int} {mem : dq} (hs : stk.length ≤ 16) (hd : 1 ≤ stk.length) {mt : Int} : dF n l m (2, A, B) mt ⟨ret, (i : Int), stk, loc, inp, out, set, rds, held, flt, stp⟩ is mem := by
 have hn := du (show i < 1000000 by omega)
 unfold dF fO eT
 dsimp only
 rw [if_neg (by decide), if_pos (cY hi), af, hx]
 dsimp only
 rw [R6]
 rw [fy n _ _ _ _ (v5 := stk) _ _ _ _ _ _ _ _ _ (by omega) (by omega)]
 simp only [ab, Sum.elim_inl, ay, hn]
 show _ = _
 kernel_rfl
theorem Sg (n : Nat) (hN : 64 < n) {l : List cW} {m : List Int} {i : Nat} (hl : l.length ≤ 200) (hi : i < l.length) {A B : Int} (hx : l.getD i (0, 0, 0) = (3, A, B)) (hr : cZ (3, A, B) = true) {ret stk loc inp out rds : List Int} {is : List Bool} {set held flt stp : Int} {mem : dq} (hs : stk.length ≤ 16) (hd : 1 ≤ stk.length) {mt : Int} : dF n l m (3, A, B) mt ⟨ret, (i : Int), stk, loc, inp, out, set, rds, held, flt, stp⟩ is mem := by
 have hn := du (show i < 1000000 by omega)
 unfold dF fO eT
 dsimp only
 rw [if_neg (by decide), if_pos (cY hi), af, hx]
 dsimp only
 rw [R7]
 rw [fy n _ _ _ _ (v5 := stk) _ _ _ _ _ _ _ _ _ (by omega) (by omega), ab]
 dsimp only
 rw [if_pos (dU (by rw [dI]; omega)), if_pos (dU (by rw [aT, dI, List.length_singleton]; omega)), NQ (by omega)]
 simp only [ab, Sum.elim_inl, ay, hn]
 show _ = _
 kernel_rfl
theorem Si (n : Nat) (hN : 64 < n) {l : List cW} {m : List Int} {i : Nat} (hl : l.length ≤ 200) (hi : i < l.length) {A B : Int} (hx : l.getD i (0, 0, 0) = (4, A, B)) (hr : cZ (4, A, B) = true) {ret stk loc inp out rds : List Int} {is : List Bool} {set held flt stp : Int} {mem : dq} (hs : stk.length ≤ 16) (hd : 2 ≤ stk.length) {mt : Int} : dF n l m (4, A, B) mt ⟨ret, (i : Int), stk, loc, inp, out, set, rds, held, flt, stp⟩ is mem := by
 have hn := du (show i < 1000000 by omega)
 unfold dF fO eT
 dsimp only
 rw [if_neg (by decide), if_pos (cY hi), af, hx]
 dsimp only
 rw [R8]
 rw [fy n _ _ _ _ (v5 := stk) _ _ _ _ _ _ _ _ _ (by omega) (by omega), ab]
 dsimp only
 rw [fy n _ _ _ _ (v5 := pr stk) _ _ _ _ _ _ _ _ _ (by rw [dI]; omega) (by rw [dI]; omega), ab]
 dsimp only
 rw [if_pos (dU (by rw [dI, dI]; omega)), if_pos (dU (by rw [aT, dI, dI, List.length_singleton]; omega))]
 simp only [ab, Sum.elim_inl, ay, hn]
 show _ = _
 kernel_rfl
theorem Sj (n : Nat) (hN : 64 < n) {l : List cW} {m : List Int} {i : Nat} (hl : l.length ≤ 200) (hi : i < l.length) {A B : Int} (hx : l.getD i (0, 0, 0) = (5, A, B)) (hr : cZ (5, A, B) = true) {ret stk loc inp out rds : List Int} {is : List Bool} {set held flt stp : Int} {mem : dq} (hs : stk.length ≤ 16) (hd : 2 ≤ stk.length) (ha : fA (pv (pr stk))) (hb : fA (pv stk)) (hf : fA flt) {mt : Int} : dF n l m (5, A, B) mt ⟨ret, (i : Int), stk, loc, inp, out, set, rds, held, flt, stp⟩ is mem := by
 have hn := du (show i < 1000000 by omega)
 unfold dF fO eT
 dsimp only
 rw [if_neg (by decide), if_pos (cY hi), af, hx]
 dsimp only
 rw [R9]
 rw [fy n _ _ _ _ (v5 := stk) _ _ _ _ _ _ _ _ _ (by omega) (by omega), ab]
 dsimp only
 rw [fy n _ _ _ _ (v5 := pr stk) _ _ _ _ _ _ _ _ _ (by rw [dI]; omega) (by rw [dI]; omega), ab]
 dsimp only
 rw [(DS n hN (tz hr) ha hb).1, ab, if_pos (dU (by rw [dI, dI]; omega))]
 unfold dN
 dsimp only
 cases h2 : (ku A (pv (pr stk)) (pv stk)).2
 ·rw [show (if (5 : Int) = 5 then wrap .i64 (flt + (if false = true then 1 else 0)) else flt) = flt by rw [if_pos rfl, if_neg (by decide), Int.add_zero, dd hf.1 hf.2], if_neg (by decide)]
  simp only [ab, Sum.elim_inl, ay, hn]
  show _ = _
  kernel_rfl
 ·rw [if_pos rfl]
  simp only [ab, Sum.elim_inl, ay, hn]
  show _ = _
  kernel_rfl
theorem Sk (n : Nat) (hN : 64 < n) {l : List cW} {m : List Int} {i : Nat} (hl : l.length ≤ 200) (hi : i < l.length) {A B : Int} (hx : l.getD i (0, 0, 0) = (6, A, B)) (hr : cZ (6, A, B) = true) {ret stk loc inp out rds : List Int} {is : List Bool} {set held flt stp : Int} {mem : dq} (hs : stk.length ≤ 16) (hd : 1 ≤ stk.length) {mt : Int} : dF n l m (6, A, B) mt ⟨ret, (i : Int), stk, loc, inp, out, set, rds, held, flt, stp⟩ is mem := by
 have hn := du (show i < 1000000 by omega)
 unfold dF fO eT
 dsimp only
 rw [if_neg (by decide), if_pos (cY hi), af, hx]
 dsimp only
 rw [Sa]
 rw [fy n _ _ _ _ (v5 := stk) _ _ _ _ _ _ _ _ _ (by omega) (by omega), ab]
 dsimp only
 rw [if_pos (dU (by rw [dI]; omega))]
 simp only [ab, Sum.elim_inl, ay, hn]
 show _ = _
 kernel_rfl
theorem Sl (n : Nat) (hN : 64 < n) {l : List cW} {m : List Int} {i : Nat} (hl : l.length ≤ 200) (hi : i < l.length) {A B : Int} (hx : l.getD i (0, 0, 0) = (7, A, B)) (hr : cZ (7, A, B) = true) {ret stk loc inp out rds : List Int} {is : List Bool} {set held flt stp : Int} {mem : dq} (hs : stk.length ≤ 16) (hd : 1 ≤ stk.length) (hb : pv stk = 0 ∨ pv stk = 1) {mt : Int} : dF n l m (7, A, B) mt ⟨ret, (i : Int), stk, loc, inp, out, set, rds, held, flt, stp⟩ is mem := by
 have hn := du (show i < 1000000 by omega)
 have e7 : wrap .i64 (1 - pv stk) = if pv stk = 0 then 1 else 0 := by rcases hb with h | h <;> rw [h] <;> rfl
 unfold dF fO eT
 dsimp only
 rw [if_neg (by decide), if_pos (cY hi), af, hx]
 dsimp only
 rw [Sb]
 rw [fy n _ _ _ _ (v5 := stk) _ _ _ _ _ _ _ _ _ (by omega) (by omega), ab]
 dsimp only
 rw [if_pos (dU (by rw [dI]; omega)), e7]
 simp only [ab, Sum.elim_inl, ay, hn]
 show _ = _
 kernel_rfl
theorem Sm (n : Nat) (hN : 64 < n) {l : List cW} {m : List Int} {i : Nat} (hl : l.length ≤ 200) (hi : i < l.length) {A B : Int} (hx : l.getD i (0, 0, 0) = (8, A, B)) (hr : cZ (8, A, B) = true) {ret stk loc inp out rds : List Int} {is : List Bool} {set held flt stp : Int} {mem : dq} (hs : stk.length ≤ 16) (hd : 2 ≤ stk.length) (hb : pv stk = 0 ∨ pv stk = 1) (ha : pv (pr stk) = 0 ∨ pv (pr stk) = 1) {mt : Int} : dF n l m (8, A, B) mt ⟨ret, (i : Int), stk, loc, inp, out, set, rds, held, flt, stp⟩ is mem := by
 have hn := du (show i < 1000000 by omega)
 have e8 : (if pv stk < pv (pr stk) then pv stk else pv (pr stk)) = bits .and .i64 (pv stk) (pv (pr stk)) := by rcases hb with h | h <;> rcases ha with h2 | h2 <;> rw [h, h2] <;> kernel_rfl
 unfold dF fO eT
 dsimp only
 rw [if_neg (by decide), if_pos (cY hi), af, hx]
 dsimp only
 rw [Sc]
 rw [fy n _ _ _ _ (v5 := stk) _ _ _ _ _ _ _ _ _ (by omega) (by omega), ab]
 dsimp only
 rw [fy n _ _ _ _ (v5 := pr stk) _ _ _ _ _ _ _ _ _ (by rw [dI]; omega) (by rw [dI]; omega), ab]
 dsimp only
 rw [if_pos (dU (by rw [dI, dI]; omega)), e8]
 simp only [ab, Sum.elim_inl, ay, hn]
 show _ = _
 kernel_rfl
theorem Sn (n : Nat) (hN : 64 < n) {l : List cW} {m : List Int} {i : Nat} (hl : l.length ≤ 200) (hi : i < l.length) {A B : Int} (hx : l.getD i (0, 0, 0) = (9, A, B)) (hr : cZ (9, A, B) = true) {ret stk loc inp out rds : List Int} {is : List Bool} {set held flt stp : Int} {mem : dq} (hs : stk.length ≤ 16) (hd : 2 ≤ stk.length) (hb : pv stk = 0 ∨ pv stk = 1) (ha : pv (pr stk) = 0 ∨ pv (pr stk) = 1) {mt : Int} : dF n l m (9, A, B) mt ⟨ret, (i : Int), stk, loc, inp, out, set, rds, held, flt, stp⟩ is mem := by
 have hn := du (show i < 1000000 by omega)
 have e8 : (if pv stk > pv (pr stk) then pv stk else pv (pr stk)) = bits .or .i64 (pv stk) (pv (pr stk)) := by rcases hb with h | h <;> rcases ha with h2 | h2 <;> rw [h, h2] <;> kernel_rfl
 unfold dF fO eT
 dsimp only
 rw [if_neg (by decide), if_pos (cY hi), af, hx]
 dsimp only
 rw [Sd]
 rw [fy n _ _ _ _ (v5 := stk) _ _ _ _ _ _ _ _ _ (by omega) (by omega), ab]
 dsimp only
 rw [fy n _ _ _ _ (v5 := pr stk) _ _ _ _ _ _ _ _ _ (by rw [dI]; omega) (by rw [dI]; omega), ab]
 dsimp only
 rw [if_pos (dU (by rw [dI, dI]; omega)), e8]
 simp only [ab, Sum.elim_inl, ay, hn]
 show _ = _
 kernel_rfl
theorem P5 (n : Nat) (hN : 64 < n) {l : List cW} {m : List Int} {i : Nat} (hl : l.length ≤ 200) (hi : i < l.length) {A B : Int} (hx : l.getD i (0, 0, 0) = (10, A, B)) (hr : cZ (10, A, B) = true) {ret stk loc inp out rds : List Int} {is : List Bool} {set held flt stp : Int} {mem : dq} (hs : stk.length ≤ 16) {mt : Int} : dF n l m (10, A, B) mt ⟨ret, (i : Int), stk, loc, inp, out, set, rds, held, flt, stp⟩ is mem := by
 have hn := du (show i < 1000000 by omega)
 unfold dF fO eT
 dsimp only
 rw [if_neg (by decide), if_pos (cY hi), af, hx]
 dsimp only
 rw [PI]
 simp only [ab, Sum.elim_inl, ay, hn]
 show _ = _
 kernel_rfl
theorem P6 (n : Nat) (hN : 64 < n) {l : List cW} {m : List Int} {i : Nat} (hl : l.length ≤ 200) (hi : i < l.length) {A B : Int} (hx : l.getD i (0, 0, 0) = (11, A, B)) (hr : cZ (11, A, B) = true) {ret stk loc inp out rds : List Int} {is : List Bool} {set held flt stp : Int} {mem : dq} (hs : stk.length ≤ 16) {mt : Int} : dF n l m (11, A, B) mt ⟨ret, (i : Int), stk, loc, inp, out, set, rds, held, flt, stp⟩ is mem := by
 have hn := du (show i < 1000000 by omega)
 have ha := iW (by omega) hr
 unfold dF fO eT
 dsimp only
 rw [if_neg (by decide), if_pos (cY hi), af, hx]
 dsimp only
 rw [PJ]
 rw [if_pos (fo (by omega)), if_pos (dU (by omega))]
 simp only [ab, Sum.elim_inl, ay, hn]
 show _ = _
 kernel_rfl
theorem P7 (n : Nat) (hN : 64 < n) {l : List cW} {m : List Int} {i : Nat} (hl : l.length ≤ 200) (hi : i < l.length) {A B : Int} (hx : l.getD i (0, 0, 0) = (13, A, B)) (hr : cZ (13, A, B) = true) {ret stk loc inp out rds : List Int} {is : List Bool} {set held flt stp : Int} {mem : dq} (hs : stk.length ≤ 16) {mt : Int} : dF n l m (13, A, B) mt ⟨ret, (i : Int), stk, loc, inp, out, set, rds, held, flt, stp⟩ is mem := by
 have hn := du (show i < 1000000 by omega)
 have ha := iW (by omega) hr
 unfold dF fO eT
 dsimp only
 rw [if_neg (by decide), if_pos (cY hi), af, hx]
 dsimp only
 rw [PL]
 rw [if_pos (fo (by omega)), if_pos (dU (by omega))]
 simp only [ab, Sum.elim_inl, ay, hn]
 show _ = _
 kernel_rfl
theorem P8 (n : Nat) (hN : 64 < n) {l : List cW} {m : List Int} {i : Nat} (hl : l.length ≤ 200) (hi : i < l.length) {A B : Int} (hx : l.getD i (0, 0, 0) = (15, A, B)) (hr : cZ (15, A, B) = true) {ret stk loc inp out rds : List Int} {is : List Bool} {set held flt stp : Int} {mem : dq} (hs : stk.length ≤ 16) {mt : Int} : dF n l m (15, A, B) mt ⟨ret, (i : Int), stk, loc, inp, out, set, rds, held, flt, stp⟩ is mem := by
 have hn := du (show i < 1000000 by omega)
 have ha := nO (by omega) hr
 unfold dF fO eT
 dsimp only
 rw [if_neg (by decide), if_pos (cY hi), af, hx]
 dsimp only
 rw [PN]
 rw [if_pos (fo (by omega)), if_pos (dU (by omega))]
 simp only [ab, Sum.elim_inl, ay, hn]
 show _ = _
 kernel_rfl
theorem P9 (n : Nat) (hN : 64 < n) {l : List cW} {m : List Int} {i : Nat} (hl : l.length ≤ 200) (hi : i < l.length) {A B : Int} (hx : l.getD i (0, 0, 0) = (17, A, B)) (hr : cZ (17, A, B) = true) {ret stk loc inp out rds : List Int} {is : List Bool} {set held flt stp : Int} {mem : dq} (hs : stk.length ≤ 16) {mt : Int} : dF n l m (17, A, B) mt ⟨ret, (i : Int), stk, loc, inp, out, set, rds, held, flt, stp⟩ is mem := by
 have hn := du (show i < 1000000 by omega)
 have ha := uz (by omega) hr
 unfold dF fO eT
 dsimp only
 rw [if_neg (by decide), if_pos (cY hi), af, hx]
 dsimp only
 rw [PP]
 rw [if_pos (fo (by omega)), if_pos (fo (by omega)), if_pos (dU (by omega))]
 simp only [ab, Sum.elim_inl, ay, hn]
 show _ = _
 kernel_rfl
theorem Qa (n : Nat) (hN : 64 < n) {l : List cW} {m : List Int} {i : Nat} (hl : l.length ≤ 200) (hi : i < l.length) {A B : Int} (hx : l.getD i (0, 0, 0) = (12, A, B)) (hr : cZ (12, A, B) = true) {ret stk loc inp out rds : List Int} {is : List Bool} {set held flt stp : Int} {mem : dq} (hs : stk.length ≤ 16) (hd : 1 ≤ stk.length) {mt : Int} : dF n l m (12, A, B) mt ⟨ret, (i : Int), stk, loc, inp, out, set, rds, held, flt, stp⟩ is mem := by
 have hn := du (show i < 1000000 by omega)
 have ha := iW (by omega) hr
 unfold dF fO eT
 dsimp only
 rw [if_neg (by decide), if_pos (cY hi), af, hx]
 dsimp only
 rw [PK]
 rw [fy n _ _ _ _ (v5 := stk) _ _ _ _ _ _ _ _ _ (by omega) (by omega), ab]
 dsimp only
 rw [if_pos (fo (by omega))]
 simp only [ab, Sum.elim_inl, ay, hn]
 show _ = _
 kernel_rfl
theorem Qb (n : Nat) (hN : 64 < n) {l : List cW} {m : List Int} {i : Nat} (hl : l.length ≤ 200) (hi : i < l.length) {A B : Int} (hx : l.getD i (0, 0, 0) = (14, A, B)) (hr : cZ (14, A, B) = true) {ret stk loc inp out rds : List Int} {is : List Bool} {set held flt stp : Int} {mem : dq} (hs : stk.length ≤ 16) (hd : 1 ≤ stk.length) {mt : Int} : dF n l m (14, A, B) mt ⟨ret, (i : Int), stk, loc, inp, out, set, rds, held, flt, stp⟩ is mem := by
 have hn := du (show i < 1000000 by omega)
 have ha := iW (by omega) hr
 unfold dF fO eT
 dsimp only
 rw [if_neg (by decide), if_pos (cY hi), af, hx]
 dsimp only
 rw [PM]
 rw [fy n _ _ _ _ (v5 := stk) _ _ _ _ _ _ _ _ _ (by omega) (by omega), ab]
 dsimp only
 rw [if_pos (fo (by omega))]
 simp only [ab, Sum.elim_inl, ay, hn]
 show _ = _
 kernel_rfl
theorem Qc (n : Nat) (hN : 64 < n) {l : List cW} {m : List Int} {i : Nat} (hl : l.length ≤ 200) (hi : i < l.length) {A B : Int} (hx : l.getD i (0, 0, 0) = (16, A, B)) (hr : cZ (16, A, B) = true) {ret stk loc inp out rds : List Int} {is : List Bool} {set held flt stp : Int} {mem : dq} (hs : stk.length ≤ 16) (hd : 1 ≤ stk.length) {mt : Int} : dF n l m (16, A, B) mt ⟨ret, (i : Int), stk, loc, inp, out, set, rds, held, flt, stp⟩ is mem := by
 have hn := du (show i < 1000000 by omega)
 have ha := nO (by omega) hr
 unfold dF fO eT
 dsimp only
 rw [if_neg (by decide), if_pos (cY hi), af, hx]
 dsimp only
 rw [PO]
 rw [fy n _ _ _ _ (v5 := stk) _ _ _ _ _ _ _ _ _ (by omega) (by omega), ab]
 dsimp only
 rw [if_pos (fo (by omega)), if_pos (fo (by omega))]
 simp only [ab, Sum.elim_inl, ay, hn]
 show _ = _
 kernel_rfl
theorem Qd (n : Nat) (hN : 64 < n) {l : List cW} {m : List Int} {i : Nat} (hl : l.length ≤ 200) (hi : i < l.length) {A B : Int} (hx : l.getD i (0, 0, 0) = (18, A, B)) (hr : cZ (18, A, B) = true) {ret stk loc inp out rds : List Int} {is : List Bool} {set held flt stp : Int} {mem : dq} (hs : stk.length ≤ 16) (hd : 1 ≤ stk.length) {mt : Int} : dF n l m (18, A, B) mt ⟨ret, (i : Int), stk, loc, inp, out, set, rds, held, flt, stp⟩ is mem := by
 have hn := du (show i < 1000000 by omega)
 have ha := uz (by omega) hr
 unfold dF fO eT
 dsimp only
 rw [if_neg (by decide), if_pos (cY hi), af, hx]
 dsimp only
 rw [PQ]
 rw [fy n _ _ _ _ (v5 := stk) _ _ _ _ _ _ _ _ _ (by omega) (by omega), ab]
 dsimp only
 rw [if_pos (fo (by omega)), if_pos (fo (by omega))]
 simp only [ab, Sum.elim_inl, ay, hn]
 show _ = _
 kernel_rfl
theorem Qe (n : Nat) (hN : 64 < n) {l : List cW} {m : List Int} {i : Nat} (hl : l.length ≤ 200) (hi : i < l.length) {A B : Int} (hx : l.getD i (0, 0, 0) = (19, A, B)) (hr : cZ (19, A, B) = true) {ret stk loc inp out rds : List Int} {is : List Bool} {set held flt stp : Int} {mem : dq} (hs : stk.length ≤ 16) {mt : Int} : dF n l m (19, A, B) mt ⟨ret, (i : Int), stk, loc, inp, out, set, rds, held, flt, stp⟩ is mem := by
 have hn := du (show i < 1000000 by omega)
 have ha := oc (.inl rfl) hr
 unfold dF fO eT
 dsimp only
 rw [if_neg (by decide), if_pos (cY hi), af, hx]
 dsimp only
 rw [PR]
 rw [PY]
 rw [hn, dd (show -9223372036854775808 ≤ (i : Int) + 1 + A by omega) (by omega)]
 simp only [ab, Sum.elim_inl, ay, hn]
 show _ = _
 kernel_rfl
theorem Qf (n : Nat) (hN : 64 < n) {l : List cW} {m : List Int} {i : Nat} (hl : l.length ≤ 200) (hi : i < l.length) {A B : Int} (hx : l.getD i (0, 0, 0) = (20, A, B)) (hr : cZ (20, A, B) = true) {ret stk loc inp out rds : List Int} {is : List Bool} {set held flt stp : Int} {mem : dq} (hs : stk.length ≤ 16) (hd : 1 ≤ stk.length) {mt : Int} : dF n l m (20, A, B) mt ⟨ret, (i : Int), stk, loc, inp, out, set, rds, held, flt, stp⟩ is mem := by
 have hn := du (show i < 1000000 by omega)
 have ha := oc (.inr rfl) hr
 unfold dF fO eT
 dsimp only
 rw [if_neg (by decide), if_pos (cY hi), af, hx]
 dsimp only
 rw [PS]
 rw [PZ]
 rw [fy n _ _ _ _ (v5 := stk) _ _ _ _ _ _ _ _ _ (by omega) (by omega), ab]
 dsimp only
 rw [hn, dd (show -9223372036854775808 ≤ (i : Int) + 1 + A by omega) (by omega)]
 unfold dN
 by_cases h : pv stk = 0
 ·rw [if_pos (by simpa using h), show et (20, A, B) mt ⟨ret, (i : Int), stk, loc, inp, out, set, rds, held, flt, stp⟩ = (i : Int) + 1 + A by
   unfold et
   rw [if_neg (show ¬ (20 : Int) = 19 by decide), if_pos rfl, if_pos h]]
  simp only [ab, Sum.elim_inl, ay, hn]
  show _ = _
  kernel_rfl
 ·rw [if_neg (by simpa using h), show et (20, A, B) mt ⟨ret, (i : Int), stk, loc, inp, out, set, rds, held, flt, stp⟩ = (i : Int) + 1 by
   unfold et
   rw [if_neg (show ¬ (20 : Int) = 19 by decide), if_pos rfl, if_neg h]]
  simp only [ab, Sum.elim_inl, ay, hn]
  show _ = _
  kernel_rfl
theorem Qg (n : Nat) (hN : 64 < n) {l : List cW} {m : List Int} {i : Nat} (hl : l.length ≤ 200) (hi : i < l.length) {A B : Int} (hx : l.getD i (0, 0, 0) = (21, A, B)) (hr : cZ (21, A, B) = true) {ret stk loc inp out rds : List Int} {is : List Bool} {set held flt stp : Int} {mem : dq} (hs : stk.length ≤ 16) (hd : rds.length ≤ 200) {mt : Int} : dF n l m (21, A, B) mt ⟨ret, (i : Int), stk, loc, inp, out, set, rds, held, flt, stp⟩ is mem := by
 have hn := du (show i < 1000000 by omega)
 unfold dF fO eT
 dsimp only
 rw [if_neg (by decide), if_pos (cY hi), af, hx]
 dsimp only
 rw [PT]
 rw [P0]
 rw [if_pos (dU (by omega))]
 simp only [ab, Sum.elim_inl, ay, hn]
 show _ = _
 kernel_rfl
theorem Qh (n : Nat) (hN : 64 < n) {l : List cW} {m : List Int} {i : Nat} (hl : l.length ≤ 200) (hi : i < l.length) {A B : Int} (hx : l.getD i (0, 0, 0) = (22, A, B)) (hr : cZ (22, A, B) = true) {ret stk loc inp out rds : List Int} {is : List Bool} {set held flt stp : Int} {mem : dq} (hs : stk.length ≤ 16) {r0 : List Int} {r : Int} (hrd : rds = r0 ++ [r]) (hr1 : 1 ≤ r ∧ r ≤ 1000) (hd : r0.length ≤ 200) (hm : m.length = l.length) {k : Nat} (hk : m.getD i 0 = (k : Int)) (hk2 : k < i) {mt : Int} (hmt : mt = m.getD i 0) : dF n l m (22, A, B) mt ⟨ret, (i : Int), stk, loc, inp, out, set, rds, held, flt, stp⟩ is mem := by
 have hn := du (show i < 1000000 by omega)
 have hlen : (r0 ++ [r]).length = r0.length + 1 := by simp
 subst hrd
 have e1 : wrap .i64 (((r0 ++ [r]).length : Int) - 1) = (r0.length : Int) := by
  rw [dd (by omega) (by omega)]; omega
 have e2 : (r0 ++ [r]).getD r0.length 0 = r := by
  have := fI r0 r
  unfold pv at this
  rw [hlen, cE] at this
  exact this
 have e3 : wrap .i64 (r - 1) = r - 1 := dd (by omega) (by omega)
 have e6 : (r0 ++ [r]).take r0.length = r0 := by rw [List.take_left]
 have a1 : r - 1 > 0 → et (22, A, B) mt ⟨ret, (i : Int), stk, loc, inp, out, set, r0 ++ [r], held, flt, stp⟩ = (k : Int) + 1 ∧ gF (22, A, B) ⟨ret, (i : Int), stk, loc, inp, out, set, r0 ++ [r], held, flt, stp⟩ = r0 ++ [r - 1] := fun h => by
  unfold et gF
  simp only [fI, gZ]
  simp only [if_true, if_pos h, hmt, hk]
  exact ⟨rfl, rfl⟩
 have a2 : ¬ r - 1 > 0 → et (22, A, B) mt ⟨ret, (i : Int), stk, loc, inp, out, set, r0 ++ [r], held, flt, stp⟩ = (i : Int) + 1 ∧ gF (22, A, B) ⟨ret, (i : Int), stk, loc, inp, out, set, r0 ++ [r], held, flt, stp⟩ = r0 := fun h => by
  unfold et gF
  simp only [fI, gZ]
  simp only [if_true, if_neg h]
  exact ⟨rfl, rfl⟩
 unfold dF fO eT
 dsimp only
 rw [if_neg (by decide), if_pos (cY hi), af, hx]
 dsimp only
 rw [PU]
 rw [P1]
 rw [e1]
 simp only [af, e2, e3, aN, cc, e6, hk, bb, bq]
 rw [if_pos (cY (by omega)), if_pos (by simp only [hlen, ai, aj]; omega), if_pos (by simp only [hlen, cn, ai, aj]; omega), hn, du (show k < 1000000 by omega)]
 unfold dN
 by_cases h : r - 1 > 0
 ·rw [if_pos (ag h), if_pos (dU (by omega)), if_pos (cY (by omega)), (a1 h).1, (a1 h).2]
  show _ = _
  kernel_rfl
 ·rw [if_neg (by simpa using h), (a2 h).1, (a2 h).2]
  show _ = _
  kernel_rfl
theorem Qi (n : Nat) (hN : 64 < n) {l : List cW} {m : List Int} {i : Nat} (hl : l.length ≤ 200) (hi : i < l.length) {A B : Int} (hx : l.getD i (0, 0, 0) = (23, A, B)) (hr : cZ (23, A, B) = true) {ret stk loc inp out rds : List Int} {is : List Bool} {set held flt stp : Int} {mem : dq} (hs : stk.length ≤ 16) {p : Int} (hp : jg n A = some p) (hh : wrap .i64 (held + p) = bits .or .i64 held (iL A)) {mt : Int} : dF n l m (23, A, B) mt ⟨ret, (i : Int), stk, loc, inp, out, set, rds, held, flt, stp⟩ is mem := by
 have hn := du (show i < 1000000 by omega)
 unfold dF fO eT
 dsimp only
 rw [if_neg (by decide), if_pos (cY hi), af, hx]
 dsimp only
 rw [PV]
 rw [P2]
 rw [hp, ab, hh]
 simp only [ab, Sum.elim_inl, ay, hn]
 show _ = _
 kernel_rfl
theorem Qj (n : Nat) (hN : 64 < n) {l : List cW} {m : List Int} {i : Nat} (hl : l.length ≤ 200) (hi : i < l.length) {A B : Int} (hx : l.getD i (0, 0, 0) = (24, A, B)) (hr : cZ (24, A, B) = true) {ret stk loc inp out rds : List Int} {is : List Bool} {set held flt stp : Int} {mem : dq} (hs : stk.length ≤ 16) {p : Int} (hp : jg n A = some p) (hh : wrap .i64 (held - p) = bits .andNot .i64 held (iL A)) {mt : Int} : dF n l m (24, A, B) mt ⟨ret, (i : Int), stk, loc, inp, out, set, rds, held, flt, stp⟩ is mem := by
 have hn := du (show i < 1000000 by omega)
 unfold dF fO eT
 dsimp only
 rw [if_neg (by decide), if_pos (cY hi), af, hx]
 dsimp only
 rw [PW]
 rw [P3]
 rw [hp, ab, hh]
 simp only [ab, Sum.elim_inl, ay, hn]
 show _ = _
 kernel_rfl
theorem Qk (n : Nat) (hN : 64 < n) {l : List cW} {m : List Int} {i : Nat} (hl : l.length ≤ 200) (hi : i < l.length) {A B : Int} (hx : l.getD i (0, 0, 0) = (25, A, B)) (hr : cZ (25, A, B) = true) {ret stk loc inp out rds : List Int} {is : List Bool} {set held flt stp : Int} {mem : dq} (hs : stk.length ≤ 16) {mt : Int} : dF n l m (25, A, B) mt ⟨ret, (i : Int), stk, loc, inp, out, set, rds, held, flt, stp⟩ is mem := by
 have hn := du (show i < 1000000 by omega)
 unfold dF fO eT
 dsimp only
 rw [if_neg (by decide), if_pos (cY hi), af, hx]
 dsimp only
 rw [PX]
 rw [P4]
 simp only [ab, Sum.elim_inl, ay, hn]
 show _ = _
 kernel_rfl
def AllR (v : List Int) : Prop := ∀ x ∈ v, fA x
theorem oP : fA 0 := ⟨by decide, by decide⟩
theorem O9 : fA 1 := ⟨by decide, by decide⟩
theorem AllR.get {v : List Int} (h : AllR v) (k : Nat) : fA (v.getD k 0) := by
 rw [av]
 rcases am k v.length with hk | hk
 ·rw [aF hk]
  exact h _ (bE hk)
 ·rw [bQ hk]
  exact oP
theorem AllR.pr {v : List Int} (h : AllR v) : AllR (pr v) := fun x hx => h x (List.mem_of_mem_take hx)
theorem AllR.pv {v : List Int} (h : AllR v) : fA (pv v) := h.get _
theorem AllR.app {v : List Int} (h : AllR v) {y : Int} (hy : fA y) : AllR (v ++ [y]) := fun x hx => by
 rw [az, ax] at hx
 rcases hx with hx | hx
 ·exact h x hx
 ·rw [hx]; exact hy
theorem AllR.set {v : List Int} (h : AllR v) {k : Nat} {y : Int} (hy : fA y) : AllR (v.set k y) := fun x hx => by
 rcases List.mem_or_eq_of_mem_set hx with hx | hx
 ·exact h x hx
 ·rw [hx]; exact hy
structure Rg (s : MS) (mem : dq) : Prop where
 stk : AllR s.stk
 loc : AllR s.loc
 ret : AllR s.ret
 inp : AllR s.inp
 flt : fA s.flt
 mem : ∀ k, AllR (mem.getD k z8)
theorem qe : AllR z8 := fun x hx => by simp at hx; rw [hx]; exact oP
theorem J8 {o A B : Int} (hr : cZ (o, A, B) = true) (hA : fA A) {s : MS} {mem : dq} (h : Rg s mem) (mt : Int) : Rg (dN (o, A, B) mt s mem) (lW (o, A, B) s mem) := by
 obtain ⟨h1, h2, h3, h4, h5, h6⟩ := h
 refine ⟨?_, ?_, ?_, h4, ?_, ?_⟩
 ·show AllR (fT (o, A, B) s mem)
  unfold fT
  dsimp only
  by_cases c0 : o = 1
  ·rw [if_pos c0]; exact h1.app hA
  rw [if_neg c0]
  by_cases c1 : o = 2 ∨ o = 12 ∨ o = 14 ∨ o = 16 ∨ o = 18 ∨ o = 20
  ·rw [if_pos c1]; exact h1.pr
  rw [if_neg c1]
  by_cases c2 : o = 3
  ·rw [if_pos c2]; exact h1.app h1.pv
  rw [if_neg c2]
  by_cases c3 : o = 4
  ·rw [if_pos c3]; exact (h1.pr.pr.app h1.pv).app h1.pr.pv
  rw [if_neg c3]
  by_cases c4 : o = 5
  ·rw [if_pos c4]; exact h1.pr.pr.app (DS 100 (by omega) (tz (c4 ▸ hr)) h1.pr.pv h1.pv).2
  rw [if_neg c4]
  by_cases c5 : o = 6
  ·rw [if_pos c5]; exact h1.pr.app (f5 _)
  rw [if_neg c5]
  by_cases c6 : o = 7
  ·rw [if_pos c6]; exact h1.pr.app (by split; exact O9; exact oP)
  rw [if_neg c6]
  by_cases c7 : o = 8
  ·rw [if_pos c7]; exact h1.pr.pr.app (f5 _)
  rw [if_neg c7]
  by_cases c8 : o = 9
  ·rw [if_pos c8]; exact h1.pr.pr.app (f5 _)
  rw [if_neg c8]
  by_cases c9 : o = 11
  ·rw [if_pos c9]; exact h1.app (h2.get _)
  rw [if_neg c9]
  by_cases C4 : o = 13
  ·rw [if_pos C4]; exact h1.app (h3.get _)
  rw [if_neg C4]
  by_cases C5 : o = 15
  ·rw [if_pos C5]; exact h1.app (h4.get _)
  rw [if_neg C5]
  by_cases C6 : o = 17
  ·rw [if_pos C6]; exact h1.app ((h6 _).get _)
  rw [if_neg C6]
  exact h1
 ·show AllR (if _ then _ else _)
  split
  ·exact h2.set h1.pv
  ·exact h2
 ·show AllR (if _ then _ else _)
  split
  ·exact h3.set h1.pv
  ·exact h3
 ·show fA (if _ then _ else _)
  split
  ·exact f5 _
  ·exact h5
 ·intro k
  unfold lW
  split
  ·rw [av, bB]
   split
   ·split
    ·exact (h6 _).set h1.pv
    ·exact qe
   ·rw [← av]
    exact h6 k
  ·exact h6 k
theorem Jc {s : MS} {mem : dq} (h : Rg s mem) {inp : List Int} (hi : AllR inp) : Rg (iy s.ret inp) mem :=
 ⟨(fun x hx => by cases hx), qe, h.ret, hi, oP, h.mem⟩
theorem G8 {l : List cW} {m h : List Int} {st : List ByteArray} (hR : Row l m h st) {s : MS} {i : Nat} {rs : List (Nat × Int)} (hO : Ok l m st s i rs) (n : Nat) (hN : 64 < n) {mem : dq} (hg : Rg s mem) (is : List Bool) : dF n l m (l.getD i (0, 0, 0)) (m.getD i 0) s is mem := by
 obtain ⟨hstk, hrl, hl⟩ := hO.len hR
 have hi := hO.lt
 have hF := hR.fine
 have hr := hF.right hi
 have hok := hR.stk.ok i hi
 have hlast : opAt l i = 22 → ∃ (k : Nat) (r0 : List Int) (r : Int), m.getD i 0 = (k : Int) ∧ k < i ∧ s.rds = r0 ++ [r] ∧ 1 ≤ r ∧ r ≤ 1000 ∧ r0.length ≤ 200 := fun h22 => by
  obtain ⟨k, a1, a2, a3, a4, a5, a6, a7⟩ := qX hF hi h22
  have e := hO.lps
  rw [a5] at e
  obtain ⟨rs0, rs1, e1, e2, e3⟩ := List.map_eq_append_iff.1 e
  obtain ⟨q, e4, e5⟩ := List.map_eq_singleton_iff.1 e3
  have hb := hO.rnd q (by rw [e1, e4]; simp)
  have hA := xT (hF.right (show k < l.length by omega)) a3
  rw [e5] at hb
  refine ⟨k, rs0.map (·.2), q.2, a1, a2, by rw [hO.rds, e1, e4]; simp, hb.1, by omega, ?_⟩
  have := hrl
  rw [hO.rds, e1, e4] at this
  simp at this ⊢
  omega
 have h23 : opAt l i = 23 → ∃ p, jg n (da l i) = some p ∧ wrap .i64 (s.held + p) = bits .or .i64 s.held (iL (da l i)) := fun ho => by
  obtain ⟨v, a, a1, a2, a3, a4, a5⟩ := G3 hR hO ho mem
  have e : (dN (l.getD i (0, 0, 0)) (m.getD i 0) s mem).held = bits .or .i64 s.held (iL (da l i)) := by
   show (if _ then _ else if _ then _ else _) = _
   rw [if_pos ho]
  have hpa := Nat.two_pow_pos a
  refine ⟨((2 ^ a : Nat) : Int), by rw [a2]; exact Cs n (by omega) a1, ?_⟩
  rw [← e, a5, a3, dd (by omega) (by omega)]
  omega
 have h24 : opAt l i = 24 → ∃ p, jg n (da l i) = some p ∧ wrap .i64 (s.held - p) = bits .andNot .i64 s.held (iL (da l i)) := fun ho => by
  obtain ⟨v, a, a1, a2, a3, a4, a5⟩ := CG hR hO ho mem
  have e : (dN (l.getD i (0, 0, 0)) (m.getD i 0) s mem).held = bits .andNot .i64 s.held (iL (da l i)) := by
   show (if _ then _ else if _ then _ else _) = _
   rw [if_neg (show ¬ opAt l i = 23 by omega), if_pos (show opAt l i = 24 from ho)]
  have hpa := Nat.two_pow_pos a
  refine ⟨((2 ^ a : Nat) : Int), by rw [a2]; exact Cs n (by omega) a1, ?_⟩
  rw [← e, a5, a3, dd (by omega) (by omega)]
  omega
 have hv := yG (o := (l.getD i (0, 0, 0)).1) (A := (l.getD i (0, 0, 0)).2.1) (B := (l.getD i (0, 0, 0)).2.2) (S := s) (mem := mem) hr hok hO.vt
 have d1 := hv.2.1
 have d2 := hv.2.2
 have b7 : (l.getD i (0, 0, 0)).1 = 7 → pv s.stk = 0 ∨ pv s.stk = 1 := fun ho => by
  obtain ⟨r, x, e1, e2, e3⟩ := GW hok hO.vt ho
  rw [e1, fI]
  exact e2
 have b8 : (l.getD i (0, 0, 0)).1 = 8 ∨ (l.getD i (0, 0, 0)).1 = 9 → (pv s.stk = 0 ∨ pv s.stk = 1) ∧ (pv (pr s.stk) = 0 ∨ pv (pr s.stk) = 1) := fun ho => by
  obtain ⟨r, x, y, e1, e2, e3, e4⟩ := Cc hok hO.vt ho
  rw [e1, qa, qc, fI]
  exact ⟨e3, e2⟩
 have g1 := hg.stk.pv
 have g2 := hg.stk.pr.pv
 have g3 := hg.flt
 have hp := hO.place
 clear hv hok hO hg
 unfold opAt da at *
 generalize hx : l.getD i (0, 0, 0) = x at hr d1 d2 hlast h23 h24 b7 b8
 obtain ⟨o, A, B⟩ := x
 obtain ⟨ret, at_, stk, loc, inp, out, set, rds, held, flt, stp⟩ := s
 simp only at hstk hrl d1 d2 hp hlast h23 h24 b7 b8 g1 g2 g3
 subst hp
 rcases ji (gx hr) with rfl | rfl | rfl | rfl | rfl | rfl | rfl | rfl | rfl | rfl | rfl | rfl | rfl | rfl | rfl | rfl | rfl | rfl | rfl | rfl | rfl | rfl | rfl | rfl | rfl
 ·exact Se n hN hl hi hx hr hstk
 ·exact Sf n hN hl hi hx hr hstk (d1 (by decide))
 ·exact Sg n hN hl hi hx hr hstk (d1 (by decide))
 ·exact Si n hN hl hi hx hr hstk (d2 (by decide))
 ·exact Sj n hN hl hi hx hr hstk (d2 (by decide)) g2 g1 g3
 ·exact Sk n hN hl hi hx hr hstk (d1 (by decide))
 ·exact Sl n hN hl hi hx hr hstk (d1 (by decide)) (b7 rfl)
 ·exact Sm n hN hl hi hx hr hstk (d2 (by decide)) (b8 (.inl rfl)).1 (b8 (.inl rfl)).2
 ·exact Sn n hN hl hi hx hr hstk (d2 (by decide)) (b8 (.inr rfl)).1 (b8 (.inr rfl)).2
 ·exact P5 n hN hl hi hx hr hstk
 ·exact P6 n hN hl hi hx hr hstk
 ·exact Qa n hN hl hi hx hr hstk (d1 (by decide))
 ·exact P7 n hN hl hi hx hr hstk
 ·exact Qb n hN hl hi hx hr hstk (d1 (by decide))
 ·exact P8 n hN hl hi hx hr hstk
 ·exact Qc n hN hl hi hx hr hstk (d1 (by decide))
 ·exact P9 n hN hl hi hx hr hstk
 ·exact Qd n hN hl hi hx hr hstk (d1 (by decide))
 ·exact Qe n hN hl hi hx hr hstk
 ·exact Qf n hN hl hi hx hr hstk (d1 (by decide))
 ·exact Qg n hN hl hi hx hr hstk hrl
 ·obtain ⟨k, r0, r, e1, e2, e3, e4, e5, e6⟩ := hlast rfl
  exact Qh n hN hl hi hx hr hstk e3 ⟨e4, e5⟩ e6 hF.nest.hm e1 e2 rfl
 ·obtain ⟨p, p1, p2⟩ := h23 rfl
  exact Qi n hN hl hi hx hr hstk p1 p2
 ·obtain ⟨p, p1, p2⟩ := h24 rfl
  exact Qj n hN hl hi hx hr hstk p1 p2
 ·exact Qk n hN hl hi hx hr hstk
abbrev wA : List Bool := [false, false, false, false, false, false, false, false, false, false, false, false, false, false, false, false]
structure RS where
 e : Int
 is : List Bool
 pc : Int
structure XOk (t : TM) (x : IS) (r : RS) : Prop where
 wh : WOk t x
 pc : x.ph = 2 → r.pc = x.c.s.at_
 e2 : x.ph ≤ 2 → r.e = -1
 f2 : 2 ≤ x.ph → t.sw + t.la ≤ x.used
 e0 : 3 ≤ x.ph → 0 ≤ r.e
 e3 : x.ph = 3 → x.used + x.left = r.e + t.co
 e4 : x.ph = 4 → x.used + x.left = r.e + t.co + t.sw
 e5 : x.ph = 5 → x.used = r.e + t.co + t.sw
 l4 : x.ph = 4 → x.left ≤ t.sw
def fY (l : List cW) (m : List Int) (x : IS) (r : RS) : RS :=
 if x.ph = 2 then ⟨if (gG l x).1 = 25 then x.used + 1 else r.e, DT (gG l x) r.is, if (gG l x).1 = 25 then r.pc else (fa l m x.c).s.at_⟩
 else if fJ x = true then ⟨r.e, wA, 0⟩ else r
theorem Ct (n : Nat) (v1 v2 v3 v4 v5 v6 v7 v8 : Int) (v9 : List Int) (v10 : List cW) (v11 : List Int) (v12 : Bool) (v13 : Int) (v14 v15 v16 v17 v18 : List Int) (v19 : List Bool) (v20 : List Int) (v21 v22 v23 : Int) :
  eu n v1 v2 v3 v4 v5 v6 v7 v8 v9 v10 v11 v12 v13 v14 v15 v16 v17 v18 v19 v20 v21 v22 v23 = some (if v8 < 0 then -1 else wrap .i64 (wrap .i64 (v8 + v6) + v4)) := by
 unfold eu
 by_cases h : v8 < 0
 ·rw [if_pos (ag h), if_pos h]
 ·rw [if_neg (fun k => h (aG k)), if_neg h]
theorem wB (n : Nat) (v1 v2 v3 v4 v5 v6 v7 v8 : Int) (v9 : List Int) (v10 : List cW) (v11 : List Int) (v12 : Bool) (v13 : Int) (v14 v15 v16 v17 v18 : List Int) (v19 : List Bool) (v20 : List Int) (v21 v22 v23 : Int) :
  eG n v1 v2 v3 v4 v5 v6 v7 v8 v9 v10 v11 v12 v13 v14 v15 v16 v17 v18 v19 v20 v21 v22 v23 = some ((v7 == (if v8 < 0 then -1 else wrap .i64 (wrap .i64 (v8 + v6) + v4))), v1, v2, v3, v4, v5, v6, v7, v8, v9, v10, v11, v12, v13, v14, v15, v16, v17, v18, v19, v20, v21, v22, v23) := by
 unfold eG
 rw [Ct]
 rfl
theorem G9 (n : Nat) (inp : List Int) (l : List cW) (m : List Int) (pc : Int) (stk loc ret inp2 out : List Int) (is : List Bool) (rds : List Int) (held flt stp : Int) :
  eM n inp l m false pc stk loc ret inp2 out is rds held flt stp = some (0, l, m, true, 0, [], z8, ret, inp, z16, wA, [], 0, 0, 0) := by
 unfold eM
 rw [if_neg (by decide)]
abbrev Jd (j1 j2 j3 : Int) (t : TM) (l : List cW) (m : List Int) (x : IS) (r : RS) := (j1, j2, j3, t.sw, t.la, t.co, x.used, r.e, x.inn, x.c.mem, l, m, x.c.on, r.pc, x.c.s.stk, x.c.s.loc, x.c.s.ret, x.c.s.inp, x.c.s.out, r.is, x.c.s.rds, x.c.s.held, x.c.s.flt, x.c.s.stp)
abbrev tT (n : Nat) (inp : List Int) (j1 j2 j3 : Int) (t : TM) (l : List cW) (m : List Int) (x : IS) (r : RS) := eH n inp j1 j2 j3 t.sw t.la t.co x.used r.e x.inn x.c.mem l m x.c.on r.pc x.c.s.stk x.c.s.loc x.c.s.ret x.c.s.inp x.c.s.out r.is x.c.s.rds x.c.s.held x.c.s.flt x.c.s.stp
theorem Je {t : TM} (ht : TOk t) {l : List cW} {m h : List Int} {st : List ByteArray} (hR : Row l m h st) {x : IS} {r : RS} (hx : IOk t l m st x) (hr : XOk t x r) (h5 : x.ph ≠ 5) (inp : List Int) : XOk t (dp t l m inp x) (fY l m x r) := by
 obtain ⟨w, p, a2, f2, a0, a3, a4, a5, b4⟩ := hr
 have hU : (dp t l m inp x).used = x.used + 1 := rfl
 have hw := G5 (l := l) (m := m) inp hx.ph.1 hx.left.1 w
 have hcase := xY hx h5 inp (m := m)
 have hu := hx.used
 by_cases h2 : x.ph = 2
 ·have hc : (dp t l m inp x).c = fa l m x.c := if_pos h2
  have e : fY l m x r = ⟨if (gG l x).1 = 25 then x.used + 1 else r.e, DT (gG l x) r.is, if (gG l x).1 = 25 then r.pc else (fa l m x.c).s.at_⟩ := if_pos h2
  rw [e]
  have h3 : (((gG l x).1 = 25 ∧ (dp t l m inp x).ph = 3 ∧ (dp t l m inp x).left = t.co) ∨ ((gG l x).1 ≠ 25 ∧ (dp t l m inp x).ph = 2 ∧ (dp t l m inp x).left = 1)) := by
   rcases hcase with h | h | h | h | h
   ·exact absurd h.1 (by omega)
   ·exact absurd h.1 (by omega)
   ·exact h.2.2
   ·exact absurd h.1 (by omega)
   ·exact absurd h.1 (by omega)
  have := a2 (by omega)
  have := f2 (by omega)
  rcases h3 with ⟨h25, h3, h4⟩ | ⟨h25, h3, h4⟩
  ·rw [if_pos h25, if_pos h25]
   exact ⟨hw, fun h => by omega, fun h => by omega, fun _ => by omega, fun _ => by show 0 ≤ x.used + 1; omega, fun _ => by rw [hU, h4], fun h => by omega, fun h => by omega, fun h => by omega⟩
  ·rw [if_neg h25, if_neg h25]
   exact ⟨hw, fun h => by rw [hc], fun _ => a2 (by omega), fun _ => by omega, fun h => by omega, fun h => by omega, fun h => by omega, fun h => by omega, fun h => by omega⟩
 ·by_cases hla : fJ x = true
  ·have e : fY l m x r = ⟨r.e, wA, 0⟩ := by unfold fY; rw [if_neg h2, if_pos hla]
   have hc : (dp t l m inp x).c = ⟨true, iy x.c.s.ret inp, x.c.mem⟩ := by
    show (if x.ph = 2 then fa l m x.c else if fJ x = true then ⟨true, iy x.c.s.ret inp, x.c.mem⟩ else x.c) = _
    rw [if_neg h2, if_pos hla]
   have hl := Cl w hla
   have h1 : x.ph = 1 ∧ x.left = 1 := by
    unfold fJ at hla
    rw [ai, aj, aj] at hla
    exact hla
   have h3 : (dp t l m inp x).ph = 2 := by rcases hcase with h | h | h | h | h <;> omega
   rw [e]
   exact ⟨hw, fun _ => by rw [hc], fun _ => a2 (by omega), fun _ => by omega, fun h => by omega, fun h => by omega, fun h => by omega, fun h => by omega, fun h => by omega⟩
  ·have e : fY l m x r = r := by unfold fY; rw [if_neg h2, if_neg hla]
   have hnl : ¬ (x.ph = 1 ∧ x.left = 1) := fun h => hla (by unfold fJ; rw [h.1, h.2]; rfl)
   rw [e]
   refine ⟨hw, fun h => ?_, fun h => ?_, fun h => ?_, fun h => ?_, fun h => ?_, fun h => ?_, fun h => ?_, fun h => ?_⟩
   ·rcases hcase with h | h | h | h | h <;> omega
   ·exact a2 (by rcases hcase with h | h | h | h | h <;> omega)
   ·have := f2 (by rcases hcase with h | h | h | h | h <;> omega); omega
   ·exact a0 (by rcases hcase with h | h | h | h | h <;> omega)
   ·rcases hcase with h | h | h | h | h <;> omega
   ·rcases hcase with h | h | h | h | h <;> omega
   ·rcases hcase with h | h | h | h | h <;> omega
   ·rcases hcase with h | h | h | h | h <;> omega
theorem EW {l : List cW} {m h : List Int} {st : List ByteArray} (hR : Row l m h st) {t : TM} (ht : TOk t) {x : IS} {r : RS} (hx : IOk t l m st x) (hr : XOk t x r) (h5 : x.ph ≠ 5) (hu : x.used < 1000000) (he : r.e < 1000000) (n : Nat) (hN : 64 < n) (hg : Rg x.c.s x.c.mem) (inp : List Int) (j1 j2 j3 : Int) :
  tT n inp j1 j2 j3 t l m x r = some (((iX l x).1, ((iX l x).2, (dp t l m inp x).ph == 5)), 0, Jd j1 j2 j3 t l m (dp t l m inp x) (fY l m x r)) := by
 have hcase := xY hx h5 inp (m := m)
 obtain ⟨s0, s1, l0, l1, c0, c1⟩ := ht
 obtain ⟨w, rp, a2, f2, a0, a3, a4, a5, b4⟩ := hr
 have hU : (dp t l m inp x).used = x.used + 1 := rfl
 have hu0 := hx.used
 have hph := hx.ph
 have hle := hx.left
 have w0 := w.w0
 have w1 := w.w1
 -- the last slot
 have hlast : (if r.e < 0 then -1 else wrap .i64 (wrap .i64 (r.e + t.co) + t.sw)) = if r.e < 0 then -1 else r.e + t.co + t.sw := by
  split
  ·rfl
  ·rw [dd (show -9223372036854775808 ≤ r.e + t.co by omega) (by omega), dd (by omega) (by omega)]
 unfold tT Jd eH
 rw [wB, ab, hlast]
 dsimp only
 have hnd : (x.used == (if r.e < 0 then -1 else r.e + t.co + t.sw)) = false := by
  rw [aH]
  split
  ·omega
  ·rcases hcase with h | h | h | h | h <;> omega
 rw [hnd, if_neg (by decide), show wrap .i64 (x.used + 1) = x.used + 1 from dd (by omega) (by omega), show wrap .i64 (t.sw + t.la) = t.sw + t.la from dd (by omega) (by omega)]
 by_cases h2 : x.ph = 2
 ·-- an instruction
  have hf := f2 (by omega)
  have he2 := a2 (by omega)
  obtain ⟨i, rs, hO⟩ := hx.run h2
  have hp : x.c.s.at_ = (i : Int) := hO.place
  have hi : x.c.s.at_.toNat = i := by rw [hp]; exact af i
  have hon : x.c.on = true := by rw [hx.on, h2]; rfl
  have hS := G8 hR hO n hN hg r.is
  unfold dF fO at hS
  have eI : gG l x = l.getD i (0, 0, 0) := by unfold gG; rw [hi]
  have e1 : fa l m x.c = ⟨decide ((l.getD i (0, 0, 0)).1 ≠ 25), dN (l.getD i (0, 0, 0)) (m.getD i 0) x.c.s x.c.mem, lW (l.getD i (0, 0, 0)) x.c.s x.c.mem⟩ := by
   unfold fa
   rw [if_pos hon, hi]
  have hla : fJ x = false := by unfold fJ; rw [h2]; rfl
  have eN : dp t l m inp x = ⟨(dX t 2 (if (l.getD i (0, 0, 0)).1 = 25 then 0 else x.left)).1, (dX t 2 (if (l.getD i (0, 0, 0)).1 = 25 then 0 else x.left)).2, x.used + 1, x.inn, ⟨decide ((l.getD i (0, 0, 0)).1 ≠ 25), dN (l.getD i (0, 0, 0)) (m.getD i 0) x.c.s x.c.mem, lW (l.getD i (0, 0, 0)) x.c.s x.c.mem⟩⟩ := by
   unfold dp
   rw [if_pos h2, e1, hla, if_neg (by decide)]
   unfold iM
   rw [if_pos h2, eI, h2]
  have eX : fY l m x r = ⟨if (l.getD i (0, 0, 0)).1 = 25 then x.used + 1 else r.e, DT (l.getD i (0, 0, 0)) r.is, if (l.getD i (0, 0, 0)).1 = 25 then r.pc else (dN (l.getD i (0, 0, 0)) (m.getD i 0) x.c.s x.c.mem).at_⟩ := by
   unfold fY
   rw [if_pos h2, eI, e1]
  have eE : iX l x = if (l.getD i (0, 0, 0)).1 = 23 then (2, (l.getD i (0, 0, 0)).2.1) else if (l.getD i (0, 0, 0)).1 = 24 then (3, (l.getD i (0, 0, 0)).2.1) else (0, 0) := by
   unfold iX
   rw [if_pos h2, eI]
  have hp5 : ((dp t l m inp x).ph == 5) = false := by
   rw [aH]
   rcases hcase with h | h | h | h | h <;> omega
  rw [if_neg (fun k => by have := aG k; omega), if_neg (fun k => by have := ae.1 k; omega), if_pos (ag (by omega)), hon, rp h2, hS, ab, hp5, eE, eN, eX, G0]
  dsimp only
  by_cases h25 : (l.getD i (0, 0, 0)).1 = 25
  ·simp only [if_pos h25]
   rw [if_pos (by decide), if_neg (by rw [h25]; decide), if_neg (by rw [h25]; decide), rp h2]
  ·simp only [if_neg h25]
   by_cases h24 : (l.getD i (0, 0, 0)).1 = 24
   ·simp only [if_pos h24]
    rw [if_neg (by decide), if_pos (by decide), if_neg (by rw [h24]; decide)]
    rfl
   ·simp only [if_neg h24]
    by_cases h23 : (l.getD i (0, 0, 0)).1 = 23
    ·simp only [if_pos h23]
     rw [if_neg (by decide), if_pos (by decide)]
     rfl
    ·simp only [if_neg h23]
     rw [if_neg (by decide), if_neg (by decide)]
 ·have hon : x.c.on = false := by rw [hx.on, aJ h2]
  by_cases hla : fJ x = true
  ·-- the inputs are latched
   have hl := Cl w hla
   have h1 : x.ph = 1 ∧ x.left = 1 := by
    unfold fJ at hla
    rw [ai, aj, aj] at hla
    exact hla
   have hc : (dp t l m inp x).c = ⟨true, iy x.c.s.ret inp, x.c.mem⟩ := by
    show (if x.ph = 2 then fa l m x.c else if fJ x = true then ⟨true, iy x.c.s.ret inp, x.c.mem⟩ else x.c) = _
    rw [if_neg h2, if_pos hla]
   have hi : (dp t l m inp x).inn = inp := if_pos hla
   have eX : fY l m x r = ⟨r.e, wA, 0⟩ := by unfold fY; rw [if_neg h2, if_pos hla]
   have h3 : iX l x = (1, 0) ∧ (dp t l m inp x).ph = 2 := by
    rcases hcase with h | h | h | h | h
    ·omega
    ·rcases h.2 with h | h
     ·omega
     ·exact ⟨h.2.1, h.2.2.1⟩
    ·omega
    ·omega
    ·omega
   rw [if_neg (fun k => by have := aG k; omega), if_pos (ae.2 hl), hon, G9, ab, h3.1, h3.2, eX, hU, hc, hi]
   rfl
  ·have hc : (dp t l m inp x).c = x.c := by
    show (if x.ph = 2 then fa l m x.c else if fJ x = true then ⟨true, iy x.c.s.ret inp, x.c.mem⟩ else x.c) = _
    rw [if_neg h2, if_neg hla]
   have hi : (dp t l m inp x).inn = x.inn := if_neg hla
   have eX : fY l m x r = r := by unfold fY; rw [if_neg h2, if_neg hla]
   have hnl : ¬ (x.ph = 1 ∧ x.left = 1) := fun h => hla (by unfold fJ; rw [h.1, h.2]; rfl)
   rw [eX, hU, hc, hi]
   by_cases h3 : x.ph < 2
   ·have hE : iX l x = (0, 0) ∧ (dp t l m inp x).ph < 2 := by
     rcases hcase with h | h | h | h | h
     ·exact ⟨h.2.1, by omega⟩
     ·rcases h.2 with h' | h'
      ·exact ⟨h'.2.1, by omega⟩
      ·omega
     ·omega
     ·omega
     ·omega
    rw [if_pos (ag (by omega)), hE.1, show ((dp t l m inp x).ph == 5) = false by rw [aH]; omega]
   ·have hf := f2 (by omega)
    have he0 := a0 (by omega)
    rw [if_neg (fun k => by have := aG k; omega), if_neg (fun k => by have := ae.1 k; omega), if_neg (fun k => by have := aG k; omega), wB, ab, hlast, show (if r.e < 0 then -1 else r.e + t.co + t.sw) = r.e + t.co + t.sw from if_neg (by omega), show wrap .i64 (r.e + t.co) = r.e + t.co from dd (by omega) (by omega)]
    dsimp only
    have hd : (x.used + 1 == r.e + t.co + t.sw) = ((dp t l m inp x).ph == 5) := by
     rw [bo, ae, ae]
     rcases hcase with h | h | h | h | h <;> omega
    rw [hd]
    by_cases hk : x.used + 1 = r.e + t.co
    ·have hE : iX l x = (4, 0) := by
      rcases hcase with h | h | h | h | h
      ·omega
      ·omega
      ·omega
      ·rcases h.2 with h' | h'
       ·omega
       ·exact h'.2.1
      ·omega
     rw [if_pos (ae.2 hk), hE]
    ·have hE : iX l x = (0, 0) := by
      rcases hcase with h | h | h | h | h
      ·omega
      ·omega
      ·omega
      ·rcases h.2 with h' | h'
       ·exact h'.2.1
       ·omega
      ·exact h.2.1
     rw [if_neg (fun k => hk (ae.1 k)), hE]
theorem Jf : ∀ (v : Fin 256) (k : Fin 8), (((((v.val : Nat) : Int).fdiv (2 ^ k.val)).tmod 2) != 0) = wx ((v.val : Nat) : Int) k.val := by decide +kernel
theorem J9 (n : Nat) (hn : 64 < n) {v k : Nat} (hv : v < 256) (hk : k < 8) : xH n (v : Int) (k : Int) = some (wx (v : Int) k) := by
 have h := DQ n k (by omega) hn (a := (v : Int)) ⟨by omega, by omega⟩
 unfold pT at h
 have e0 : tn = mI := rfl
 unfold xH
 rw [e0]
 have h2 : mI n ((v : Int), (k : Int), 0) = some ((v : Int).fdiv (2 ^ k)) := by
  rw [Option.bind_eq_some_iff] at h
  obtain ⟨y, y1, y2⟩ := h
  rw [y1]
  exact y2
 rw [h2, ab, Jf ⟨v, hv⟩ ⟨k, hk⟩]
theorem EX (n : Nat) (hn : 64 < n) (p : Int) {v : Nat} (hv : v < 256) {hs : List Int} (hh : hs.length ≤ 8) : xI n p (v : Int) hs = some (tQ (v : Int) hs hs.length 0 p) := by
 have key : ∃ r, tq n ((v : Int), hs, p, 0) = some r ∧ r = tQ (v : Int) hs hs.length 0 p := by
  show ∃ r, it _ n _ = some r ∧ _
  refine ju (fun f x => ∃ (k : Nat) (q : Int), k ≤ hs.length ∧ hs.length < f + k ∧ tQ (v : Int) hs (hs.length - k) k q = tQ (v : Int) hs hs.length 0 p ∧ x = ((v : Int), hs, q, (k : Int))) _ (fun x ⟨k, q, h1, h2, _⟩ => by omega) ?_ n _ ⟨0, p, by omega, by omega, rfl, rfl⟩
  rintro f x F hF ⟨k, q, h1, h2, h3, rfl⟩
  show ∃ r, ur n F (v : Int) hs q (k : Int) = some r ∧ _
  unfold ur
  rcases am k hs.length with hk | hk
  ·rw [if_pos (ag (by omega)), if_pos (ag (by omega)), J9 n hn hv (by omega), ab, dH (by omega)]
   rw [show hs.length - k = (hs.length - (k + 1)) + 1 by omega, Ck] at h3
   by_cases hb : wx (v : Int) k = true
   ·rw [if_pos hb, if_pos (cY hk), af]
    rw [if_pos hb] at h3
    exact hF _ ⟨k + 1, _, by omega, by omega, h3, rfl⟩
   ·rw [if_neg hb]
    rw [if_neg hb] at h3
    exact hF _ ⟨k + 1, _, by omega, by omega, h3, rfl⟩
  ·have : k = hs.length := by omega
   subst this
   rw [if_neg (by simp)]
   rw [bi] at h3
   exact ⟨_, rfl, h3⟩
 obtain ⟨r, e1, e2⟩ := key
 unfold xI
 rw [e1, e2]
 rfl
structure SOk (set : Int) (is : List Bool) : Prop where
 len : is.length = 16
 ex : ∃ v : Nat, set = (v : Int) ∧ v < 65536 ∧ ∀ k, k < 16 → is.getD k false = v.testBit k
theorem JA : SOk 0 wA := ⟨rfl, 0, rfl, by omega, fun k hk => by
 rw [Nat.zero_testBit]
 rcases (show k = 0 ∨ k = 1 ∨ k = 2 ∨ k = 3 ∨ k = 4 ∨ k = 5 ∨ k = 6 ∨ k = 7 ∨ k = 8 ∨ k = 9 ∨ k = 10 ∨ k = 11 ∨ k = 12 ∨ k = 13 ∨ k = 14 ∨ k = 15 by omega) with rfl | rfl | rfl | rfl | rfl | rfl | rfl | rfl | rfl | rfl | rfl | rfl | rfl | rfl | rfl | rfl <;> rfl⟩
theorem Ka {v k : Nat} (hv : v < 65536) (hk : k < 16) : Ci (v : Int) k = v.testBit k := by
 unfold Ci
 have h1 : min ((k : Int)).toNat 64 = k := by omega
 have h2 : ((v : Int)).fdiv (2 ^ k) = ((v / 2 ^ k : Nat) : Int) := by
  rw [Int.fdiv_eq_ediv_of_nonneg _ (by exact Int.le_of_lt (Int.pow_pos (by decide)))]
  simp
 have h3 : v / 2 ^ k < 65536 := Nat.lt_of_le_of_lt (Nat.div_le_self _ _) hv
 rw [h1, h2]
 have h4 : bits .and .i64 ((v / 2 ^ k : Nat) : Int) 1 = ((v / 2 ^ k % 2 : Nat) : Int) := by
  show IntKind.i64.wrap ((BitVec.ofInt 64 ((v / 2 ^ k : Nat) : Int) &&& BitVec.ofInt 64 ((1 : Nat) : Int)).toNat : Int) = _
  rw [BitVec.toNat_and, ofInt_u64 1 (by omega), ofInt_u64 _ (by omega), Nat.and_one_is_mod]
  exact dd (by omega) (by omega)
 rw [h4, Nat.testBit_eq_decide_div_mod_eq, bo, ae, aj]
 omega
theorem Kb {set : Int} {is : List Bool} (h : SOk set is) {A : Int} (hA : 0 ≤ A ∧ A ≤ 15) : SOk (bits .or .i64 set (iL A)) (is.set A.toNat true) := by
 obtain ⟨h1, v, h2, h3, h4⟩ := h
 obtain ⟨a, rfl⟩ : ∃ a : Nat, A = (a : Int) := ⟨A.toNat, by omega⟩
 obtain ⟨e1, hp⟩ := DP (A := (a : Int)) rfl (show a ≤ 15 by omega)
 have e2 := Cq v (2 ^ a) h3 hp
 refine ⟨by rw [bm]; exact h1, v ||| 2 ^ a, by rw [h2, e1, e2], Nat.or_lt_two_pow (n := 16) h3 hp, fun k hk => ?_⟩
 rw [af, Nat.testBit_or, Nat.testBit_two_pow, ← h4 k hk, av, bB, av]
 by_cases hak : a = k
 ·subst hak
  rw [if_pos rfl, if_pos (by omega), ag rfl, Bool.or_true]
  rfl
 ·rw [if_neg hak, aJ hak, aZ]
theorem Jg {o A B : Int} (hr : cZ (o, A, B) = true) {s : MS} {is : List Bool} (h : SOk s.set is) (mt : Int) (mem : dq) : SOk (dN (o, A, B) mt s mem).set (DT (o, A, B) is) := by
 show SOk (if o = 16 then _ else _) (if o = 16 then _ else _)
 by_cases ho : o = 16
 ·rw [if_pos ho, if_pos ho]
  exact Kb h (nO (.inr ho) hr)
 ·rw [if_neg ho, if_neg ho]
  exact h
theorem Jh (n : Nat) (hn : 16 < n) (l : List cW) (m : List Int) (on : Bool) (pc : Int) (stk loc ret inp out : List Int) {set : Int} {is : List Bool} (hS : SOk set is) (rds : List Int) (held flt stp : Int) :
  Ax n l m on pc stk loc ret inp out is rds held flt stp = some (kc out set, l, m, on, pc, stk, loc, ret, inp, out, is, rds, held, flt, stp) := by
 obtain ⟨hlen, v, hv1, hv2, hv3⟩ := hS
 unfold Ax
 have key : ∃ r, wj n ([], 0, l, m, on, pc, stk, loc, ret, inp, out, is, rds, held, flt, stp) = some r ∧ r = (kc out set, l, m, on, pc, stk, loc, ret, inp, out, is, rds, held, flt, stp) := by
  show ∃ r, it _ n _ = some r ∧ _
  refine ju (fun f x => ∃ (k : Nat) (o : List (Int × Int)), k ≤ 16 ∧ 16 < f + k ∧ o.length ≤ k ∧ o ++ mn out set (16 - k) k = kc out set ∧ x = (o, (k : Int), l, m, on, pc, stk, loc, ret, inp, out, is, rds, held, flt, stp)) _ (fun x ⟨k, o, h1, h2, _⟩ => by omega) ?_ n _ ⟨0, [], by omega, by omega, aq _, by unfold kc; rw [bb, aN], rfl⟩
  rintro f x F hF ⟨k, o, h1, h2, h3, h4, rfl⟩
  show ∃ r, xJ n F o (k : Int) l m on pc stk loc ret inp out is rds held flt stp = some r ∧ _
  unfold xJ
  rcases am k 16 with hk | hk
  ·rw [if_pos (ag (by omega)), if_pos (fo (by omega)), if_pos (fo (by omega)), dH (by omega)]
   rw [show 16 - k = (16 - (k + 1)) + 1 by omega] at h4
   unfold mn at h4
   rw [af]
   have hb : Ci set k = is.getD k false := by rw [hv1, Ka hv2 hk, hv3 k hk]
   rw [hb] at h4
   by_cases hq : is.getD k false = true
   ·rw [if_pos hq, if_pos (by simp; omega)]
    rw [if_pos hq] at h4
    exact hF _ ⟨k + 1, _, by omega, by omega, by simp; omega, by rw [aL]; exact h4, rfl⟩
   ·rw [if_neg hq]
    rw [if_neg hq, bb] at h4
    exact hF _ ⟨k + 1, o, by omega, by omega, by omega, h4, rfl⟩
  ·have : k = 16 := by omega
   subst this
   rw [if_neg (by decide)]
   rw [bi] at h4
   unfold mn at h4
   rw [aK] at h4
   subst h4
   exact ⟨_, rfl, rfl⟩
 obtain ⟨r, e1, e2⟩ := key
 subst e2
 rw [e1]
 rfl
theorem Ji {t : TM} {l : List cW} {m : List Int} {st : List ByteArray} {x : IS} (hx : IOk t l m st x) : ∃ v : Nat, v < 256 ∧ uB x = (v : Int) := by
 unfold uB
 by_cases h : x.ph < 2
 ·rw [if_pos h]; exact ⟨0, by omega, rfl⟩
 ·rw [if_neg h]
  by_cases h2 : x.ph = 2
  ·obtain ⟨i, rs, hO⟩ := hx.run h2
   obtain ⟨v, v1, v2⟩ := hO.held
   exact ⟨v, v2.1, v1⟩
  ·exact ⟨0, by omega, hx.off (by omega)⟩
theorem EY {t : TM} (ht : TOk t) {l : List cW} {m : List Int} {st : List ByteArray} {x : IS} {r : RS} (hx : IOk t l m st x) (hr : XOk t x r) (hu : x.used < 900000) : r.e < 1000000 ∧ -1 ≤ r.e := by
 obtain ⟨s0, s1, l0, l1, c0, c1⟩ := ht
 have hp := hx.ph
 have hl := hx.left
 have e2 := hr.e2
 have e3 := hr.e3
 have e4 := hr.e4
 have e5 := hr.e5
 have e0 := hr.e0
 rcases (show x.ph ≤ 2 ∨ x.ph = 3 ∨ x.ph = 4 ∨ x.ph = 5 by omega) with h | h | h | h
 ·have := e2 h; omega
 ·have := e3 h; have := e0 (by omega); omega
 ·have := e4 h; have := e0 (by omega); omega
 ·have := e5 h; have := e0 (by omega); omega
theorem Cu {t : TM} (ht : TOk t) {l : List cW} {m : List Int} {st : List ByteArray} {x : IS} {r : RS} (hx : IOk t l m st x) (hr : XOk t x r) (hu : x.used < 900000) : (x.used == (if r.e < 0 then -1 else wrap .i64 (wrap .i64 (r.e + t.co) + t.sw))) = (x.ph == 5) := by
 have he := EY ht hx hr hu
 obtain ⟨s0, s1, l0, l1, c0, c1⟩ := ht
 have hp := hx.ph
 have hl := hx.left
 have hu0 := hx.used
 have e2 := hr.e2
 have e3 := hr.e3
 have e4 := hr.e4
 have e5 := hr.e5
 have e0 := hr.e0
 rw [bo, ae, ae]
 rcases (show x.ph ≤ 2 ∨ x.ph = 3 ∨ x.ph = 4 ∨ x.ph = 5 by omega) with h | h | h | h
 ·have := e2 h
  rw [if_pos (by omega)]
  omega
 ·have := e3 h
  have := e0 (by omega)
  rw [if_neg (by omega), dd (show -9223372036854775808 ≤ r.e + t.co by omega) (by omega), dd (by omega) (by omega)]
  omega
 ·have := e4 h
  have := e0 (by omega)
  rw [if_neg (by omega), dd (show -9223372036854775808 ≤ r.e + t.co by omega) (by omega), dd (by omega) (by omega)]
  omega
 ·have := e5 h
  have := e0 (by omega)
  rw [if_neg (by omega), dd (show -9223372036854775808 ≤ r.e + t.co by omega) (by omega), dd (by omega) (by omega)]
  omega
theorem Ha {t : TM} (ht : TOk t) {l : List cW} {m : List Int} {st : List ByteArray} {x : IS} {r : RS} (hx : IOk t l m st x) (hr : XOk t x r) : x.used < t.sw + t.la ↔ x.ph < 2 := by
 have hla := ht.l0
 have hp := hx.ph
 have hl := hx.left
 have w0 := hr.wh.w0
 have w1 := hr.wh.w1
 have f2 := hr.f2
 rcases (show x.ph = 0 ∨ x.ph = 1 ∨ 2 ≤ x.ph by omega) with h | h | h
 ·have := w0 h
  have := hx.used
  constructor
  ·intro _; omega
  ·intro _
   omega
 ·have := w1 h
  omega
 ·have := f2 h
  omega
theorem Jj {t : TM} (ht : TOk t) {l : List cW} {m : List Int} {st : List ByteArray} {x : IS} {r : RS} (hx : IOk t l m st x) (hr : XOk t x r) : (r.e < 0 ∨ x.used < r.e + t.co) ↔ x.ph < 4 := by
 obtain ⟨s0, s1, l0, l1, c0, c1⟩ := ht
 have hp := hx.ph
 have hl := hx.left
 have e2 := hr.e2
 have e3 := hr.e3
 have e4 := hr.e4
 have e5 := hr.e5
 have e0 := hr.e0
 have l4 := hr.l4
 rcases (show x.ph ≤ 2 ∨ x.ph = 3 ∨ x.ph = 4 ∨ x.ph = 5 by omega) with h | h | h | h
 ·have := e2 h; omega
 ·have := e3 h; have := e0 (by omega); omega
 ·have := e4 h; have := e0 (by omega); have := l4 h; omega
 ·have := e5 h; have := e0 (by omega); omega
theorem Hc {t : TM} (ht : TOk t) (s : MS) (mem : dq) (is : List Bool) (pc : Int) : XOk t (jR t s mem) ⟨-1, is, pc⟩ := by
 have h : (jR t s mem).ph = 0 ∨ (jR t s mem).ph = 1 := by
  show (dX t 0 t.sw).1 = 0 ∨ (dX t 0 t.sw).1 = 1
  unfold dX
  split
  ·exact .inl rfl
  ·rw [if_pos rfl]
   exact .inr rfl
 exact ⟨EU s mem, fun h => by omega, fun _ => rfl, fun h => by omega, fun h => by omega, fun h => by omega, fun h => by omega, fun h => by omega, fun h => by omega⟩
structure BOk (t : TM) (l : List cW) (m : List Int) (st : List ByteArray) (x : IS) (r : RS) : Prop where
 ok : IOk t l m st x
 xok : XOk t x r
 rg : Rg x.c.s x.c.mem
 inn : AllR x.inn
 sok : SOk x.c.s.set r.is
 len : x.c.s.stk.length ≤ 16 ∧ x.c.s.rds.length ≤ 200
theorem Jk {t : TM} (ht : TOk t) {l : List cW} {m h : List Int} {st : List ByteArray} (hR : Row l m h st) (hin : InR l) {x : IS} {r : RS} (hb : BOk t l m st x r) (h5 : x.ph ≠ 5) {inp : List Int} (hi : AllR inp) : BOk t l m st (dp t l m inp x) (fY l m x r) := by
 obtain ⟨hx, hr, hg, hn, hs, hl⟩ := hb
 have hx' := I5 hR ht hx h5 inp
 have hr' := Je ht hR hx hr h5 inp
 have hn' : AllR (dp t l m inp x).inn := by
  show AllR (if fJ x = true then inp else x.inn)
  split
  ·exact hi
  ·exact hn
 by_cases h2 : x.ph = 2
 ·obtain ⟨i, rs, hO⟩ := hx.run h2
  have hp : x.c.s.at_ = (i : Int) := hO.place
  have hat : x.c.s.at_.toNat = i := by rw [hp]; exact af i
  have hon : x.c.on = true := by rw [hx.on, h2]; rfl
  have eI : gG l x = l.getD i (0, 0, 0) := by unfold gG; rw [hat]
  have e1 : fa l m x.c = ⟨decide ((l.getD i (0, 0, 0)).1 ≠ 25), dN (l.getD i (0, 0, 0)) (m.getD i 0) x.c.s x.c.mem, lW (l.getD i (0, 0, 0)) x.c.s x.c.mem⟩ := by
   unfold fa
   rw [if_pos hon, hat]
  have hc : (dp t l m inp x).c = _ := (if_pos h2 : (if x.ph = 2 then fa l m x.c else if fJ x = true then ⟨true, iy x.c.s.ret inp, x.c.mem⟩ else x.c) = fa l m x.c).trans e1
  have hri := hR.fine.right hO.lt
  have hAi : fA (l.getD i (0, 0, 0)).2.1 := by
   rw [av, aF hO.lt]
   exact hin _ (bE hO.lt)
  have eS : (fY l m x r).is = DT (l.getD i (0, 0, 0)) r.is := by
   unfold fY
   rw [if_pos h2, eI]
  refine ⟨hx', hr', ?_, hn', ?_, ?_⟩
  ·rw [hc]
   exact J8 (o := (l.getD i (0, 0, 0)).1) (A := (l.getD i (0, 0, 0)).2.1) (B := (l.getD i (0, 0, 0)).2.2) hri hAi hg (m.getD i 0)
  ·rw [hc, eS]
   exact Jg (o := (l.getD i (0, 0, 0)).1) (A := (l.getD i (0, 0, 0)).2.1) (B := (l.getD i (0, 0, 0)).2.2) hri hs (m.getD i 0) x.c.mem
  ·rw [hc]
   by_cases h25 : opAt l i = 25
   ·have hx25 : l.getD i (0, 0, 0) = (25, da l i, (l.getD i (0, 0, 0)).2.2) := by rw [← h25]
    have k1 : ∀ A B, fT (25, A, B) x.c.s x.c.mem = x.c.s.stk := fun A B => by kernel_rfl
    have k2 : ∀ A B, gF (25, A, B) x.c.s = x.c.s.rds := fun A B => by kernel_rfl
    show (fT (l.getD i (0, 0, 0)) x.c.s x.c.mem).length ≤ 16 ∧ (gF (l.getD i (0, 0, 0)) x.c.s).length ≤ 200
    rw [hx25, k1, k2]
    exact hl
   ·obtain ⟨q, rs', hq, _⟩ := (tM hR hO x.c.mem h25).ex
    obtain ⟨l1, l2, _⟩ := hq.len hR
    exact ⟨l1, l2⟩
 ·by_cases hla : fJ x = true
  ·have hc : (dp t l m inp x).c = ⟨true, iy x.c.s.ret inp, x.c.mem⟩ := by
    show (if x.ph = 2 then fa l m x.c else if fJ x = true then ⟨true, iy x.c.s.ret inp, x.c.mem⟩ else x.c) = _
    rw [if_neg h2, if_pos hla]
   have e : (fY l m x r).is = wA := by unfold fY; rw [if_neg h2, if_pos hla]
   refine ⟨hx', hr', ?_, hn', ?_, ?_⟩
   ·rw [hc]; exact Jc hg hi
   ·rw [hc, e]; exact JA
   ·rw [hc]; exact ⟨aq _, aq _⟩
  ·have hc : (dp t l m inp x).c = x.c := by
    show (if x.ph = 2 then fa l m x.c else if fJ x = true then ⟨true, iy x.c.s.ret inp, x.c.mem⟩ else x.c) = _
    rw [if_neg h2, if_neg hla]
   have e : fY l m x r = r := by unfold fY; rw [if_neg h2, if_neg hla]
   rw [e] at hr' ⊢
   exact ⟨hx', hr', by rw [hc]; exact hg, hn', by rw [hc]; exact hs, by rw [hc]; exact hl⟩
theorem Hd {t : TM} (ht : TOk t) {l : List cW} {m h : List Int} {st : List ByteArray} (hR : Row l m h st) (hin : InR l) {x : IS} {r : RS} (hb : BOk t l m st x r) (hu : x.used < 800000) (n : Nat) (hN : 64 < n) {inp : List Int} (hi : AllR inp) (j1 j2 j3 : Int) :
  ∃ (kd bl : Int) (dn : Bool) (er : Int) (x' : IS) (r' : RS), xX n inp j1 j2 j3 t l m x = some ((kd, (bl, dn)), er, NM j1 j2 j3 t l m x') ∧ tT n inp j1 j2 j3 t l m x r = some ((kd, (bl, dn)), er, Jd j1 j2 j3 t l m x' r') ∧ BOk t l m st x' r' ∧ x'.used ≤ x.used + 1 := by
 by_cases h5 : x.ph = 5
 ·refine ⟨0, 0, false, 16, x, r, ?_, ?_, hb, by omega⟩
  ·unfold xX pJ
   rw [if_pos (ae.2 h5)]
  ·have hd := Cu ht hb.ok hb.xok (by omega)
   unfold tT eH
   rw [wB, ab]
   dsimp only
   rw [hd, if_pos (ae.2 h5)]
 ·have he := EY ht hb.ok hb.xok (by omega)
  exact ⟨_, _, _, _, _, _, Cj hR ht hb.ok h5 (by omega) n (by omega) inp j1 j2 j3, EW hR ht hb.ok hb.xok h5 (by omega) he.1 n hN hb.rg inp j1 j2 j3, Jk ht hR hin hb h5 hi, by show x.used + 1 ≤ _; omega⟩
abbrev Pd (cs : List Int) (kk i : Int) (t : TM) (a2 : List (List Int)) (l : List cW) (m : List Int) (j1 j2 j3 : Int) (x : IS) (r : RS) := (cs, kk, i, t.sw, t.la, t.co, a2, l, m, x.c.s.ret, x.c.on, x.c.s.at_, x.c.s.stk, x.c.s.loc, x.c.s.inp, x.c.s.out, x.c.s.set, x.c.s.rds, x.c.s.held, x.c.s.flt, x.c.s.stp, l, m, x.c.on, r.pc, x.c.s.stk, x.c.s.loc, x.c.s.ret, x.c.s.inp, x.c.s.out, r.is, x.c.s.rds, x.c.s.held, x.c.s.flt, x.c.s.stp, x.c.mem, x.c.mem, j1, j2, j3, t.sw, t.la, t.co, x.ph, x.left, x.used, x.inn, j1, j2, j3, t.sw, t.la, t.co, x.used, r.e, x.inn)
theorem Jl (n : Nat) (hn : 800 < n) {l : List cW} {m h : List Int} {st : List ByteArray} (hR : Row l m h st) (hin : InR l) {t : TM} (ht : TOk t) {cs : List Int} (hcs : cs.length ≤ 8) (kk : Nat) (hk2 : kk < 2) {a2 : List (List Int)} (ha2 : ∀ k, AllR (a2.getD k z16)) (j1 j2 j3 : Int) {x : IS} {r : RS} (hb : BOk t l m st x r) (hu : x.used = 0) :
  ∃ y, qQ n (Pd cs (kk : Int) 0 t a2 l m j1 j2 j3 x r) = some y ∧ ∃ (x' : IS) (r' : RS), BOk t l m st x' r' ∧ y = .inr ((cs, (kk : Int), ()), ((t.sw, t.la, t.co, ()), (a2, ()), (l, m, x'.c.s.ret, x'.c.on, x'.c.s.at_, x'.c.s.stk, x'.c.s.loc, x'.c.s.inp, x'.c.s.out, x'.c.s.set, x'.c.s.rds, x'.c.s.held, x'.c.s.flt, x'.c.s.stp, ()), (l, m, x'.c.on, r'.pc, x'.c.s.stk, x'.c.s.loc, x'.c.s.ret, x'.c.s.inp, x'.c.s.out, r'.is, x'.c.s.rds, x'.c.s.held, x'.c.s.flt, x'.c.s.stp, ()), (x'.c.mem, ()), (x'.c.mem, ()), (j1, j2, j3, t.sw, t.la, t.co, x'.ph, x'.left, x'.used, x'.inn, ()), (j1, j2, j3, t.sw, t.la, t.co, x'.used, r'.e, x'.inn, ()), ())) := by
 show ∃ y, it _ n _ = some y ∧ _
 refine ju (fun f y => ∃ (k : Nat) (x : IS) (r : RS), k ≤ 700 ∧ 700 < f + k ∧ BOk t l m st x r ∧ x.used ≤ (k : Int) ∧ y = Pd cs (kk : Int) (k : Int) t a2 l m j1 j2 j3 x r) _ (fun y ⟨k, x, r, h1, h2, _⟩ => by omega) ?_ n _ ⟨0, x, r, by omega, by omega, hb, by omega, rfl⟩
 clear hb hu x r
 rintro f y F hF ⟨k, x, r, h1, h2, hb, hu, rfl⟩
 show ∃ y, xK n F cs (kk : Int) (k : Int) t.sw t.la t.co a2 l m x.c.s.ret x.c.on x.c.s.at_ x.c.s.stk x.c.s.loc x.c.s.inp x.c.s.out x.c.s.set x.c.s.rds x.c.s.held x.c.s.flt x.c.s.stp l m x.c.on r.pc x.c.s.stk x.c.s.loc x.c.s.ret x.c.s.inp x.c.s.out r.is x.c.s.rds x.c.s.held x.c.s.flt x.c.s.stp x.c.mem x.c.mem j1 j2 j3 t.sw t.la t.co x.ph x.left x.used x.inn j1 j2 j3 t.sw t.la t.co x.used r.e x.inn = some y ∧ _
 unfold xK
 rcases am k 700 with hk | hk
 ·have hm : (wrap .i64 ((k : Int) + (kk : Int))).tmod 2 = (((k + kk) % 2 : Nat) : Int) := by
   rw [dd (by omega) (by omega), Int.tmod_eq_emod_of_nonneg (by omega)]
   omega
  obtain ⟨kd, bl, dn, er, x', r', hS1, hS2, hb', hu'⟩ := Hd ht hR hin hb (by omega) n (by omega) (ha2 ((k + kk) % 2)) j1 j2 j3
  unfold xX at hS1
  unfold tT at hS2
  rw [if_pos (ag (by omega)), hm, if_pos (fo (by omega)), af, hS1, ab]
  rw [if_pos (fo (by omega)), hS2, ab]
  dsimp only
  rw [if_neg (by simp), if_neg (by simp), if_neg (by simp), if_neg (by simp)]
  have ht' := ht
  obtain ⟨s0, s1, l0, l1, c0, c1⟩ := ht'
  have hT0 := hb'.ok.used
  have hd := Cu ht hb'.ok hb'.xok (by omega)
  have hf := Ha ht hb'.ok hb'.xok
  have ho := Jj ht hb'.ok hb'.xok
  have he := EY ht hb'.ok hb'.xok (by omega)
  obtain ⟨v, v1, v2⟩ := Ji hb'.ok
  have eDq : ∀ (v1 v2 v3 v4 v5 v6 v7 v8 v9 : Int) (v10 : List Int) (v11 : List cW) (v12 v13 : List Int) (v14 : Bool) (v15 : Int) (v16 v17 v18 v19 : List Int) (v20 : Int) (v21 : List Int) (v22 v23 v24 : Int), gU n v1 v2 v3 v4 v5 v6 v7 v8 v9 v10 v11 v12 v13 v14 v15 v16 v17 v18 v19 v20 v21 v22 v23 v24 = some (v7 == 5) := fun _ _ _ _ _ _ _ _ _ _ _ _ _ _ _ _ _ _ _ _ _ _ _ _ => rfl
  have eRq : ∀ (v1 v2 v3 v4 v5 v6 v7 v8 : Int) (v9 : List Int) (v10 : List cW) (v11 : List Int) (v12 : Bool) (v13 : Int) (v14 v15 v16 v17 v18 : List Int) (v19 : List Bool) (v20 : List Int) (v21 v22 v23 : Int), fh n v1 v2 v3 v4 v5 v6 v7 v8 v9 v10 v11 v12 v13 v14 v15 v16 v17 v18 v19 v20 v21 v22 v23 = some (v7 == (if v8 < 0 then -1 else wrap .i64 (wrap .i64 (v8 + v6) + v4))) := fun _ _ _ _ _ _ _ _ _ _ _ _ _ _ _ _ _ _ _ _ _ _ _ => by
   unfold fh
   rw [Ct]
   rfl
  have eU : ∀ (v1 v2 v3 v4 v5 v6 v7 v8 v9 : Int) (v10 : List Int) (v11 : List cW) (v12 v13 : List Int) (v14 : Bool) (v15 : Int) (v16 v17 v18 v19 : List Int) (v20 : Int) (v21 : List Int) (v22 v23 v24 : Int), kq n v1 v2 v3 v4 v5 v6 v7 v8 v9 v10 v11 v12 v13 v14 v15 v16 v17 v18 v19 v20 v21 v22 v23 v24 = some (v9, v1, v2, v3, v4, v5, v6, v7, v8, v9, v10, v11, v12, v13, v14, v15, v16, v17, v18, v19, v20, v21, v22, v23, v24) := fun _ _ _ _ _ _ _ _ _ _ _ _ _ _ _ _ _ _ _ _ _ _ _ _ => rfl
  have eI : ∀ (v1 v2 v3 v4 v5 v6 v7 v8 v9 : Int) (v10 : List Int) (v11 : List cW) (v12 v13 : List Int) (v14 : Bool) (v15 : Int) (v16 v17 v18 v19 : List Int) (v20 : Int) (v21 : List Int) (v22 v23 v24 : Int), lT n v1 v2 v3 v4 v5 v6 v7 v8 v9 v10 v11 v12 v13 v14 v15 v16 v17 v18 v19 v20 v21 v22 v23 v24 = some (v10, v1, v2, v3, v4, v5, v6, v7, v8, v9, v10, v11, v12, v13, v14, v15, v16, v17, v18, v19, v20, v21, v22, v23, v24) := fun _ _ _ _ _ _ _ _ _ _ _ _ _ _ _ _ _ _ _ _ _ _ _ _ => rfl
  have eQ : ∀ (v1 v2 v3 v4 v5 v6 v7 v8 v9 : Int) (v10 : List Int) (v11 : List cW) (v12 v13 : List Int) (v14 : Bool) (v15 : Int) (v16 v17 v18 v19 : List Int) (v20 : Int) (v21 : List Int) (v22 v23 v24 : Int), fS n v1 v2 v3 v4 v5 v6 v7 v8 v9 v10 v11 v12 v13 v14 v15 v16 v17 v18 v19 v20 v21 v22 v23 v24 = some (if v7 < 2 then 0 else v22) := fun v1 v2 v3 v4 v5 v6 v7 v8 v9 v10 v11 v12 v13 v14 v15 v16 v17 v18 v19 v20 v21 v22 v23 v24 => by
   unfold fS gB
   rw [ab, if_neg (by decide)]
   by_cases hv : v7 < 2
   ·rw [if_pos (ag hv), if_pos hv]
   ·rw [if_neg (fun h => hv (aG h)), if_neg hv]
    rfl
  have eO : ∀ (v1 v2 v3 v4 v5 v6 v7 v8 v9 : Int) (v10 : List Int) (v11 : List cW) (v12 v13 : List Int) (v14 : Bool) (v15 : Int) (v16 v17 v18 v19 : List Int) (v20 : Int) (v21 : List Int) (v22 v23 v24 : Int), iI n v1 v2 v3 v4 v5 v6 v7 v8 v9 v10 v11 v12 v13 v14 v15 v16 v17 v18 v19 v20 v21 v22 v23 v24 = some ((if v7 < 4 then [] else kc v19 v20), v1, v2, v3, v4, v5, v6, v7, v8, v9, v10, v11, v12, v13, v14, v15, v16, v17, v18, v19, v20, v21, v22, v23, v24) := fun v1 v2 v3 v4 v5 v6 v7 v8 v9 v10 v11 v12 v13 v14 v15 v16 v17 v18 v19 v20 v21 v22 v23 v24 => by
   unfold iI
   by_cases hv : v7 < 4
   ·rw [if_pos (ag hv), if_pos hv]
   ·rw [if_neg (fun h => hv (aG h)), if_neg hv, J1 n (by omega)]
    rfl
  have hRH : ew n j1 j2 j3 t.sw t.la t.co x'.used r'.e x'.inn l m x'.c.on r'.pc x'.c.s.stk x'.c.s.loc x'.c.s.ret x'.c.s.inp x'.c.s.out r'.is x'.c.s.rds x'.c.s.held x'.c.s.flt x'.c.s.stp = some (uB x') := by
   unfold ew uB
   rw [dd (show -9223372036854775808 ≤ t.sw + t.la by omega) (by omega)]
   by_cases hq : x'.ph < 2
   ·rw [if_pos (ag (hf.2 hq)), if_pos hq]
   ·rw [if_neg (fun k => hq (hf.1 (aG k))), if_neg hq]
  have hRO : fz n j1 j2 j3 t.sw t.la t.co x'.used r'.e x'.inn l m x'.c.on r'.pc x'.c.s.stk x'.c.s.loc x'.c.s.ret x'.c.s.inp x'.c.s.out r'.is x'.c.s.rds x'.c.s.held x'.c.s.flt x'.c.s.stp = some ((if x'.ph < 4 then [] else kc x'.c.s.out x'.c.s.set), j1, j2, j3, t.sw, t.la, t.co, x'.used, r'.e, x'.inn, l, m, x'.c.on, r'.pc, x'.c.s.stk, x'.c.s.loc, x'.c.s.ret, x'.c.s.inp, x'.c.s.out, r'.is, x'.c.s.rds, x'.c.s.held, x'.c.s.flt, x'.c.s.stp) := by
   unfold fz
   rw [dd (show -9223372036854775808 ≤ r'.e + t.co by omega) (by omega)]
   by_cases hq : x'.ph < 4
   ·rw [if_pos hq]
    rcases ho.2 hq with h | h
    ·rw [if_pos (ag h)]
    ·by_cases h' : r'.e < 0
     ·rw [if_pos (ag h')]
     ·rw [if_neg (fun k => h' (aG k)), if_pos (ag h)]
   ·rw [if_neg hq, if_neg (fun k => hq (ho.1 (.inl (aG k)))), if_neg (fun k => hq (ho.1 (.inr (aG k)))), Jh n (by omega) _ _ _ _ _ _ _ _ _ hb'.sok, ab]
  have hlen : (if x'.ph < 4 then [] else kc x'.c.s.out x'.c.s.set).length ≤ 16 := by
   split
   ·exact aq _
   ·exact GZ _ _
  rw [eDq, ab, eRq, ab, hd, if_neg (by simp), eU, ab]
  dsimp only
  rw [if_neg (by simp), eQ, ab, hRH, ab, show (if x'.ph < 2 then 0 else x'.c.s.held) = uB x' from rfl, if_neg (by simp)]
  unfold gV
  rw [eQ, ab, show (if x'.ph < 2 then 0 else x'.c.s.held) = uB x' from rfl, v2, G4 n (by omega) j2 v1 hcs, ab, ab]
  dsimp only
  rw [ab, EX n (by omega) j2 v1 hcs, ab, if_neg (by simp), eI, ab]
  dsimp only
  rw [Jz, if_neg (by decide), eO, ab]
  dsimp only
  rw [IY n hlen (by omega), ab, hRO, ab]
  dsimp only
  rw [IZ n hlen (by omega), ab, if_neg (by decide), NL, if_neg (by decide), dH (by omega)]
  exact hF _ ⟨k + 1, x', r', by omega, by omega, hb', by omega, rfl⟩
 ·rw [if_neg (by simp; omega)]
  exact ⟨_, rfl, x, r, hb, rfl⟩
structure MOk (s : MS) (is : List Bool) (mem : dq) : Prop where
 rg : Rg s mem
 sok : SOk s.set is
 len : s.stk.length ≤ 16 ∧ s.rds.length ≤ 200
abbrev Ql (cs : List Int) (kk : Int) (t : TM) (a2 : List (List Int)) (l : List cW) (m : List Int) (on : Bool) (s : MS) (is : List Bool) (pc : Int) (mem : dq) := (((cs, kk, ()), ((t.sw, t.la, t.co, ()), (a2, ()), (l, m, s.ret, on, s.at_, s.stk, s.loc, s.inp, s.out, s.set, s.rds, s.held, s.flt, s.stp, ()), (l, m, on, pc, s.stk, s.loc, s.ret, s.inp, s.out, is, s.rds, s.held, s.flt, s.stp, ()), (mem, ()), (mem, ()), ())))
theorem Jm {l : List cW} {m h : List Int} {st : List ByteArray} (hR : Row l m h st) (hin : InR l) (t : TM) {cs : List Int} (hcs : cs.length ≤ 8) (kk : Nat) (hk2 : kk < 2) {a2 : List (List Int)} (ha2 : ∀ k, AllR (a2.getD k z16)) (on : Bool) {s : MS} {is : List Bool} (pc : Int) {mem : dq} (hM : MOk s is mem) :
  ∃ (on' : Bool) (s' : MS) (is' : List Bool) (pc' : Int) (mem' : dq), MOk s' is' mem' ∧ xL 30000 cs (kk : Int) t.sw t.la t.co a2 l m s.ret on s.at_ s.stk s.loc s.inp s.out s.set s.rds s.held s.flt s.stp l m on pc s.stk s.loc s.ret s.inp s.out is s.rds s.held s.flt s.stp mem mem = some (.inr (Ql cs (kk : Int) t a2 l m on' s' is' pc' mem')) := by
 have hl := hR.fine.len
 have hlen := hM.len
 have eR : ∀ (v1 : List cW) (v2 v3 : List Int) (v4 : Bool) (v5 : Int) (v6 v7 v8 v9 : List Int) (v10 : Int) (v11 : List Int) (v12 v13 v14 : Int), iH 30000 v1 v2 v3 v4 v5 v6 v7 v8 v9 v10 v11 v12 v13 v14 = some (v4, v1, v2, v3, v4, v5, v6, v7, v8, v9, v10, v11, v12, v13, v14) := fun _ _ _ _ _ _ _ _ _ _ _ _ _ _ => rfl
 unfold xL
 rw [ag (show (l.length : Int) > 0 by omega), if_neg (by decide), if_pos (by simp; omega), if_pos (by simp; omega), eR, ab]
 dsimp only
 cases on with
 | true =>
  rw [if_pos rfl, if_pos rfl, if_neg (by decide)]
  exact ⟨true, s, is, pc, mem, hM, rfl⟩
 | false =>
  rw [if_neg (by decide), I6, ab]
  by_cases hq : qd t = true
  ·have ht := times_ok.1 hq
   rw [show qd ⟨t.sw, t.la, t.co⟩ = true from hq, if_neg (by decide)]
   have hs := tP 30000 (by omega) (kk : Int) 3 7 ht (ph := 0) (left := t.sw) (by omega) 0 z16 l m false s
   have e0 : wl = fL := rfl
   unfold tO tN at hs
   obtain ⟨s0, s1, l0, l1, c0, c1⟩ := id ht
   rw [e0, hs, ab]
   dsimp only
   rw [if_neg (by decide), if_neg (fun k => by have := aG k; omega), if_neg (fun k => by have := aG k; omega), if_neg (fun k => by have := aG k; omega), if_neg (fun k => by have := aG k; omega), if_neg (fun k => by have := aG k; omega), if_neg (fun k => by have := aG k; omega), if_neg (by decide)]
   have hb : BOk t l m st (jR t s mem) ⟨-1, is, pc⟩ := ⟨I7 ht l m st s mem, Hc ht s mem is pc, hM.rg, (fun x hx => by simp at hx; rw [hx]; exact oP), hM.sok, hM.len⟩
   obtain ⟨y, f1, x', r', hb', f2⟩ := Jl 30000 (by omega) hR hin ht hcs kk hk2 ha2 (kk : Int) 3 7 hb rfl
   subst f2
   rw [show qQ 30000 _ = _ from f1, ab, ay]
   exact ⟨x'.c.on, x'.c.s, r'.is, r'.pc, x'.c.mem, ⟨hb'.rg, hb'.sok, hb'.len⟩, rfl⟩
  ·rw [if_pos (by simpa using hq), if_neg (by decide)]
   refine ⟨false, s, is, pc, mem, hM, ?_⟩
   by_cases c1 : t.sw < 0
   ·rw [if_pos (ag c1), if_neg (by decide)]
   rw [if_neg (fun k => c1 (aG k))]
   by_cases c2 : t.sw > 100
   ·rw [if_pos (ag c2), if_neg (by decide)]
   rw [if_neg (fun k => c2 (aG k))]
   by_cases c3 : t.la < 1
   ·rw [if_pos (ag c3), if_neg (by decide)]
   rw [if_neg (fun k => c3 (aG k))]
   by_cases c4 : t.la > 100
   ·rw [if_pos (ag c4), if_neg (by decide)]
   rw [if_neg (fun k => c4 (aG k))]
   by_cases c5 : t.co < 1
   ·rw [if_pos (ag c5), if_neg (by decide)]
   rw [if_neg (fun k => c5 (aG k))]
   by_cases c6 : t.co > 100
   ·rw [if_pos (ag c6), if_neg (by decide)]
   exact absurd (times_ok.2 ⟨by omega, by omega, by omega, by omega, by omega, by omega⟩) hq
theorem Jn {l : List cW} {m h : List Int} {st : List ByteArray} (hR : Row l m h st) (hin : InR l) (t : TM) {cs : List Int} (hcs : cs.length ≤ 8) {a2 : List (List Int)} (ha2 : ∀ k, AllR (a2.getD k z16)) {s : MS} {is : List Bool} {mem : dq} (hM : MOk s is mem) :
  ∃ y, qR 30000 (cs, 0, t.sw, t.la, t.co, a2, l, m, s.ret, false, s.at_, s.stk, s.loc, s.inp, s.out, s.set, s.rds, s.held, s.flt, s.stp, l, m, false, 0, s.stk, s.loc, s.ret, s.inp, s.out, is, s.rds, s.held, s.flt, s.stp, mem, mem) = some y ∧ ∃ z, y = .inr z := by
 show ∃ y, it _ 30000 _ = some y ∧ _
 refine ju (fun f y => ∃ (k : Nat) (on : Bool) (s : MS) (is : List Bool) (pc : Int) (mem : dq), k ≤ 2 ∧ 2 < f + k ∧ MOk s is mem ∧ y = (cs, (k : Int), t.sw, t.la, t.co, a2, l, m, s.ret, on, s.at_, s.stk, s.loc, s.inp, s.out, s.set, s.rds, s.held, s.flt, s.stp, l, m, on, pc, s.stk, s.loc, s.ret, s.inp, s.out, is, s.rds, s.held, s.flt, s.stp, mem, mem)) _ (fun y ⟨k, on, s, is, pc, mem, h1, h2, _⟩ => by omega) ?_ 30000 _ ⟨0, false, s, is, 0, mem, by omega, by omega, hM, rfl⟩
 clear hM s is mem
 rintro f y F hF ⟨k, on, s, is, pc, mem, h1, h2, hM, rfl⟩
 show ∃ y, xM 30000 F cs (k : Int) t.sw t.la t.co a2 l m s.ret on s.at_ s.stk s.loc s.inp s.out s.set s.rds s.held s.flt s.stp l m on pc s.stk s.loc s.ret s.inp s.out is s.rds s.held s.flt s.stp mem mem = some y ∧ _
 unfold xM
 rcases am k 2 with hk | hk
 ·obtain ⟨on', s', is', pc', mem', hM', e⟩ := Jm hR hin t hcs k hk ha2 on pc hM
  rw [if_pos (ag (by omega)), e, ab, ay]
  dsimp only
  rw [dH (by omega)]
  exact hF _ ⟨k + 1, on', s', is', pc', mem', by omega, by omega, hM', rfl⟩
 ·rw [if_neg (by simp; omega)]
  exact ⟨_, rfl, _, rfl⟩
theorem lZ (a0 : (List (Int × (Int × Int)))) (a1 : (Int × (Int × Int))) (a2 : (List (List Int))) (ok0 : Sh.Ok (.sl (.pair (.int .i64) (.pair (.int .i64) (.int .i64)))) a0) (ok1 : Sh.Ok (.pair (.int .i64) (.pair (.int .i64) (.int .i64))) a1) (ok2 : Sh.Ok (.arr 2 (.arr 16 (.int .i64))) a2) : ∃ n, Ez n a0 a1 a2 = some true := by
 refine ⟨30000, ?_⟩
 have hi := InR.of ok0
 unfold Ez
 rw [J3]
 rcases am 250 a0.length with hl | hl
 ·rw [if_pos (ag (by omega))]
  rfl
 obtain ⟨o1, r1⟩ := BZ 30000 a0 hi (by omega) (by omega)
 obtain ⟨o2, r2⟩ := Ar 30000 a0 hi (by omega) (by omega) (by omega)
 rw [if_neg (by simp; omega), GM 30000 a0 (by omega) (by omega), ab, r1]
 dsimp only
 by_cases h1 : iV a0 = 0
 ·rw [if_neg (by simp [h1]), EQ 30000 a0 (by omega) (by omega) (by omega), ab, r2]
  dsimp only
  by_cases h2 : kG a0 = 0
  ·have hR := NJ h1 h2
   have hl0 := hR.fine.len
   rw [if_neg (by simp [h2]), B6 30000 a0 (by omega) (by omega), ab, if_pos (NK (by omega)), ab]
   dsimp only
   rw [if_neg (by simp [h1]), ab]
   dsimp only
   rw [if_neg (by simp [h2]), lu 30000 a0 hi (by omega) (by omega), ab, if_pos (by simp; omega)]
   dsimp only
   rw [bb]
   have ha2 : ∀ k, AllR (a2.getD k z16) := fun k => by
    rw [av]
    rcases am k a2.length with hk | hk
    ·rw [aF hk]
     exact fun x hx => GG ((ok2.2 _ (bE hk)).2 x hx)
    ·rw [bQ hk]
     exact fun x hx => by simp at hx; rw [hx]; exact oP
   have hM : MOk RX wA [z8, z8, z8, z8, z8, z8, z8, z8] := ⟨⟨(fun x hx => by cases hx), qe, qe, (fun x hx => by simp at hx; rw [hx]; exact oP), oP, fun k => by
    rw [av]
    rcases am k 8 with hk | hk
    ·rcases (show k = 0 ∨ k = 1 ∨ k = 2 ∨ k = 3 ∨ k = 4 ∨ k = 5 ∨ k = 6 ∨ k = 7 by omega) with rfl | rfl | rfl | rfl | rfl | rfl | rfl | rfl <;> exact qe
    ·rw [bQ (by simpa using hk)]
     exact qe⟩, JA, aq _, aq _⟩
   obtain ⟨y, f1, z, f2⟩ := Jn hR hi ⟨a1.1, a1.2.1, a1.2.2⟩ (cs := [1, 5, 2, 9]) (by decide) ha2 hM
   subst f2
   rw [show qR 30000 _ = _ from f1, ab]
   rfl
  ·rw [if_pos (by simpa using h2), ab]
   dsimp only
   rw [if_neg (by simp [h1]), ab]
   dsimp only
   rw [if_pos (by simpa using h2), if_neg (by simp), if_pos (by simp), if_pos (by decide)]
   rfl
 ·rw [if_pos (by simpa using h1), ab]
  dsimp only
  rw [if_pos (by simpa using h1), if_neg (by simp), if_pos (by simp), if_pos (by decide)]
  rfl
end Go.Proofs.Dk
