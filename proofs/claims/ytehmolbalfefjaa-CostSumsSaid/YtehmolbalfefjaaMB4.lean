/- A part of the proofs: What the functions of the program do, read off their text. -/
import Derived.Test.YtehmolbalfefjaaMB3
import Derived.Laws.BitsLemmas
/- What the functions of the program do, read off their text. -/
namespace Go.Proofs.Dk
open Go
set_option maxRecDepth 100000
set_option linter.unusedVariables false
/-! ### cost_Sections: function 32 -/
noncomputable def cost_Sections.b0 (n : Nat) (F : ((List (Int × Int)) × (List (Int × (Int × Int))) × Int × Int × (List (Int × (Int × Int))) × (List Int)) → Option (((List (Int × Int)) × (List (Int × (Int × Int))) × (List Int)))) (v17 : (List (Int × Int))) (v18 : (List (Int × (Int × Int)))) (v19 : Int) (v20 : Int) (v21 : (List (Int × (Int × Int)))) (v22 : (List Int)) : Option (((List (Int × Int)) × (List (Int × (Int × Int))) × (List Int))) := if (decide (v20 < v19)) then (if (decide (0 ≤ v20) && decide (v20 < (v18.length : Int))) then (if ((v18.getD v20.toNat ((0 : Int), ((0 : Int), (0 : Int)))).1 == 23) then (if (decide (0 ≤ v20) && decide (v20 < (v22.length : Int))) then ((cost_counter_way_1.f n (v21, v22) (IntKind.wrap .i64 (v20 + 1)) (v22.getD v20.toNat (0 : Int))).bind fun y23 => (if (decide ((v17.length + 1) * 16 ≤ 140737488355328) && decide (1 ≤ 16)) then (F ((v17 ++ [((v18.getD v20.toNat ((0 : Int), ((0 : Int), (0 : Int)))).2.1, (IntKind.wrap .i64 (y23 + 1)))]), v18, v19, (IntKind.wrap .i64 (v20 + 1)), v21, v22)) else none)) else none) else (F (v17, v18, v19, (IntKind.wrap .i64 (v20 + 1)), v21, v22))) else none) else (some (v17, v21, v22))
noncomputable def cost_Sections.b0.l (n : Nat) : ((List (Int × Int)) × (List (Int × (Int × Int))) × Int × Int × (List (Int × (Int × Int))) × (List Int)) → Option (((List (Int × Int)) × (List (Int × (Int × Int))) × (List Int)))   := it (fun F x => cost_Sections.b0 n F x.1 x.2.1 x.2.2.1 x.2.2.2.1 x.2.2.2.2.1 x.2.2.2.2.2) n
noncomputable def cost_Sections.b0.L (n : Nat) : Loop := ⟨⟨ofs 52 0 [(6, .obj 0), (8, .row 58 (.pair (.int .i64) (.int .i64))), (24, .val (.sl (.pair (.int .i64) (.pair (.int .i64) (.int .i64))))), (25, .val (.int .i64)), (26, .val (.int .i64))], [[.val (.sl (.pair (.int .i64) (.pair (.int .i64) (.int .i64)))), .val (.sl (.int .i64)), .clo 50 []]]⟩, [(.exit 0, ⟨ofs 52 0 [(8, .row 58 (.pair (.int .i64) (.int .i64)))], [[.val (.sl (.pair (.int .i64) (.pair (.int .i64) (.int .i64)))), .val (.sl (.int .i64)), .clo 50 []]]⟩)], ((List (Int × Int)) × (List (Int × (Int × Int))) × Int × Int × (List (Int × (Int × Int))) × (List Int)), fun x => ((x.1, x.2.1, x.2.2.1, x.2.2.2.1, ()), ((x.2.2.2.2.1, x.2.2.2.2.2, ()), ())), fun (x : (((List (Int × Int)) × (List (Int × (Int × Int))) × Int × Int × Unit) × (((List (Int × (Int × Int))) × (List Int) × Unit) × Unit))) => (x.1.1, x.1.2.1, x.1.2.2.1, x.1.2.2.2.1, x.2.1.1, x.2.1.2.1), ((List (Int × Int)) × (List (Int × (Int × Int))) × (List Int)), fun y => ((y.1, ()), ((y.2.1, y.2.2, ()), ())), fun (o : (((List (Int × Int)) × Unit) × (((List (Int × (Int × Int))) × (List Int) × Unit) × Unit))) => (o.1.1, o.2.1.1, o.2.1.2.1), cost_Sections.b0.l n⟩
noncomputable def cost_Sections.f (n : Nat) (a0 : (List (Int × (Int × Int)))) : Option ((List (Int × Int)) × Int) := (cost_Worst.f n a0).bind fun y25 => (if (y25.2 != 0) then (some ([], y25.2)) else ((nest_Locks.f n a0).bind fun y26 => (if (y26.2 != 0) then none else ((types_Stacks.f n a0).bind fun y27 => (if (y27.2 != 0) then none else ((nest_Match.f n a0).bind fun y28 => ((cost_Sections.b0.l n ([], a0, (a0.length : Int), 0, a0, y28.1)).bind fun y29 => (some (y29.1, 0)))))))))
noncomputable def cost_Sections.fs (n : Nat) : FS := ⟨⟨[.val (.sl (.pair (.int .i64) (.pair (.int .i64) (.int .i64))))], []⟩, ⟨[.val (.sl (.pair (.int .i64) (.int .i64))), .val (.int .i64)], []⟩, ((List (Int × Int)) × Int), fun y => ((y.1, y.2, ()), ()), fun o => (o.1.1, o.1.2.1), fun x => cost_Sections.f n x.1.1⟩
theorem cost_Sections.b0.e (n : Nat) : ∀ F x, evLoop (c31 n) 14 32 0 7 (cost_Sections.b0.L n) F x = cost_Sections.b0 n F x.1 x.2.1 x.2.2.1 x.2.2.2.1 x.2.2.2.2.1 x.2.2.2.2.2 := fun F x => by kernel_rfl
noncomputable def cost_Sections.b0.c (n : Nat) : Cx := Cx.addLoop (c31 n) 32 7 (cost_Sections.b0.L n)
theorem cost_Sections.b0.g (n : Nat) : Good (cost_Sections.b0.c n) := Good.loop (g31 n) 14 0 (by kernel_rfl) (cost_Sections.b0.e n) n (fun _ => rfl) (fun _ => rfl) (fun _ => rfl) rfl
theorem cost_Sections.e (n : Nat) : FnEq (cost_Sections.b0.c n) 14 32 0 (cost_Sections.fs n) := fun x => by kernel_rfl
noncomputable def c32 (n : Nat) : Cx := (Cx.bare (cost_Sections.b0.c n)).addSpec 32 (cost_Sections.fs n)
theorem g32 (n : Nat) : Good (c32 n) := Good.fn (cost_Sections.b0.g n) 14 0 (cost_Sections.e n) (fun _ => rfl) rfl
/-! ### camshaftlaw09_Plain: function 35 -/
noncomputable def camshaftlaw09_Plain.b0 (n : Nat) (F : ((List (Int × Int)) × (List (Int × Int)) × Int) → Option ((List (Int × Int)))) (v1 : (List (Int × Int))) (v2 : (List (Int × Int))) (v3 : Int) : Option ((List (Int × Int))) := if (decide (v3 < (v1.length : Int))) then (if (decide (0 ≤ v3) && decide (v3 < (v1.length : Int))) then (if (decide (0 ≤ v3) && decide (v3 < (v1.length : Int))) then (if (decide ((v2.length + 1) * 16 ≤ 140737488355328) && decide (1 ≤ 16)) then (F (v1, (v2 ++ [((v1.getD v3.toNat ((0 : Int), (0 : Int))).1, (v1.getD v3.toNat ((0 : Int), (0 : Int))).2)]), (IntKind.wrap .i64 (v3 + 1)))) else none) else none) else none) else (some v2)
noncomputable def camshaftlaw09_Plain.b0.l (n : Nat) : ((List (Int × Int)) × (List (Int × Int)) × Int) → Option ((List (Int × Int)))   := it (fun F x => camshaftlaw09_Plain.b0 n F x.1 x.2.1 x.2.2) n
noncomputable def camshaftlaw09_Plain.b0.L (n : Nat) : Loop := ⟨⟨ofs 26 0 [(0, .val (.sl (.pair (.int .i64) (.int .i64)))), (3, .row 68 (.pair (.int .i64) (.int .i64))), (4, .val (.int .i64))], []⟩, [(.exit 0, ⟨ofs 26 0 [(3, .row 68 (.pair (.int .i64) (.int .i64)))], []⟩)], ((List (Int × Int)) × (List (Int × Int)) × Int), fun x => ((x.1, x.2.1, x.2.2, ()), ()), fun (x : (((List (Int × Int)) × (List (Int × Int)) × Int × Unit) × Unit)) => (x.1.1, x.1.2.1, x.1.2.2.1), (List (Int × Int)), fun y => ((y, ()), ()), fun (o : (((List (Int × Int)) × Unit) × Unit)) => o.1.1, camshaftlaw09_Plain.b0.l n⟩
noncomputable def camshaftlaw09_Plain.f (n : Nat) (a0 : (List (Int × Int))) : Option (List (Int × Int)) := (camshaftlaw09_Plain.b0.l n (a0, [], 0)).bind fun y4 => (some y4)
noncomputable def camshaftlaw09_Plain.fs (n : Nat) : FS := ⟨⟨[.val (.sl (.pair (.int .i64) (.int .i64)))], []⟩, ⟨[.val (.sl (.pair (.int .i64) (.int .i64)))], []⟩, (List (Int × Int)), fun y => ((y, ()), ()), fun o => o.1.1, fun x => camshaftlaw09_Plain.f n x.1.1⟩
theorem camshaftlaw09_Plain.b0.e (n : Nat) : ∀ F x, evLoop (c32 n) 14 35 0 3 (camshaftlaw09_Plain.b0.L n) F x = camshaftlaw09_Plain.b0 n F x.1 x.2.1 x.2.2 := fun F x => by kernel_rfl
noncomputable def camshaftlaw09_Plain.b0.c (n : Nat) : Cx := Cx.addLoop (c32 n) 35 3 (camshaftlaw09_Plain.b0.L n)
theorem camshaftlaw09_Plain.b0.g (n : Nat) : Good (camshaftlaw09_Plain.b0.c n) := Good.loop (g32 n) 14 0 (by kernel_rfl) (camshaftlaw09_Plain.b0.e n) n (fun _ => rfl) (fun _ => rfl) (fun _ => rfl) rfl
theorem camshaftlaw09_Plain.e (n : Nat) : FnEq (camshaftlaw09_Plain.b0.c n) 14 35 0 (camshaftlaw09_Plain.fs n) := fun x => by kernel_rfl
noncomputable def c33 (n : Nat) : Cx := (Cx.bare (camshaftlaw09_Plain.b0.c n)).addSpec 35 (camshaftlaw09_Plain.fs n)
theorem g33 (n : Nat) : Good (c33 n) := Good.fn (camshaftlaw09_Plain.b0.g n) 14 0 (camshaftlaw09_Plain.e n) (fun _ => rfl) rfl
/-! ### camshaftref09_Same: function 34 -/
noncomputable def camshaftref09_Same.b0 (n : Nat) (F : ((List (Int × Int)) × (List (Int × Int)) × Int) → Option ((((Bool × Unit) × Unit) ⊕ (Unit × Unit)))) (v1 : (List (Int × Int))) (v2 : (List (Int × Int))) (v3 : Int) : Option ((((Bool × Unit) × Unit) ⊕ (Unit × Unit))) := if (decide (v3 < (v1.length : Int))) then (if (decide (0 ≤ v3) && decide (v3 < (v1.length : Int))) then (if (decide (0 ≤ v3) && decide (v3 < (v2.length : Int))) then (if (!(((v1.getD v3.toNat ((0 : Int), (0 : Int))).1 == (v2.getD v3.toNat ((0 : Int), (0 : Int))).1) && ((v1.getD v3.toNat ((0 : Int), (0 : Int))).2 == (v2.getD v3.toNat ((0 : Int), (0 : Int))).2))) then (some (.inl ((false, ()), ()))) else (F (v1, v2, (IntKind.wrap .i64 (v3 + 1))))) else none) else none) else (some (.inr ((), ())))
noncomputable def camshaftref09_Same.b0.l (n : Nat) : ((List (Int × Int)) × (List (Int × Int)) × Int) → Option ((((Bool × Unit) × Unit) ⊕ (Unit × Unit)))   := it (fun F x => camshaftref09_Same.b0 n F x.1 x.2.1 x.2.2) n
noncomputable def camshaftref09_Same.b0.L (n : Nat) : Loop := ⟨⟨ofs 26 0 [(0, .val (.sl (.pair (.int .i64) (.int .i64)))), (1, .val (.sl (.pair (.int .i64) (.int .i64)))), (5, .val (.int .i64))], []⟩, [(.ret, ⟨ofs 26 0 [(4, .val .bool)], []⟩), (.exit 0, ⟨ofs 26 0 [], []⟩)], ((List (Int × Int)) × (List (Int × Int)) × Int), fun x => ((x.1, x.2.1, x.2.2, ()), ()), fun (x : (((List (Int × Int)) × (List (Int × Int)) × Int × Unit) × Unit)) => (x.1.1, x.1.2.1, x.1.2.2.1), (((Bool × Unit) × Unit) ⊕ (Unit × Unit)), fun y => y, fun y => y, camshaftref09_Same.b0.l n⟩
noncomputable def camshaftref09_Same.f (n : Nat) (a0 : (List (Int × Int))) (a1 : (List (Int × Int))) : Option Bool := if ((a0.length : Int) != (a1.length : Int)) then (some false) else ((camshaftref09_Same.b0.l n (a0, a1, 0)).bind fun y4 => ((Sum.elim (fun (z5 : ((Bool × Unit) × Unit)) => (some z5.1.1)) (fun (z6 : (Unit × Unit)) => (some true))) y4))
noncomputable def camshaftref09_Same.fs (n : Nat) : FS := ⟨⟨[.val (.sl (.pair (.int .i64) (.int .i64))), .val (.sl (.pair (.int .i64) (.int .i64)))], []⟩, ⟨[.val .bool], []⟩, Bool, fun y => ((y, ()), ()), fun o => o.1.1, fun x => camshaftref09_Same.f n x.1.1 x.1.2.1⟩
theorem camshaftref09_Same.b0.e (n : Nat) : ∀ F x, evLoop (c33 n) 14 34 0 4 (camshaftref09_Same.b0.L n) F x = camshaftref09_Same.b0 n F x.1 x.2.1 x.2.2 := fun F x => by kernel_rfl
noncomputable def camshaftref09_Same.b0.c (n : Nat) : Cx := Cx.addLoop (c33 n) 34 4 (camshaftref09_Same.b0.L n)
theorem camshaftref09_Same.b0.g (n : Nat) : Good (camshaftref09_Same.b0.c n) := Good.loop (g33 n) 14 0 (by kernel_rfl) (camshaftref09_Same.b0.e n) n (fun _ => rfl) (fun _ => rfl) (fun _ => rfl) rfl
theorem camshaftref09_Same.e (n : Nat) : FnEq (camshaftref09_Same.b0.c n) 14 34 0 (camshaftref09_Same.fs n) := fun x => by kernel_rfl
noncomputable def c34 (n : Nat) : Cx := (Cx.bare (camshaftref09_Same.b0.c n)).addSpec 34 (camshaftref09_Same.fs n)
theorem g34 (n : Nat) : Good (c34 n) := Good.fn (camshaftref09_Same.b0.g n) 14 0 (camshaftref09_Same.e n) (fun _ => rfl) rfl
/-! ### cost_Straight: function 36 -/
noncomputable def cost_Straight.b0 (n : Nat) (F : ((List (Int × (Int × Int))) × Int × Int) → Option ((((Bool × Unit) × Unit) ⊕ (Unit × Unit)))) (v1 : (List (Int × (Int × Int)))) (v2 : Int) (v3 : Int) : Option ((((Bool × Unit) × Unit) ⊕ (Unit × Unit))) := if (decide (v3 < v2)) then (if (decide (0 ≤ v3) && decide (v3 < (v1.length : Int))) then (if ((v1.getD v3.toNat ((0 : Int), ((0 : Int), (0 : Int)))).1 == 19) then (if (decide ((v1.getD v3.toNat ((0 : Int), ((0 : Int), (0 : Int)))).2.1 > 0)) then (some (.inl ((false, ()), ()))) else (F (v1, v2, (IntKind.wrap .i64 (v3 + 1))))) else (if ((v1.getD v3.toNat ((0 : Int), ((0 : Int), (0 : Int)))).1 == 20) then (if (decide ((v1.getD v3.toNat ((0 : Int), ((0 : Int), (0 : Int)))).2.1 > 0)) then (some (.inl ((false, ()), ()))) else (F (v1, v2, (IntKind.wrap .i64 (v3 + 1))))) else (F (v1, v2, (IntKind.wrap .i64 (v3 + 1)))))) else none) else (some (.inr ((), ())))
noncomputable def cost_Straight.b0.l (n : Nat) : ((List (Int × (Int × Int))) × Int × Int) → Option ((((Bool × Unit) × Unit) ⊕ (Unit × Unit)))   := it (fun F x => cost_Straight.b0 n F x.1 x.2.1 x.2.2) n
noncomputable def cost_Straight.b0.L (n : Nat) : Loop := ⟨⟨ofs 25 0 [(5, .val (.sl (.pair (.int .i64) (.pair (.int .i64) (.int .i64))))), (6, .val (.int .i64)), (7, .val (.int .i64))], []⟩, [(.ret, ⟨ofs 25 0 [(2, .val .bool)], []⟩), (.exit 0, ⟨ofs 25 0 [], []⟩)], ((List (Int × (Int × Int))) × Int × Int), fun x => ((x.1, x.2.1, x.2.2, ()), ()), fun (x : (((List (Int × (Int × Int))) × Int × Int × Unit) × Unit)) => (x.1.1, x.1.2.1, x.1.2.2.1), (((Bool × Unit) × Unit) ⊕ (Unit × Unit)), fun y => y, fun y => y, cost_Straight.b0.l n⟩
noncomputable def cost_Straight.f (n : Nat) (a0 : (List (Int × (Int × Int)))) : Option Bool := (cost_Straight.b0.l n (a0, (a0.length : Int), 0)).bind fun y4 => ((Sum.elim (fun (z5 : ((Bool × Unit) × Unit)) => (some z5.1.1)) (fun (z6 : (Unit × Unit)) => (some true))) y4)
noncomputable def cost_Straight.fs (n : Nat) : FS := ⟨⟨[.val (.sl (.pair (.int .i64) (.pair (.int .i64) (.int .i64))))], []⟩, ⟨[.val .bool], []⟩, Bool, fun y => ((y, ()), ()), fun o => o.1.1, fun x => cost_Straight.f n x.1.1⟩
theorem cost_Straight.b0.e (n : Nat) : ∀ F x, evLoop (c34 n) 14 36 0 2 (cost_Straight.b0.L n) F x = cost_Straight.b0 n F x.1 x.2.1 x.2.2 := fun F x => by kernel_rfl
noncomputable def cost_Straight.b0.c (n : Nat) : Cx := Cx.addLoop (c34 n) 36 2 (cost_Straight.b0.L n)
theorem cost_Straight.b0.g (n : Nat) : Good (cost_Straight.b0.c n) := Good.loop (g34 n) 14 0 (by kernel_rfl) (cost_Straight.b0.e n) n (fun _ => rfl) (fun _ => rfl) (fun _ => rfl) rfl
theorem cost_Straight.e (n : Nat) : FnEq (cost_Straight.b0.c n) 14 36 0 (cost_Straight.fs n) := fun x => by kernel_rfl
noncomputable def c35 (n : Nat) : Cx := (Cx.bare (cost_Straight.b0.c n)).addSpec 36 (cost_Straight.fs n)
theorem g35 (n : Nat) : Good (c35 n) := Good.fn (cost_Straight.b0.g n) 14 0 (cost_Straight.e n) (fun _ => rfl) rfl
/-! ### camshaftlaw09_known: function 27 -/
noncomputable def camshaftlaw09_known.f (n : Nat)  : Option Bool := (cost_Worst.f n ([(23, (2, 0)), (21, (3, 0)), (1, (1, 0)), (2, (0, 0)), (22, (0, 0)), (24, (2, 0)), (15, (0, 0)), (15, (0, 0)), (5, (11, 0)), (20, (1, 0)), (19, (0, 0)), (25, (0, 0))])).bind fun y1 => ((cost_Best.f n ([(23, (2, 0)), (21, (3, 0)), (1, (1, 0)), (2, (0, 0)), (22, (0, 0)), (24, (2, 0)), (15, (0, 0)), (15, (0, 0)), (5, (11, 0)), (20, (1, 0)), (19, (0, 0)), (25, (0, 0))])).bind fun y2 => ((cost_Sections.f n ([(23, (2, 0)), (21, (3, 0)), (1, (1, 0)), (2, (0, 0)), (22, (0, 0)), (24, (2, 0)), (15, (0, 0)), (15, (0, 0)), (5, (11, 0)), (20, (1, 0)), (19, (0, 0)), (25, (0, 0))])).bind fun y3 => ((cost_Worst.f n (([(23, (2, 0)), (21, (3, 0)), (1, (1, 0)), (2, (0, 0)), (22, (0, 0)), (24, (2, 0)), (15, (0, 0)), (15, (0, 0)), (5, (11, 0)), (20, (1, 0)), (19, (0, 0)), (25, (0, 0))].take 3).drop 0)).bind fun y4 => (if (y1.1 == 18) then (if (y1.2 == 0) then (if (y2.1 == 17) then (if (y2.2 == 0) then ((camshaftlaw09_Plain.f n y3.1).bind fun y5 => ((camshaftref09_Same.f n y5 ([(2, 11)])).bind fun y6 => (if y6 then (if (y3.2 == 0) then (if (y4.2 == 7) then ((cost_Straight.f n ([(23, (2, 0)), (21, (3, 0)), (1, (1, 0)), (2, (0, 0)), (22, (0, 0)), (24, (2, 0)), (15, (0, 0)), (15, (0, 0)), (5, (11, 0)), (20, (1, 0)), (19, (0, 0)), (25, (0, 0))])).bind fun y7 => (if (!y7) then ((cost_Straight.f n (([(23, (2, 0)), (21, (3, 0)), (1, (1, 0)), (2, (0, 0)), (22, (0, 0)), (24, (2, 0)), (15, (0, 0)), (15, (0, 0)), (5, (11, 0)), (20, (1, 0)), (19, (0, 0)), (25, (0, 0))].take 9).drop 0)).bind fun y8 => (some y8)) else (some false))) else (some false)) else (some false)) else (some false)))) else (some false)) else (some false)) else (some false)) else (some false)))))
noncomputable def camshaftlaw09_known.fs (n : Nat) : FS := ⟨⟨[], []⟩, ⟨[.val .bool], []⟩, Bool, fun y => ((y, ()), ()), fun o => o.1.1, fun x => camshaftlaw09_known.f n ⟩
theorem camshaftlaw09_known.e (n : Nat) : FnEq (c35 n) 14 27 0 (camshaftlaw09_known.fs n) := fun x => by kernel_rfl
noncomputable def c36 (n : Nat) : Cx := (Cx.bare (c35 n)).addSpec 27 (camshaftlaw09_known.fs n)
theorem g36 (n : Nat) : Good (c36 n) := Good.fn (g35 n) 14 0 (camshaftlaw09_known.e n) (fun _ => rfl) rfl
/-! ### camshaftref04_Name: function 85 -/
noncomputable def camshaftref04_Name.f (n : Nat) (a0 : Int) : Option ByteArray := if (decide (a0 < 1)) then (some (ByteArray.mk #[])) else (if (decide (a0 > 25)) then (some (ByteArray.mk #[])) else (if (decide (0 ≤ (IntKind.wrap .i64 (a0 - 1))) && decide ((IntKind.wrap .i64 (a0 - 1)) < 25)) then (some ([(ByteArray.mk #[80, 85, 83, 72]), (ByteArray.mk #[68, 82, 79, 80]), (ByteArray.mk #[68, 85, 80]), (ByteArray.mk #[83, 87, 65, 80]), (ByteArray.mk #[84, 87, 79]), (ByteArray.mk #[78, 69, 71]), (ByteArray.mk #[78, 79, 84]), (ByteArray.mk #[66, 79, 84, 72]), (ByteArray.mk #[69, 73, 84, 72, 69, 82]), (ByteArray.mk #[67, 65, 83, 84]), (ByteArray.mk #[76, 79, 65, 68, 76]), (ByteArray.mk #[83, 84, 79, 82, 69, 76]), (ByteArray.mk #[76, 79, 65, 68, 82]), (ByteArray.mk #[83, 84, 79, 82, 69, 82]), (ByteArray.mk #[73, 78]), (ByteArray.mk #[79, 85, 84]), (ByteArray.mk #[71, 69, 84]), (ByteArray.mk #[80, 85, 84]), (ByteArray.mk #[74, 85, 77, 80]), (ByteArray.mk #[66, 82, 65, 78, 67, 72]), (ByteArray.mk #[76, 79, 79, 80]), (ByteArray.mk #[78, 69, 88, 84]), (ByteArray.mk #[76, 79, 67, 75]), (ByteArray.mk #[85, 78, 76, 79, 67, 75]), (ByteArray.mk #[69, 78, 68])].getD ((IntKind.wrap .i64 (a0 - 1))).toNat ByteArray.empty)) else none))
noncomputable def camshaftref04_Name.fs (n : Nat) : FS := ⟨⟨[.val (.int .i64)], []⟩, ⟨[.val .str], []⟩, ByteArray, fun y => ((y, ()), ()), fun o => o.1.1, fun x => camshaftref04_Name.f n x.1.1⟩
theorem camshaftref04_Name.e (n : Nat) : FnEq (c36 n) 14 85 0 (camshaftref04_Name.fs n) := fun x => by kernel_rfl
noncomputable def c37 (n : Nat) : Cx := (Cx.bare (c36 n)).addSpec 85 (camshaftref04_Name.fs n)
theorem g37 (n : Nat) : Good (c37 n) := Good.fn (g36 n) 14 0 (camshaftref04_Name.e n) (fun _ => rfl) rfl
/-! ### camshaftref04_Args: function 86 -/
noncomputable def camshaftref04_Args.f (n : Nat) (a0 : Int) : Option Int := (camshaftref04_Name.f n a0).bind fun y1 => (if (y1.toList == (ByteArray.mk #[]).toList) then (some (-1)) else (if (decide (0 ≤ (IntKind.wrap .i64 (a0 - 1))) && decide ((IntKind.wrap .i64 (a0 - 1)) < 25)) then (some ([1, 0, 0, 0, 1, 0, 0, 0, 0, 0, 1, 1, 1, 1, 1, 1, 2, 2, 1, 1, 1, 0, 1, 1, 0].getD ((IntKind.wrap .i64 (a0 - 1))).toNat (0 : Int))) else none))
noncomputable def camshaftref04_Args.fs (n : Nat) : FS := ⟨⟨[.val (.int .i64)], []⟩, ⟨[.val (.int .i64)], []⟩, Int, fun y => ((y, ()), ()), fun o => o.1.1, fun x => camshaftref04_Args.f n x.1.1⟩
theorem camshaftref04_Args.e (n : Nat) : FnEq (c37 n) 14 86 0 (camshaftref04_Args.fs n) := fun x => by kernel_rfl
noncomputable def c38 (n : Nat) : Cx := (Cx.bare (c37 n)).addSpec 86 (camshaftref04_Args.fs n)
theorem g38 (n : Nat) : Good (c38 n) := Good.fn (g37 n) 14 0 (camshaftref04_Args.e n) (fun _ => rfl) rfl
/-! ### camshaftref01_Name: function 87 -/
noncomputable def camshaftref01_Name.f (n : Nat) (a0 : Int) : Option ByteArray := if (decide (a0 < 1)) then (some (ByteArray.mk #[])) else (if (decide (a0 > 12)) then (some (ByteArray.mk #[])) else (if (decide (0 ≤ (IntKind.wrap .i64 (a0 - 1))) && decide ((IntKind.wrap .i64 (a0 - 1)) < 12)) then (some ([(ByteArray.mk #[65, 68, 68]), (ByteArray.mk #[83, 85, 66]), (ByteArray.mk #[77, 85, 76]), (ByteArray.mk #[68, 73, 86]), (ByteArray.mk #[77, 79, 68]), (ByteArray.mk #[65, 78, 68]), (ByteArray.mk #[79, 82]), (ByteArray.mk #[88, 79, 82]), (ByteArray.mk #[83, 72, 76]), (ByteArray.mk #[83, 72, 82]), (ByteArray.mk #[76, 84]), (ByteArray.mk #[69, 81])].getD ((IntKind.wrap .i64 (a0 - 1))).toNat ByteArray.empty)) else none))
noncomputable def camshaftref01_Name.fs (n : Nat) : FS := ⟨⟨[.val (.int .i64)], []⟩, ⟨[.val .str], []⟩, ByteArray, fun y => ((y, ()), ()), fun o => o.1.1, fun x => camshaftref01_Name.f n x.1.1⟩
theorem camshaftref01_Name.e (n : Nat) : FnEq (c38 n) 14 87 0 (camshaftref01_Name.fs n) := fun x => by kernel_rfl
noncomputable def c39 (n : Nat) : Cx := (Cx.bare (c38 n)).addSpec 87 (camshaftref01_Name.fs n)
theorem g39 (n : Nat) : Good (c39 n) := Good.fn (g38 n) 14 0 (camshaftref01_Name.e n) (fun _ => rfl) rfl
/-! ### camshaftref04_Right: function 75 -/
noncomputable def camshaftref04_Right.j0 (n : Nat) (v1 : Int) (v2 : Int) (v3 : Int) : Option ((((Bool × Unit) × ((Int × Int × Int × Unit) × Unit)) ⊕ (Unit × ((Int × Int × Int × Unit) × Unit)))) := (camshaftref04_Name.f n v1).bind fun y4 => (if (y4.toList == (ByteArray.mk #[]).toList) then (some (.inl ((false, ()), ((v1, v2, v3, ()), ())))) else ((camshaftref04_Args.f n v1).bind fun y5 => (if (decide (y5 < 2)) then (if (v3 != 0) then (some (.inl ((false, ()), ((v1, v2, v3, ()), ())))) else ((camshaftref04_Args.f n v1).bind fun y6 => (if (decide (y6 < 1)) then (if (v2 != 0) then (some (.inl ((false, ()), ((v1, v2, v3, ()), ())))) else (some (.inr ((), ((v1, v2, v3, ()), ()))))) else (some (.inr ((), ((v1, v2, v3, ()), ()))))))) else ((camshaftref04_Args.f n v1).bind fun y7 => (if (decide (y7 < 1)) then (if (v2 != 0) then (some (.inl ((false, ()), ((v1, v2, v3, ()), ())))) else (some (.inr ((), ((v1, v2, v3, ()), ()))))) else (some (.inr ((), ((v1, v2, v3, ()), ())))))))))
noncomputable def camshaftref04_Right.j0.L (n : Nat) : Loop := ⟨⟨ofs 96 0 [(1, .obj 0)], [[.val (.int .i64), .val (.int .i64), .val (.int .i64)]]⟩, [(.ret, ⟨ofs 96 0 [(2, .val .bool)], [[.val (.int .i64), .val (.int .i64), .val (.int .i64)]]⟩), (.norm, ⟨ofs 96 0 [(1, .obj 0)], [[.val (.int .i64), .val (.int .i64), .val (.int .i64)]]⟩)], (Int × Int × Int), fun x => ((), ((x.1, x.2.1, x.2.2, ()), ())), fun (x : (Unit × ((Int × Int × Int × Unit) × Unit))) => (x.2.1.1, x.2.1.2.1, x.2.1.2.2.1), (((Bool × Unit) × ((Int × Int × Int × Unit) × Unit)) ⊕ (Unit × ((Int × Int × Int × Unit) × Unit))), fun y => y, fun y => y, fun x => camshaftref04_Right.j0 n x.1 x.2.1 x.2.2⟩
noncomputable def camshaftref04_Right.f (n : Nat) (a0 : (Int × (Int × Int))) : Option Bool := (camshaftref04_Right.j0 n a0.1 a0.2.1 a0.2.2).bind fun y1 => ((Sum.elim (fun (z2 : ((Bool × Unit) × ((Int × Int × Int × Unit) × Unit))) => (some z2.1.1)) (fun (z3 : (Unit × ((Int × Int × Int × Unit) × Unit))) => (if (z3.2.1.1 == 5) then ((camshaftref01_Name.f n z3.2.1.2.1).bind fun y4 => (some (!(y4.toList == (ByteArray.mk #[]).toList)))) else (if (z3.2.1.1 == 11) then (if (decide (z3.2.1.2.1 ≥ 0)) then (if (decide (z3.2.1.2.1 ≤ 7)) then (if (decide (z3.2.1.2.2.1 ≥ 0)) then (some (decide (z3.2.1.2.2.1 ≤ 7))) else (some false)) else (some false)) else (some false)) else (if (z3.2.1.1 == 12) then (if (decide (z3.2.1.2.1 ≥ 0)) then (if (decide (z3.2.1.2.1 ≤ 7)) then (if (decide (z3.2.1.2.2.1 ≥ 0)) then (some (decide (z3.2.1.2.2.1 ≤ 7))) else (some false)) else (some false)) else (some false)) else (if (z3.2.1.1 == 13) then (if (decide (z3.2.1.2.1 ≥ 0)) then (if (decide (z3.2.1.2.1 ≤ 7)) then (if (decide (z3.2.1.2.2.1 ≥ 0)) then (some (decide (z3.2.1.2.2.1 ≤ 7))) else (some false)) else (some false)) else (some false)) else (if (z3.2.1.1 == 14) then (if (decide (z3.2.1.2.1 ≥ 0)) then (if (decide (z3.2.1.2.1 ≤ 7)) then (if (decide (z3.2.1.2.2.1 ≥ 0)) then (some (decide (z3.2.1.2.2.1 ≤ 7))) else (some false)) else (some false)) else (some false)) else (if (z3.2.1.1 == 17) then (if (decide (z3.2.1.2.1 ≥ 0)) then (if (decide (z3.2.1.2.1 ≤ 7)) then (if (decide (z3.2.1.2.2.1 ≥ 0)) then (some (decide (z3.2.1.2.2.1 ≤ 7))) else (some false)) else (some false)) else (some false)) else (if (z3.2.1.1 == 18) then (if (decide (z3.2.1.2.1 ≥ 0)) then (if (decide (z3.2.1.2.1 ≤ 7)) then (if (decide (z3.2.1.2.2.1 ≥ 0)) then (some (decide (z3.2.1.2.2.1 ≤ 7))) else (some false)) else (some false)) else (some false)) else (if (z3.2.1.1 == 23) then (if (decide (z3.2.1.2.1 ≥ 0)) then (if (decide (z3.2.1.2.1 ≤ 7)) then (if (decide (z3.2.1.2.2.1 ≥ 0)) then (some (decide (z3.2.1.2.2.1 ≤ 7))) else (some false)) else (some false)) else (some false)) else (if (z3.2.1.1 == 24) then (if (decide (z3.2.1.2.1 ≥ 0)) then (if (decide (z3.2.1.2.1 ≤ 7)) then (if (decide (z3.2.1.2.2.1 ≥ 0)) then (some (decide (z3.2.1.2.2.1 ≤ 7))) else (some false)) else (some false)) else (some false)) else (if (z3.2.1.1 == 15) then (if (decide (z3.2.1.2.1 ≥ 0)) then (some (decide (z3.2.1.2.1 ≤ 15))) else (some false)) else (if (z3.2.1.1 == 16) then (if (decide (z3.2.1.2.1 ≥ 0)) then (some (decide (z3.2.1.2.1 ≤ 15))) else (some false)) else (if (z3.2.1.1 == 19) then (if (decide (z3.2.1.2.1 ≥ 0)) then (some (decide (z3.2.1.2.1 ≤ 199))) else (some false)) else (if (z3.2.1.1 == 20) then (if (decide (z3.2.1.2.1 ≥ 0)) then (some (decide (z3.2.1.2.1 ≤ 199))) else (some false)) else (if (z3.2.1.1 == 21) then (if (decide (z3.2.1.2.1 ≥ 1)) then (some (decide (z3.2.1.2.1 ≤ 1000))) else (some false)) else (some true))))))))))))))))) y1)
noncomputable def camshaftref04_Right.fs (n : Nat) : FS := ⟨⟨[.val (.pair (.int .i64) (.pair (.int .i64) (.int .i64)))], []⟩, ⟨[.val .bool], []⟩, Bool, fun y => ((y, ()), ()), fun o => o.1.1, fun x => camshaftref04_Right.f n x.1.1⟩
theorem camshaftref04_Right.j0.e (n : Nat) : ∀ x, evJoin (c39 n) 14 75 0 1000003 (camshaftref04_Right.j0.L n) x = (camshaftref04_Right.j0.L n).fn x := fun x => by kernel_rfl
noncomputable def camshaftref04_Right.j0.c (n : Nat) : Cx := Cx.addLoop (c39 n) 75 1000003 (camshaftref04_Right.j0.L n)
theorem camshaftref04_Right.j0.g (n : Nat) : Good (camshaftref04_Right.j0.c n) := Good.join (g39 n) 14 0 (by kernel_rfl) (camshaftref04_Right.j0.e n) (fun _ => rfl) (fun _ => rfl) rfl
theorem camshaftref04_Right.e (n : Nat) : FnEq (camshaftref04_Right.j0.c n) 14 75 0 (camshaftref04_Right.fs n) := fun x => by kernel_rfl
noncomputable def c40 (n : Nat) : Cx := (Cx.bare (camshaftref04_Right.j0.c n)).addSpec 75 (camshaftref04_Right.fs n)
theorem g40 (n : Nat) : Good (c40 n) := Good.fn (camshaftref04_Right.j0.g n) 14 0 (camshaftref04_Right.e n) (fun _ => rfl) rfl
/-! ### camshaftref06_right: function 61 -/
noncomputable def camshaftref06_right.b0 (n : Nat) (F : ((List (Int × (Int × Int))) × Int) → Option ((((Bool × Unit) × Unit) ⊕ (((List (Int × (Int × Int))) × Unit) × Unit)))) (v2 : (List (Int × (Int × Int)))) (v3 : Int) : Option ((((Bool × Unit) × Unit) ⊕ (((List (Int × (Int × Int))) × Unit) × Unit))) := if (decide (v3 < (v2.length : Int))) then (if (decide (0 ≤ v3) && decide (v3 < (v2.length : Int))) then ((camshaftref04_Right.f n ((v2.getD v3.toNat ((0 : Int), ((0 : Int), (0 : Int)))).1, ((v2.getD v3.toNat ((0 : Int), ((0 : Int), (0 : Int)))).2.1, (v2.getD v3.toNat ((0 : Int), ((0 : Int), (0 : Int)))).2.2))).bind fun y4 => (if (!y4) then (some (.inl ((false, ()), ()))) else (F (v2, (IntKind.wrap .i64 (v3 + 1)))))) else none) else (some (.inr ((v2, ()), ())))
noncomputable def camshaftref06_right.b0.l (n : Nat) : ((List (Int × (Int × Int))) × Int) → Option ((((Bool × Unit) × Unit) ⊕ (((List (Int × (Int × Int))) × Unit) × Unit)))   := it (fun F x => camshaftref06_right.b0 n F x.1 x.2) n
noncomputable def camshaftref06_right.b0.L (n : Nat) : Loop := ⟨⟨ofs 24 0 [(0, .val (.sl (.pair (.int .i64) (.pair (.int .i64) (.int .i64))))), (3, .val (.int .i64))], []⟩, [(.ret, ⟨ofs 24 0 [(2, .val .bool)], []⟩), (.exit 0, ⟨ofs 24 0 [(0, .val (.sl (.pair (.int .i64) (.pair (.int .i64) (.int .i64)))))], []⟩)], ((List (Int × (Int × Int))) × Int), fun x => ((x.1, x.2, ()), ()), fun (x : (((List (Int × (Int × Int))) × Int × Unit) × Unit)) => (x.1.1, x.1.2.1), (((Bool × Unit) × Unit) ⊕ (((List (Int × (Int × Int))) × Unit) × Unit)), fun y => y, fun y => y, camshaftref06_right.b0.l n⟩
noncomputable def camshaftref06_right.f (n : Nat) (a0 : (List (Int × (Int × Int)))) : Option Bool := (camshaftref06_right.b0.l n (a0, 0)).bind fun y1 => ((Sum.elim (fun (z2 : ((Bool × Unit) × Unit)) => (some z2.1.1)) (fun (z3 : (((List (Int × (Int × Int))) × Unit) × Unit)) => (if (decide ((z3.1.1.length : Int) ≥ 1)) then (some (decide ((z3.1.1.length : Int) ≤ 200))) else (some false)))) y1)
noncomputable def camshaftref06_right.fs (n : Nat) : FS := ⟨⟨[.val (.sl (.pair (.int .i64) (.pair (.int .i64) (.int .i64))))], []⟩, ⟨[.val .bool], []⟩, Bool, fun y => ((y, ()), ()), fun o => o.1.1, fun x => camshaftref06_right.f n x.1.1⟩
theorem camshaftref06_right.b0.e (n : Nat) : ∀ F x, evLoop (c40 n) 14 61 0 2 (camshaftref06_right.b0.L n) F x = camshaftref06_right.b0 n F x.1 x.2 := fun F x => by kernel_rfl
noncomputable def camshaftref06_right.b0.c (n : Nat) : Cx := Cx.addLoop (c40 n) 61 2 (camshaftref06_right.b0.L n)
theorem camshaftref06_right.b0.g (n : Nat) : Good (camshaftref06_right.b0.c n) := Good.loop (g40 n) 14 0 (by kernel_rfl) (camshaftref06_right.b0.e n) n (fun _ => rfl) (fun _ => rfl) (fun _ => rfl) rfl
theorem camshaftref06_right.e (n : Nat) : FnEq (camshaftref06_right.b0.c n) 14 61 0 (camshaftref06_right.fs n) := fun x => by kernel_rfl
noncomputable def c41 (n : Nat) : Cx := (Cx.bare (camshaftref06_right.b0.c n)).addSpec 61 (camshaftref06_right.fs n)
theorem g41 (n : Nat) : Good (c41 n) := Good.fn (camshaftref06_right.b0.g n) 14 0 (camshaftref06_right.e n) (fun _ => rfl) rfl
/-! ### camshaftref06_opens: function 62 -/
noncomputable def camshaftref06_opens.f (n : Nat) (a0 : (Int × (Int × Int))) : Option Bool := if (a0.1 == 21) then (some true) else (some (a0.1 == 23))
noncomputable def camshaftref06_opens.fs (n : Nat) : FS := ⟨⟨[.val (.pair (.int .i64) (.pair (.int .i64) (.int .i64)))], []⟩, ⟨[.val .bool], []⟩, Bool, fun y => ((y, ()), ()), fun o => o.1.1, fun x => camshaftref06_opens.f n x.1.1⟩
theorem camshaftref06_opens.e (n : Nat) : FnEq (c41 n) 14 62 0 (camshaftref06_opens.fs n) := fun x => by kernel_rfl
noncomputable def c42 (n : Nat) : Cx := (Cx.bare (c41 n)).addSpec 62 (camshaftref06_opens.fs n)
theorem g42 (n : Nat) : Good (c42 n) := Good.fn (g41 n) 14 0 (camshaftref06_opens.e n) (fun _ => rfl) rfl
/-! ### camshaftref06_closer: function 63 -/
noncomputable def camshaftref06_closer.f (n : Nat) (a0 : (Int × (Int × Int))) : Option Bool := if (a0.1 == 22) then (some true) else (some (a0.1 == 24))
noncomputable def camshaftref06_closer.fs (n : Nat) : FS := ⟨⟨[.val (.pair (.int .i64) (.pair (.int .i64) (.int .i64)))], []⟩, ⟨[.val .bool], []⟩, Bool, fun y => ((y, ()), ()), fun o => o.1.1, fun x => camshaftref06_closer.f n x.1.1⟩
theorem camshaftref06_closer.e (n : Nat) : FnEq (c42 n) 14 63 0 (camshaftref06_closer.fs n) := fun x => by kernel_rfl
noncomputable def c43 (n : Nat) : Cx := (Cx.bare (c42 n)).addSpec 63 (camshaftref06_closer.fs n)
theorem g43 (n : Nat) : Good (c43 n) := Good.fn (g42 n) 14 0 (camshaftref06_closer.e n) (fun _ => rfl) rfl
/-! ### camshaftref06_closes: function 64 -/
noncomputable def camshaftref06_closes.f (n : Nat) (a0 : (Int × (Int × Int))) (a1 : (Int × (Int × Int))) : Option Bool := if (a0.1 == 21) then (if (a1.1 == 22) then (some true) else (if (a0.1 == 23) then (if (a1.1 == 24) then (some (a0.2.1 == a1.2.1)) else (some false)) else (some false))) else (if (a0.1 == 23) then (if (a1.1 == 24) then (some (a0.2.1 == a1.2.1)) else (some false)) else (some false))
noncomputable def camshaftref06_closes.fs (n : Nat) : FS := ⟨⟨[.val (.pair (.int .i64) (.pair (.int .i64) (.int .i64))), .val (.pair (.int .i64) (.pair (.int .i64) (.int .i64)))], []⟩, ⟨[.val .bool], []⟩, Bool, fun y => ((y, ()), ()), fun o => o.1.1, fun x => camshaftref06_closes.f n x.1.1 x.1.2.1⟩
theorem camshaftref06_closes.e (n : Nat) : FnEq (c43 n) 14 64 0 (camshaftref06_closes.fs n) := fun x => by kernel_rfl
noncomputable def c44 (n : Nat) : Cx := (Cx.bare (c43 n)).addSpec 64 (camshaftref06_closes.fs n)
theorem g44 (n : Nat) : Good (c44 n) := Good.fn (g43 n) 14 0 (camshaftref06_closes.e n) (fun _ => rfl) rfl
/-! ### camshaftref06_Match: function 52 -/
noncomputable def camshaftref06_Match.j0 (n : Nat) (v13 : (List (Int × (Int × Int)))) (v14 : (List Int)) (v15 : (List Int)) (v16 : Int) : Option (((List (Int × (Int × Int))) × (List Int) × (List Int) × Int)) := if (decide (0 ≤ v16) && decide (v16 < (v13.length : Int))) then ((camshaftref06_opens.f n ((v13.getD v16.toNat ((0 : Int), ((0 : Int), (0 : Int)))).1, ((v13.getD v16.toNat ((0 : Int), ((0 : Int), (0 : Int)))).2.1, (v13.getD v16.toNat ((0 : Int), ((0 : Int), (0 : Int)))).2.2))).bind fun y17 => (if y17 then (if (decide ((v15.length + 1) * 8 ≤ 140737488355328) && decide (1 ≤ 8)) then (some (v13, v14, (v15 ++ [v16]), v16)) else none) else (some (v13, v14, v15, v16)))) else none
noncomputable def camshaftref06_Match.j0.L (n : Nat) : Loop := ⟨⟨ofs 81 0 [(0, .val (.sl (.pair (.int .i64) (.pair (.int .i64) (.int .i64))))), (4, .row 3 (.int .i64)), (5, .row 3 (.int .i64)), (6, .val (.int .i64))], []⟩, [(.norm, ⟨ofs 81 0 [(0, .val (.sl (.pair (.int .i64) (.pair (.int .i64) (.int .i64))))), (4, .row 3 (.int .i64)), (5, .row 3 (.int .i64)), (6, .val (.int .i64))], []⟩)], ((List (Int × (Int × Int))) × (List Int) × (List Int) × Int), fun x => ((x.1, x.2.1, x.2.2.1, x.2.2.2, ()), ()), fun (x : (((List (Int × (Int × Int))) × (List Int) × (List Int) × Int × Unit) × Unit)) => (x.1.1, x.1.2.1, x.1.2.2.1, x.1.2.2.2.1), ((List (Int × (Int × Int))) × (List Int) × (List Int) × Int), fun y => ((y.1, y.2.1, y.2.2.1, y.2.2.2, ()), ()), fun (o : (((List (Int × (Int × Int))) × (List Int) × (List Int) × Int × Unit) × Unit)) => (o.1.1, o.1.2.1, o.1.2.2.1, o.1.2.2.2.1), fun x => camshaftref06_Match.j0 n x.1 x.2.1 x.2.2.1 x.2.2.2⟩
noncomputable def camshaftref06_Match.b1 (n : Nat) (F : ((List (Int × (Int × Int))) × (List Int) × (List Int) × Int) → Option (((((List Int) × Int × Unit) × Unit) ⊕ (((List Int) × (List Int) × Unit) × Unit)))) (v5 : (List (Int × (Int × Int)))) (v6 : (List Int)) (v7 : (List Int)) (v8 : Int) : Option (((((List Int) × Int × Unit) × Unit) ⊕ (((List Int) × (List Int) × Unit) × Unit))) := if (decide (v8 < (v5.length : Int))) then (if (decide (0 ≤ v8) && decide (v8 < (v6.length : Int))) then ((camshaftref06_Match.j0 n v5 (v6.set v8.toNat (-1)) v7 v8).bind fun y9 => (if (decide (0 ≤ y9.2.2.2) && decide (y9.2.2.2 < (y9.1.length : Int))) then ((camshaftref06_closer.f n ((y9.1.getD y9.2.2.2.toNat ((0 : Int), ((0 : Int), (0 : Int)))).1, ((y9.1.getD y9.2.2.2.toNat ((0 : Int), ((0 : Int), (0 : Int)))).2.1, (y9.1.getD y9.2.2.2.toNat ((0 : Int), ((0 : Int), (0 : Int)))).2.2))).bind fun y10 => (if y10 then (if ((y9.2.2.1.length : Int) == 0) then (some (.inl (([], 7, ()), ()))) else (if (decide (0 ≤ (IntKind.wrap .i64 ((y9.2.2.1.length : Int) - 1))) && decide ((IntKind.wrap .i64 ((y9.2.2.1.length : Int) - 1)) < (y9.2.2.1.length : Int))) then (if (decide (0 ≤ (y9.2.2.1.getD ((IntKind.wrap .i64 ((y9.2.2.1.length : Int) - 1))).toNat (0 : Int))) && decide ((y9.2.2.1.getD ((IntKind.wrap .i64 ((y9.2.2.1.length : Int) - 1))).toNat (0 : Int)) < (y9.1.length : Int))) then (if (decide (0 ≤ y9.2.2.2) && decide (y9.2.2.2 < (y9.1.length : Int))) then ((camshaftref06_closes.f n ((y9.1.getD ((y9.2.2.1.getD ((IntKind.wrap .i64 ((y9.2.2.1.length : Int) - 1))).toNat (0 : Int))).toNat ((0 : Int), ((0 : Int), (0 : Int)))).1, ((y9.1.getD ((y9.2.2.1.getD ((IntKind.wrap .i64 ((y9.2.2.1.length : Int) - 1))).toNat (0 : Int))).toNat ((0 : Int), ((0 : Int), (0 : Int)))).2.1, (y9.1.getD ((y9.2.2.1.getD ((IntKind.wrap .i64 ((y9.2.2.1.length : Int) - 1))).toNat (0 : Int))).toNat ((0 : Int), ((0 : Int), (0 : Int)))).2.2)) ((y9.1.getD y9.2.2.2.toNat ((0 : Int), ((0 : Int), (0 : Int)))).1, ((y9.1.getD y9.2.2.2.toNat ((0 : Int), ((0 : Int), (0 : Int)))).2.1, (y9.1.getD y9.2.2.2.toNat ((0 : Int), ((0 : Int), (0 : Int)))).2.2))).bind fun y11 => (if (!y11) then (some (.inl (([], 7, ()), ()))) else (if (decide (0 ≤ (IntKind.wrap .i64 ((y9.2.2.1.length : Int) - 1))) && decide ((IntKind.wrap .i64 ((y9.2.2.1.length : Int) - 1)) < (y9.2.2.1.length : Int))) then (if (decide (0 ≤ y9.2.2.2) && decide (y9.2.2.2 < (y9.2.1.length : Int))) then (if (decide (0 ≤ (IntKind.wrap .i64 ((y9.2.2.1.length : Int) - 1))) && decide ((IntKind.wrap .i64 ((y9.2.2.1.length : Int) - 1)) < (y9.2.2.1.length : Int))) then (if (decide (0 ≤ (y9.2.2.1.getD ((IntKind.wrap .i64 ((y9.2.2.1.length : Int) - 1))).toNat (0 : Int))) && decide ((y9.2.2.1.getD ((IntKind.wrap .i64 ((y9.2.2.1.length : Int) - 1))).toNat (0 : Int)) < (((y9.2.1.set y9.2.2.2.toNat (y9.2.2.1.getD ((IntKind.wrap .i64 ((y9.2.2.1.length : Int) - 1))).toNat (0 : Int))).length : Nat) : Int))) then (if (decide (0 ≤ (IntKind.wrap .i64 ((y9.2.2.1.length : Int) - 1))) && decide ((IntKind.wrap .i64 ((y9.2.2.1.length : Int) - 1)) ≤ (y9.2.2.1.length : Int))) then (F (y9.1, ((y9.2.1.set y9.2.2.2.toNat (y9.2.2.1.getD ((IntKind.wrap .i64 ((y9.2.2.1.length : Int) - 1))).toNat (0 : Int))).set ((y9.2.2.1.getD ((IntKind.wrap .i64 ((y9.2.2.1.length : Int) - 1))).toNat (0 : Int))).toNat y9.2.2.2), (y9.2.2.1.take (((IntKind.wrap .i64 ((y9.2.2.1.length : Int) - 1))).toNat - 0)), (IntKind.wrap .i64 (y9.2.2.2 + 1)))) else none) else none) else none) else none) else none))) else none) else none) else none)) else (F (y9.1, y9.2.1, y9.2.2.1, (IntKind.wrap .i64 (y9.2.2.2 + 1)))))) else none)) else none) else (some (.inr ((v6, v7, ()), ())))
noncomputable def camshaftref06_Match.b1.l (n : Nat) : ((List (Int × (Int × Int))) × (List Int) × (List Int) × Int) → Option (((((List Int) × Int × Unit) × Unit) ⊕ (((List Int) × (List Int) × Unit) × Unit)))   := it (fun F x => camshaftref06_Match.b1 n F x.1 x.2.1 x.2.2.1 x.2.2.2) n
noncomputable def camshaftref06_Match.b1.L (n : Nat) : Loop := ⟨⟨ofs 81 0 [(0, .val (.sl (.pair (.int .i64) (.pair (.int .i64) (.int .i64))))), (4, .row 3 (.int .i64)), (5, .row 3 (.int .i64)), (6, .val (.int .i64))], []⟩, [(.ret, ⟨ofs 81 0 [(2, .row 3 (.int .i64)), (3, .val (.int .i64))], []⟩), (.exit 0, ⟨ofs 81 0 [(4, .row 3 (.int .i64)), (5, .row 3 (.int .i64))], []⟩)], ((List (Int × (Int × Int))) × (List Int) × (List Int) × Int), fun x => ((x.1, x.2.1, x.2.2.1, x.2.2.2, ()), ()), fun (x : (((List (Int × (Int × Int))) × (List Int) × (List Int) × Int × Unit) × Unit)) => (x.1.1, x.1.2.1, x.1.2.2.1, x.1.2.2.2.1), ((((List Int) × Int × Unit) × Unit) ⊕ (((List Int) × (List Int) × Unit) × Unit)), fun y => y, fun y => y, camshaftref06_Match.b1.l n⟩
noncomputable def camshaftref06_Match.f (n : Nat) (a0 : (List (Int × (Int × Int)))) : Option ((List Int) × Int) := (camshaftref06_right.f n a0).bind fun y1 => (if (!y1) then (some ([], 1)) else (if (decide (0 ≤ (a0.length : Int)) && ((a0.length : Int) == (a0.length : Int)) && decide ((a0.length : Int) * (8 : Int) ≤ 140737488355328) && decide (1 ≤ 8)) then ((camshaftref06_Match.b1.l n (a0, (List.replicate ((a0.length : Int)).toNat (0 : Int)), [], 0)).bind fun y2 => ((Sum.elim (fun (z3 : (((List Int) × Int × Unit) × Unit)) => (some (z3.1.1, z3.1.2.1))) (fun (z4 : (((List Int) × (List Int) × Unit) × Unit)) => (if (decide ((z4.1.2.1.length : Int) > 0)) then (some ([], 7)) else (some (z4.1.1, 0))))) y2)) else none))
noncomputable def camshaftref06_Match.fs (n : Nat) : FS := ⟨⟨[.val (.sl (.pair (.int .i64) (.pair (.int .i64) (.int .i64))))], []⟩, ⟨[.val (.sl (.int .i64)), .val (.int .i64)], []⟩, ((List Int) × Int), fun y => ((y.1, y.2, ()), ()), fun o => (o.1.1, o.1.2.1), fun x => camshaftref06_Match.f n x.1.1⟩
theorem camshaftref06_Match.j0.e (n : Nat) : ∀ x, evJoin (c44 n) 14 52 0 1000011 (camshaftref06_Match.j0.L n) x = (camshaftref06_Match.j0.L n).fn x := fun x => by kernel_rfl
noncomputable def camshaftref06_Match.j0.c (n : Nat) : Cx := Cx.addLoop (c44 n) 52 1000011 (camshaftref06_Match.j0.L n)
theorem camshaftref06_Match.j0.g (n : Nat) : Good (camshaftref06_Match.j0.c n) := Good.join (g44 n) 14 0 (by kernel_rfl) (camshaftref06_Match.j0.e n) (fun _ => rfl) (fun _ => rfl) rfl
theorem camshaftref06_Match.b1.e (n : Nat) : ∀ F x, evLoop (camshaftref06_Match.j0.c n) 14 52 0 6 (camshaftref06_Match.b1.L n) F x = camshaftref06_Match.b1 n F x.1 x.2.1 x.2.2.1 x.2.2.2 := fun F x => by kernel_rfl
noncomputable def camshaftref06_Match.b1.c (n : Nat) : Cx := Cx.addLoop (camshaftref06_Match.j0.c n) 52 6 (camshaftref06_Match.b1.L n)
theorem camshaftref06_Match.b1.g (n : Nat) : Good (camshaftref06_Match.b1.c n) := Good.loop (camshaftref06_Match.j0.g n) 14 0 (by kernel_rfl) (camshaftref06_Match.b1.e n) n (fun _ => rfl) (fun _ => rfl) (fun _ => rfl) rfl
theorem camshaftref06_Match.e (n : Nat) : FnEq (camshaftref06_Match.b1.c n) 14 52 0 (camshaftref06_Match.fs n) := fun x => by kernel_rfl
noncomputable def c45 (n : Nat) : Cx := (Cx.bare (camshaftref06_Match.b1.c n)).addSpec 52 (camshaftref06_Match.fs n)
theorem g45 (n : Nat) : Good (c45 n) := Good.fn (camshaftref06_Match.b1.g n) 14 0 (camshaftref06_Match.e n) (fun _ => rfl) rfl
/-! ### camshaftref06_home: function 88 -/
noncomputable def camshaftref06_home.b0 (n : Nat) (F : ((List (Int × (Int × Int))) × (List Int) × Int × Int) → Option ((((Int × Unit) × Unit) ⊕ (Unit × Unit)))) (v1 : (List (Int × (Int × Int)))) (v2 : (List Int)) (v3 : Int) (v4 : Int) : Option ((((Int × Unit) × Unit) ⊕ (Unit × Unit))) := if (decide (v4 ≥ 0)) then (if (decide (0 ≤ v4) && decide (v4 < (v1.length : Int))) then ((camshaftref06_opens.f n ((v1.getD v4.toNat ((0 : Int), ((0 : Int), (0 : Int)))).1, ((v1.getD v4.toNat ((0 : Int), ((0 : Int), (0 : Int)))).2.1, (v1.getD v4.toNat ((0 : Int), ((0 : Int), (0 : Int)))).2.2))).bind fun y5 => (if y5 then (if (decide (0 ≤ v4) && decide (v4 < (v2.length : Int))) then (if (decide ((v2.getD v4.toNat (0 : Int)) ≥ v3)) then (some (.inl ((v4, ()), ()))) else (F (v1, v2, v3, (IntKind.wrap .i64 (v4 - 1))))) else none) else (F (v1, v2, v3, (IntKind.wrap .i64 (v4 - 1)))))) else none) else (some (.inr ((), ())))
noncomputable def camshaftref06_home.b0.l (n : Nat) : ((List (Int × (Int × Int))) × (List Int) × Int × Int) → Option ((((Int × Unit) × Unit) ⊕ (Unit × Unit)))   := it (fun F x => camshaftref06_home.b0 n F x.1 x.2.1 x.2.2.1 x.2.2.2) n
noncomputable def camshaftref06_home.b0.L (n : Nat) : Loop := ⟨⟨ofs 28 0 [(0, .val (.sl (.pair (.int .i64) (.pair (.int .i64) (.int .i64))))), (1, .val (.sl (.int .i64))), (2, .val (.int .i64)), (7, .val (.int .i64))], []⟩, [(.ret, ⟨ofs 28 0 [(6, .val (.int .i64))], []⟩), (.exit 0, ⟨ofs 28 0 [], []⟩)], ((List (Int × (Int × Int))) × (List Int) × Int × Int), fun x => ((x.1, x.2.1, x.2.2.1, x.2.2.2, ()), ()), fun (x : (((List (Int × (Int × Int))) × (List Int) × Int × Int × Unit) × Unit)) => (x.1.1, x.1.2.1, x.1.2.2.1, x.1.2.2.2.1), (((Int × Unit) × Unit) ⊕ (Unit × Unit)), fun y => y, fun y => y, camshaftref06_home.b0.l n⟩
noncomputable def camshaftref06_home.f (n : Nat) (a0 : (List (Int × (Int × Int)))) (a1 : (List Int)) (a2 : Int) : Option Int := (camshaftref06_home.b0.l n (a0, a1, a2, (IntKind.wrap .i64 (a2 - 1)))).bind fun y6 => ((Sum.elim (fun (z7 : ((Int × Unit) × Unit)) => (some z7.1.1)) (fun (z8 : (Unit × Unit)) => (some (-1)))) y6)
noncomputable def camshaftref06_home.fs (n : Nat) : FS := ⟨⟨[.val (.sl (.pair (.int .i64) (.pair (.int .i64) (.int .i64)))), .val (.sl (.int .i64)), .val (.int .i64)], []⟩, ⟨[.val (.int .i64)], []⟩, Int, fun y => ((y, ()), ()), fun o => o.1.1, fun x => camshaftref06_home.f n x.1.1 x.1.2.1 x.1.2.2.1⟩
theorem camshaftref06_home.b0.e (n : Nat) : ∀ F x, evLoop (c45 n) 14 88 0 2 (camshaftref06_home.b0.L n) F x = camshaftref06_home.b0 n F x.1 x.2.1 x.2.2.1 x.2.2.2 := fun F x => by kernel_rfl
noncomputable def camshaftref06_home.b0.c (n : Nat) : Cx := Cx.addLoop (c45 n) 88 2 (camshaftref06_home.b0.L n)
theorem camshaftref06_home.b0.g (n : Nat) : Good (camshaftref06_home.b0.c n) := Good.loop (g45 n) 14 0 (by kernel_rfl) (camshaftref06_home.b0.e n) n (fun _ => rfl) (fun _ => rfl) (fun _ => rfl) rfl
theorem camshaftref06_home.e (n : Nat) : FnEq (camshaftref06_home.b0.c n) 14 88 0 (camshaftref06_home.fs n) := fun x => by kernel_rfl
noncomputable def c46 (n : Nat) : Cx := (Cx.bare (camshaftref06_home.b0.c n)).addSpec 88 (camshaftref06_home.fs n)
theorem g46 (n : Nat) : Good (c46 n) := Good.fn (camshaftref06_home.b0.g n) 14 0 (camshaftref06_home.e n) (fun _ => rfl) rfl
/-! ### camshaftref06_Whole: function 76 -/
noncomputable def camshaftref06_Whole.b0 (n : Nat) (F : ((List (Int × (Int × Int))) × (List Int) × Int) → Option ((((Int × Unit) × Unit) ⊕ (((List (Int × (Int × Int))) × (List Int) × Unit) × Unit)))) (v4 : (List (Int × (Int × Int)))) (v5 : (List Int)) (v6 : Int) : Option ((((Int × Unit) × Unit) ⊕ (((List (Int × (Int × Int))) × (List Int) × Unit) × Unit))) := if (decide (v6 < (v4.length : Int))) then (if (decide (0 ≤ v6) && decide (v6 < (v4.length : Int))) then (if (((v4.getD v6.toNat ((0 : Int), ((0 : Int), (0 : Int)))).1 == 25) != (v6 == (IntKind.wrap .i64 ((v4.length : Int) - 1)))) then (some (.inl ((7, ()), ()))) else (F (v4, v5, (IntKind.wrap .i64 (v6 + 1))))) else none) else (some (.inr ((v4, v5, ()), ())))
noncomputable def camshaftref06_Whole.b0.l (n : Nat) : ((List (Int × (Int × Int))) × (List Int) × Int) → Option ((((Int × Unit) × Unit) ⊕ (((List (Int × (Int × Int))) × (List Int) × Unit) × Unit)))   := it (fun F x => camshaftref06_Whole.b0 n F x.1 x.2.1 x.2.2) n
noncomputable def camshaftref06_Whole.b0.L (n : Nat) : Loop := ⟨⟨ofs 77 0 [(0, .val (.sl (.pair (.int .i64) (.pair (.int .i64) (.int .i64))))), (3, .val (.sl (.int .i64))), (5, .val (.int .i64))], []⟩, [(.ret, ⟨ofs 77 0 [(2, .val (.int .i64))], []⟩), (.exit 0, ⟨ofs 77 0 [(0, .val (.sl (.pair (.int .i64) (.pair (.int .i64) (.int .i64))))), (3, .val (.sl (.int .i64)))], []⟩)], ((List (Int × (Int × Int))) × (List Int) × Int), fun x => ((x.1, x.2.1, x.2.2, ()), ()), fun (x : (((List (Int × (Int × Int))) × (List Int) × Int × Unit) × Unit)) => (x.1.1, x.1.2.1, x.1.2.2.1), (((Int × Unit) × Unit) ⊕ (((List (Int × (Int × Int))) × (List Int) × Unit) × Unit)), fun y => y, fun y => y, camshaftref06_Whole.b0.l n⟩
noncomputable def camshaftref06_Whole.b1 (n : Nat) (F : ((List (Int × (Int × Int))) × (List Int) × Int) → Option ((((Int × Unit) × Unit) ⊕ (Unit × Unit)))) (v5 : (List (Int × (Int × Int)))) (v6 : (List Int)) (v7 : Int) : Option ((((Int × Unit) × Unit) ⊕ (Unit × Unit))) := if (decide (v7 < (v5.length : Int))) then (if (decide (0 ≤ v7) && decide (v7 < (v5.length : Int))) then (if ((v5.getD v7.toNat ((0 : Int), ((0 : Int), (0 : Int)))).1 == 19) then (if (decide (0 ≤ v7) && decide (v7 < (v5.length : Int))) then (if (decide ((IntKind.wrap .i64 ((IntKind.wrap .i64 (v7 + 1)) + (v5.getD v7.toNat ((0 : Int), ((0 : Int), (0 : Int)))).2.1)) ≥ (v5.length : Int))) then (some (.inl ((8, ()), ()))) else ((camshaftref06_home.f n v5 v6 (IntKind.wrap .i64 ((IntKind.wrap .i64 (v7 + 1)) + (v5.getD v7.toNat ((0 : Int), ((0 : Int), (0 : Int)))).2.1))).bind fun y8 => ((camshaftref06_home.f n v5 v6 v7).bind fun y9 => (if (y8 != y9) then (some (.inl ((8, ()), ()))) else (F (v5, v6, (IntKind.wrap .i64 (v7 + 1)))))))) else none) else (if (decide (0 ≤ v7) && decide (v7 < (v5.length : Int))) then (if ((v5.getD v7.toNat ((0 : Int), ((0 : Int), (0 : Int)))).1 == 20) then (if (decide (0 ≤ v7) && decide (v7 < (v5.length : Int))) then (if (decide ((IntKind.wrap .i64 ((IntKind.wrap .i64 (v7 + 1)) + (v5.getD v7.toNat ((0 : Int), ((0 : Int), (0 : Int)))).2.1)) ≥ (v5.length : Int))) then (some (.inl ((8, ()), ()))) else ((camshaftref06_home.f n v5 v6 (IntKind.wrap .i64 ((IntKind.wrap .i64 (v7 + 1)) + (v5.getD v7.toNat ((0 : Int), ((0 : Int), (0 : Int)))).2.1))).bind fun y10 => ((camshaftref06_home.f n v5 v6 v7).bind fun y11 => (if (y10 != y11) then (some (.inl ((8, ()), ()))) else (F (v5, v6, (IntKind.wrap .i64 (v7 + 1)))))))) else none) else (F (v5, v6, (IntKind.wrap .i64 (v7 + 1))))) else none)) else none) else (some (.inr ((), ())))
noncomputable def camshaftref06_Whole.b1.l (n : Nat) : ((List (Int × (Int × Int))) × (List Int) × Int) → Option ((((Int × Unit) × Unit) ⊕ (Unit × Unit)))   := it (fun F x => camshaftref06_Whole.b1 n F x.1 x.2.1 x.2.2) n
noncomputable def camshaftref06_Whole.b1.L (n : Nat) : Loop := ⟨⟨ofs 77 0 [(0, .val (.sl (.pair (.int .i64) (.pair (.int .i64) (.int .i64))))), (3, .val (.sl (.int .i64))), (6, .val (.int .i64))], []⟩, [(.ret, ⟨ofs 77 0 [(2, .val (.int .i64))], []⟩), (.exit 2, ⟨ofs 77 0 [], []⟩)], ((List (Int × (Int × Int))) × (List Int) × Int), fun x => ((x.1, x.2.1, x.2.2, ()), ()), fun (x : (((List (Int × (Int × Int))) × (List Int) × Int × Unit) × Unit)) => (x.1.1, x.1.2.1, x.1.2.2.1), (((Int × Unit) × Unit) ⊕ (Unit × Unit)), fun y => y, fun y => y, camshaftref06_Whole.b1.l n⟩
noncomputable def camshaftref06_Whole.f (n : Nat) (a0 : (List (Int × (Int × Int)))) : Option Int := (camshaftref06_Match.f n a0).bind fun y1 => (if (y1.2 != 0) then (some y1.2) else ((camshaftref06_Whole.b0.l n (a0, y1.1, 0)).bind fun y2 => ((Sum.elim (fun (z3 : ((Int × Unit) × Unit)) => (some z3.1.1)) (fun (z4 : (((List (Int × (Int × Int))) × (List Int) × Unit) × Unit)) => ((camshaftref06_Whole.b1.l n (z4.1.1, z4.1.2.1, 0)).bind fun y12 => ((Sum.elim (fun (z13 : ((Int × Unit) × Unit)) => (some z13.1.1)) (fun (z14 : (Unit × Unit)) => (some 0))) y12)))) y2)))
noncomputable def camshaftref06_Whole.fs (n : Nat) : FS := ⟨⟨[.val (.sl (.pair (.int .i64) (.pair (.int .i64) (.int .i64))))], []⟩, ⟨[.val (.int .i64)], []⟩, Int, fun y => ((y, ()), ()), fun o => o.1.1, fun x => camshaftref06_Whole.f n x.1.1⟩
theorem camshaftref06_Whole.b0.e (n : Nat) : ∀ F x, evLoop (c46 n) 14 76 0 5 (camshaftref06_Whole.b0.L n) F x = camshaftref06_Whole.b0 n F x.1 x.2.1 x.2.2 := fun F x => by kernel_rfl
noncomputable def camshaftref06_Whole.b0.c (n : Nat) : Cx := Cx.addLoop (c46 n) 76 5 (camshaftref06_Whole.b0.L n)
theorem camshaftref06_Whole.b0.g (n : Nat) : Good (camshaftref06_Whole.b0.c n) := Good.loop (g46 n) 14 0 (by kernel_rfl) (camshaftref06_Whole.b0.e n) n (fun _ => rfl) (fun _ => rfl) (fun _ => rfl) rfl
theorem camshaftref06_Whole.b1.e (n : Nat) : ∀ F x, evLoop (camshaftref06_Whole.b0.c n) 14 76 0 10 (camshaftref06_Whole.b1.L n) F x = camshaftref06_Whole.b1 n F x.1 x.2.1 x.2.2 := fun F x => by kernel_rfl
noncomputable def camshaftref06_Whole.b1.c (n : Nat) : Cx := Cx.addLoop (camshaftref06_Whole.b0.c n) 76 10 (camshaftref06_Whole.b1.L n)
theorem camshaftref06_Whole.b1.g (n : Nat) : Good (camshaftref06_Whole.b1.c n) := Good.loop (camshaftref06_Whole.b0.g n) 14 0 (by kernel_rfl) (camshaftref06_Whole.b1.e n) n (fun _ => rfl) (fun _ => rfl) (fun _ => rfl) rfl
theorem camshaftref06_Whole.e (n : Nat) : FnEq (camshaftref06_Whole.b1.c n) 14 76 0 (camshaftref06_Whole.fs n) := fun x => by kernel_rfl
noncomputable def c47 (n : Nat) : Cx := (Cx.bare (camshaftref06_Whole.b1.c n)).addSpec 76 (camshaftref06_Whole.fs n)
theorem g47 (n : Nat) : Good (c47 n) := Good.fn (camshaftref06_Whole.b1.g n) 14 0 (camshaftref06_Whole.e n) (fun _ => rfl) rfl
/-! ### camshaftref06_within: function 89 -/
noncomputable def camshaftref06_within.f (n : Nat) (a0 : (List Int)) (a1 : Int) (a2 : Int) : Option Bool := if (decide (a1 < a2)) then (if (decide (0 ≤ a1) && decide (a1 < (a0.length : Int))) then (some (decide ((a0.getD a1.toNat (0 : Int)) ≥ a2))) else none) else (some false)
noncomputable def camshaftref06_within.fs (n : Nat) : FS := ⟨⟨[.val (.sl (.int .i64)), .val (.int .i64), .val (.int .i64)], []⟩, ⟨[.val .bool], []⟩, Bool, fun y => ((y, ()), ()), fun o => o.1.1, fun x => camshaftref06_within.f n x.1.1 x.1.2.1 x.1.2.2.1⟩
theorem camshaftref06_within.e (n : Nat) : FnEq (c47 n) 14 89 0 (camshaftref06_within.fs n) := fun x => by kernel_rfl
noncomputable def c48 (n : Nat) : Cx := (Cx.bare (c47 n)).addSpec 89 (camshaftref06_within.fs n)
theorem g48 (n : Nat) : Good (c48 n) := Good.fn (g47 n) 14 0 (camshaftref06_within.e n) (fun _ => rfl) rfl
end Go.Proofs.Dk

/- What the functions of the program do, read off their text. -/
namespace Go.Proofs.Dk
open Go
set_option maxRecDepth 100000
set_option linter.unusedVariables false
/-! ### camshaftref06_bad: function 77 -/
noncomputable def camshaftref06_bad.j0 (n : Nat) (v24 : (List (Int × (Int × Int)))) (v25 : (List Int)) (v26 : Int) (v27 : Bool) (v28 : Int) (v29 : Int) (v30 : Int) (v31 : Int) : Option ((((Bool × Unit) × ((Int × Int × Int × Unit) × Unit)) ⊕ (((List (Int × (Int × Int))) × (List Int) × Int × Bool × Int × Unit) × ((Int × Int × Int × Unit) × Unit)))) := if (v29 == 23) then (if (decide (0 ≤ v28) && decide (v28 < (v24.length : Int))) then (if ((v24.getD v28.toNat ((0 : Int), ((0 : Int), (0 : Int)))).1 == 24) then (some (.inl ((true, ()), ((v29, v30, v31, ()), ())))) else ((camshaftref06_within.f n v25 v28 v26).bind fun y32 => (if y32 then (if (decide (0 ≤ v28) && decide (v28 < (v24.length : Int))) then (if ((v24.getD v28.toNat ((0 : Int), ((0 : Int), (0 : Int)))).1 == 21) then (some (.inl ((true, ()), ((v29, v30, v31, ()), ())))) else (if (decide (0 ≤ v28) && decide (v28 < (v24.length : Int))) then (if ((v24.getD v28.toNat ((0 : Int), ((0 : Int), (0 : Int)))).1 == 23) then (if (decide (0 ≤ v28) && decide (v28 < (v24.length : Int))) then (if (decide ((v24.getD v28.toNat ((0 : Int), ((0 : Int), (0 : Int)))).2.1 ≥ v30)) then (some (.inl ((true, ()), ((v29, v30, v31, ()), ())))) else (some (.inr ((v24, v25, v26, v27, v28, ()), ((v29, v30, v31, ()), ()))))) else none) else (some (.inr ((v24, v25, v26, v27, v28, ()), ((v29, v30, v31, ()), ()))))) else none)) else none) else (some (.inr ((v24, v25, v26, v27, v28, ()), ((v29, v30, v31, ()), ()))))))) else none) else (some (.inr ((v24, v25, v26, v27, v28, ()), ((v29, v30, v31, ()), ()))))
noncomputable def camshaftref06_bad.j0.L (n : Nat) : Loop := ⟨⟨ofs 97 0 [(0, .val (.sl (.pair (.int .i64) (.pair (.int .i64) (.int .i64))))), (1, .val (.sl (.int .i64))), (2, .val (.int .i64)), (7, .obj 0), (8, .val .bool), (9, .val (.int .i64))], [[.val (.int .i64), .val (.int .i64), .val (.int .i64)]]⟩, [(.ret, ⟨ofs 97 0 [(6, .val .bool)], [[.val (.int .i64), .val (.int .i64), .val (.int .i64)]]⟩), (.norm, ⟨ofs 97 0 [(0, .val (.sl (.pair (.int .i64) (.pair (.int .i64) (.int .i64))))), (1, .val (.sl (.int .i64))), (2, .val (.int .i64)), (7, .obj 0), (8, .val .bool), (9, .val (.int .i64))], [[.val (.int .i64), .val (.int .i64), .val (.int .i64)]]⟩)], ((List (Int × (Int × Int))) × (List Int) × Int × Bool × Int × Int × Int × Int), fun x => ((x.1, x.2.1, x.2.2.1, x.2.2.2.1, x.2.2.2.2.1, ()), ((x.2.2.2.2.2.1, x.2.2.2.2.2.2.1, x.2.2.2.2.2.2.2, ()), ())), fun (x : (((List (Int × (Int × Int))) × (List Int) × Int × Bool × Int × Unit) × ((Int × Int × Int × Unit) × Unit))) => (x.1.1, x.1.2.1, x.1.2.2.1, x.1.2.2.2.1, x.1.2.2.2.2.1, x.2.1.1, x.2.1.2.1, x.2.1.2.2.1), (((Bool × Unit) × ((Int × Int × Int × Unit) × Unit)) ⊕ (((List (Int × (Int × Int))) × (List Int) × Int × Bool × Int × Unit) × ((Int × Int × Int × Unit) × Unit))), fun y => y, fun y => y, fun x => camshaftref06_bad.j0 n x.1 x.2.1 x.2.2.1 x.2.2.2.1 x.2.2.2.2.1 x.2.2.2.2.2.1 x.2.2.2.2.2.2.1 x.2.2.2.2.2.2.2⟩
noncomputable def camshaftref06_bad.b1 (n : Nat) (F : ((List (Int × (Int × Int))) × (List Int) × Int × Bool × Int × Int × Int × Int) → Option ((((Bool × Unit) × ((Int × Int × Int × Unit) × Unit)) ⊕ ((Bool × Unit) × ((Int × Int × Int × Unit) × Unit))))) (v8 : (List (Int × (Int × Int)))) (v9 : (List Int)) (v10 : Int) (v11 : Bool) (v12 : Int) (v13 : Int) (v14 : Int) (v15 : Int) : Option ((((Bool × Unit) × ((Int × Int × Int × Unit) × Unit)) ⊕ ((Bool × Unit) × ((Int × Int × Int × Unit) × Unit)))) := if (decide (v12 < v10)) then ((camshaftref06_bad.j0 n v8 v9 v10 v11 v12 v13 v14 v15).bind fun y16 => ((Sum.elim (fun (z17 : ((Bool × Unit) × ((Int × Int × Int × Unit) × Unit))) => (some (.inl ((z17.1.1, ()), ((z17.2.1.1, z17.2.1.2.1, z17.2.1.2.2.1, ()), ()))))) (fun (z18 : (((List (Int × (Int × Int))) × (List Int) × Int × Bool × Int × Unit) × ((Int × Int × Int × Unit) × Unit))) => (if z18.1.2.2.2.1 then (F (z18.1.1, z18.1.2.1, z18.1.2.2.1, true, (IntKind.wrap .i64 (z18.1.2.2.2.2.1 + 1)), z18.2.1.1, z18.2.1.2.1, z18.2.1.2.2.1)) else (if (decide (0 ≤ z18.1.2.2.2.2.1) && decide (z18.1.2.2.2.2.1 < (z18.1.1.length : Int))) then (if ((z18.1.1.getD z18.1.2.2.2.2.1.toNat ((0 : Int), ((0 : Int), (0 : Int)))).1 == 23) then (if (decide (0 ≤ z18.1.2.2.2.2.1) && decide (z18.1.2.2.2.2.1 < (z18.1.1.length : Int))) then (if ((z18.1.1.getD z18.1.2.2.2.2.1.toNat ((0 : Int), ((0 : Int), (0 : Int)))).2.1 == z18.2.1.2.1) then ((camshaftref06_within.f n z18.1.2.1 z18.1.2.2.2.2.1 z18.1.2.2.1).bind fun y19 => (F (z18.1.1, z18.1.2.1, z18.1.2.2.1, y19, (IntKind.wrap .i64 (z18.1.2.2.2.2.1 + 1)), z18.2.1.1, z18.2.1.2.1, z18.2.1.2.2.1))) else (F (z18.1.1, z18.1.2.1, z18.1.2.2.1, false, (IntKind.wrap .i64 (z18.1.2.2.2.2.1 + 1)), z18.2.1.1, z18.2.1.2.1, z18.2.1.2.2.1))) else none) else (F (z18.1.1, z18.1.2.1, z18.1.2.2.1, false, (IntKind.wrap .i64 (z18.1.2.2.2.2.1 + 1)), z18.2.1.1, z18.2.1.2.1, z18.2.1.2.2.1))) else none)))) y16)) else (some (.inr ((v11, ()), ((v13, v14, v15, ()), ()))))
noncomputable def camshaftref06_bad.b1.l (n : Nat) : ((List (Int × (Int × Int))) × (List Int) × Int × Bool × Int × Int × Int × Int) → Option ((((Bool × Unit) × ((Int × Int × Int × Unit) × Unit)) ⊕ ((Bool × Unit) × ((Int × Int × Int × Unit) × Unit))))   := it (fun F x => camshaftref06_bad.b1 n F x.1 x.2.1 x.2.2.1 x.2.2.2.1 x.2.2.2.2.1 x.2.2.2.2.2.1 x.2.2.2.2.2.2.1 x.2.2.2.2.2.2.2) n
noncomputable def camshaftref06_bad.b1.L (n : Nat) : Loop := ⟨⟨ofs 97 0 [(0, .val (.sl (.pair (.int .i64) (.pair (.int .i64) (.int .i64))))), (1, .val (.sl (.int .i64))), (2, .val (.int .i64)), (7, .obj 0), (8, .val .bool), (9, .val (.int .i64))], [[.val (.int .i64), .val (.int .i64), .val (.int .i64)]]⟩, [(.ret, ⟨ofs 97 0 [(6, .val .bool)], [[.val (.int .i64), .val (.int .i64), .val (.int .i64)]]⟩), (.exit 0, ⟨ofs 97 0 [(7, .obj 0), (8, .val .bool)], [[.val (.int .i64), .val (.int .i64), .val (.int .i64)]]⟩)], ((List (Int × (Int × Int))) × (List Int) × Int × Bool × Int × Int × Int × Int), fun x => ((x.1, x.2.1, x.2.2.1, x.2.2.2.1, x.2.2.2.2.1, ()), ((x.2.2.2.2.2.1, x.2.2.2.2.2.2.1, x.2.2.2.2.2.2.2, ()), ())), fun (x : (((List (Int × (Int × Int))) × (List Int) × Int × Bool × Int × Unit) × ((Int × Int × Int × Unit) × Unit))) => (x.1.1, x.1.2.1, x.1.2.2.1, x.1.2.2.2.1, x.1.2.2.2.2.1, x.2.1.1, x.2.1.2.1, x.2.1.2.2.1), (((Bool × Unit) × ((Int × Int × Int × Unit) × Unit)) ⊕ ((Bool × Unit) × ((Int × Int × Int × Unit) × Unit))), fun y => y, fun y => y, camshaftref06_bad.b1.l n⟩
noncomputable def camshaftref06_bad.f (n : Nat) (a0 : (List (Int × (Int × Int)))) (a1 : (List Int)) (a2 : Int) : Option Bool := if (decide (0 ≤ a2) && decide (a2 < (a0.length : Int))) then ((camshaftref06_bad.b1.l n (a0, a1, a2, false, 0, (a0.getD a2.toNat ((0 : Int), ((0 : Int), (0 : Int)))).1, (a0.getD a2.toNat ((0 : Int), ((0 : Int), (0 : Int)))).2.1, (a0.getD a2.toNat ((0 : Int), ((0 : Int), (0 : Int)))).2.2)).bind fun y1 => ((Sum.elim (fun (z2 : ((Bool × Unit) × ((Int × Int × Int × Unit) × Unit))) => (some z2.1.1)) (fun (z3 : ((Bool × Unit) × ((Int × Int × Int × Unit) × Unit))) => (if (z3.2.1.1 == 17) then (some (!z3.1.1)) else (if (z3.2.1.1 == 18) then (some (!z3.1.1)) else (some false))))) y1)) else none
noncomputable def camshaftref06_bad.fs (n : Nat) : FS := ⟨⟨[.val (.sl (.pair (.int .i64) (.pair (.int .i64) (.int .i64)))), .val (.sl (.int .i64)), .val (.int .i64)], []⟩, ⟨[.val .bool], []⟩, Bool, fun y => ((y, ()), ()), fun o => o.1.1, fun x => camshaftref06_bad.f n x.1.1 x.1.2.1 x.1.2.2.1⟩
theorem camshaftref06_bad.j0.e (n : Nat) : ∀ x, evJoin (c48 n) 14 77 0 1000009 (camshaftref06_bad.j0.L n) x = (camshaftref06_bad.j0.L n).fn x := fun x => by kernel_rfl
noncomputable def camshaftref06_bad.j0.c (n : Nat) : Cx := Cx.addLoop (c48 n) 77 1000009 (camshaftref06_bad.j0.L n)
theorem camshaftref06_bad.j0.g (n : Nat) : Good (camshaftref06_bad.j0.c n) := Good.join (g48 n) 14 0 (by kernel_rfl) (camshaftref06_bad.j0.e n) (fun _ => rfl) (fun _ => rfl) rfl
theorem camshaftref06_bad.b1.e (n : Nat) : ∀ F x, evLoop (camshaftref06_bad.j0.c n) 14 77 0 4 (camshaftref06_bad.b1.L n) F x = camshaftref06_bad.b1 n F x.1 x.2.1 x.2.2.1 x.2.2.2.1 x.2.2.2.2.1 x.2.2.2.2.2.1 x.2.2.2.2.2.2.1 x.2.2.2.2.2.2.2 := fun F x => by kernel_rfl
noncomputable def camshaftref06_bad.b1.c (n : Nat) : Cx := Cx.addLoop (camshaftref06_bad.j0.c n) 77 4 (camshaftref06_bad.b1.L n)
theorem camshaftref06_bad.b1.g (n : Nat) : Good (camshaftref06_bad.b1.c n) := Good.loop (camshaftref06_bad.j0.g n) 14 0 (by kernel_rfl) (camshaftref06_bad.b1.e n) n (fun _ => rfl) (fun _ => rfl) (fun _ => rfl) rfl
theorem camshaftref06_bad.e (n : Nat) : FnEq (camshaftref06_bad.b1.c n) 14 77 0 (camshaftref06_bad.fs n) := fun x => by kernel_rfl
noncomputable def c49 (n : Nat) : Cx := (Cx.bare (camshaftref06_bad.b1.c n)).addSpec 77 (camshaftref06_bad.fs n)
theorem g49 (n : Nat) : Good (c49 n) := Good.fn (camshaftref06_bad.b1.g n) 14 0 (camshaftref06_bad.e n) (fun _ => rfl) rfl
/-! ### camshaftref06_Locks: function 66 -/
noncomputable def camshaftref06_Locks.b0 (n : Nat) (F : ((List (Int × (Int × Int))) × (List Int) × (List Int) × Int) → Option (((((List Int) × Int × Unit) × Unit) ⊕ (((List Int) × Unit) × Unit)))) (v6 : (List (Int × (Int × Int)))) (v7 : (List Int)) (v8 : (List Int)) (v9 : Int) : Option (((((List Int) × Int × Unit) × Unit) ⊕ (((List Int) × Unit) × Unit))) := if (decide (v9 < (v6.length : Int))) then ((camshaftref06_bad.f n v6 v7 v9).bind fun y10 => (if y10 then (some (.inl (([], 11, ()), ()))) else (if (decide (0 ≤ v9) && decide (v9 < (v6.length : Int))) then (if ((v6.getD v9.toNat ((0 : Int), ((0 : Int), (0 : Int)))).1 == 23) then (if (decide (0 ≤ v9) && decide (v9 < (v6.length : Int))) then (if (decide ((v8.length + 1) * 8 ≤ 140737488355328) && decide (1 ≤ 8)) then (F (v6, v7, (v8 ++ [(v6.getD v9.toNat ((0 : Int), ((0 : Int), (0 : Int)))).2.1]), (IntKind.wrap .i64 (v9 + 1)))) else none) else none) else (F (v6, v7, v8, (IntKind.wrap .i64 (v9 + 1))))) else none))) else (some (.inr ((v8, ()), ())))
noncomputable def camshaftref06_Locks.b0.l (n : Nat) : ((List (Int × (Int × Int))) × (List Int) × (List Int) × Int) → Option (((((List Int) × Int × Unit) × Unit) ⊕ (((List Int) × Unit) × Unit)))   := it (fun F x => camshaftref06_Locks.b0 n F x.1 x.2.1 x.2.2.1 x.2.2.2) n
noncomputable def camshaftref06_Locks.b0.L (n : Nat) : Loop := ⟨⟨ofs 44 0 [(0, .val (.sl (.pair (.int .i64) (.pair (.int .i64) (.int .i64))))), (5, .val (.sl (.int .i64))), (7, .row 3 (.int .i64)), (8, .val (.int .i64))], []⟩, [(.ret, ⟨ofs 44 0 [(2, .row 3 (.int .i64)), (3, .val (.int .i64))], []⟩), (.exit 0, ⟨ofs 44 0 [(7, .row 3 (.int .i64))], []⟩)], ((List (Int × (Int × Int))) × (List Int) × (List Int) × Int), fun x => ((x.1, x.2.1, x.2.2.1, x.2.2.2, ()), ()), fun (x : (((List (Int × (Int × Int))) × (List Int) × (List Int) × Int × Unit) × Unit)) => (x.1.1, x.1.2.1, x.1.2.2.1, x.1.2.2.2.1), ((((List Int) × Int × Unit) × Unit) ⊕ (((List Int) × Unit) × Unit)), fun y => y, fun y => y, camshaftref06_Locks.b0.l n⟩
noncomputable def camshaftref06_Locks.f (n : Nat) (a0 : (List (Int × (Int × Int)))) : Option ((List Int) × Int) := (camshaftref06_Whole.f n a0).bind fun y1 => (if (y1 != 0) then (some ([], y1)) else ((camshaftref06_Match.f n a0).bind fun y2 => ((camshaftref06_Locks.b0.l n (a0, y2.1, [], 0)).bind fun y3 => ((Sum.elim (fun (z4 : (((List Int) × Int × Unit) × Unit)) => (some (z4.1.1, z4.1.2.1))) (fun (z5 : (((List Int) × Unit) × Unit)) => (some (z5.1.1, 0)))) y3))))
noncomputable def camshaftref06_Locks.fs (n : Nat) : FS := ⟨⟨[.val (.sl (.pair (.int .i64) (.pair (.int .i64) (.int .i64))))], []⟩, ⟨[.val (.sl (.int .i64)), .val (.int .i64)], []⟩, ((List Int) × Int), fun y => ((y.1, y.2, ()), ()), fun o => (o.1.1, o.1.2.1), fun x => camshaftref06_Locks.f n x.1.1⟩
theorem camshaftref06_Locks.b0.e (n : Nat) : ∀ F x, evLoop (c49 n) 14 66 0 7 (camshaftref06_Locks.b0.L n) F x = camshaftref06_Locks.b0 n F x.1 x.2.1 x.2.2.1 x.2.2.2 := fun F x => by kernel_rfl
noncomputable def camshaftref06_Locks.b0.c (n : Nat) : Cx := Cx.addLoop (c49 n) 66 7 (camshaftref06_Locks.b0.L n)
theorem camshaftref06_Locks.b0.g (n : Nat) : Good (camshaftref06_Locks.b0.c n) := Good.loop (g49 n) 14 0 (by kernel_rfl) (camshaftref06_Locks.b0.e n) n (fun _ => rfl) (fun _ => rfl) (fun _ => rfl) rfl
theorem camshaftref06_Locks.e (n : Nat) : FnEq (camshaftref06_Locks.b0.c n) 14 66 0 (camshaftref06_Locks.fs n) := fun x => by kernel_rfl
noncomputable def c50 (n : Nat) : Cx := (Cx.bare (camshaftref06_Locks.b0.c n)).addSpec 66 (camshaftref06_Locks.fs n)
theorem g50 (n : Nat) : Good (c50 n) := Good.fn (camshaftref06_Locks.b0.g n) 14 0 (camshaftref06_Locks.e n) (fun _ => rfl) rfl
/-! ### camshaftref07_Takes: function 78 -/
noncomputable def camshaftref07_Takes.f (n : Nat) (a0 : (Int × (Int × Int))) : Option ByteArray := (camshaftref04_Right.f n (a0.1, (a0.2.1, a0.2.2))).bind fun y1 => (if (!y1) then (some (ByteArray.mk #[])) else (if (decide (0 ≤ (IntKind.wrap .i64 (a0.1 - 1))) && decide ((IntKind.wrap .i64 (a0.1 - 1)) < 25)) then (some ([(ByteArray.mk #[]), (ByteArray.mk #[32]), (ByteArray.mk #[32]), (ByteArray.mk #[32, 32]), (ByteArray.mk #[105, 105]), (ByteArray.mk #[105]), (ByteArray.mk #[98]), (ByteArray.mk #[98, 98]), (ByteArray.mk #[98, 98]), (ByteArray.mk #[98]), (ByteArray.mk #[]), (ByteArray.mk #[105]), (ByteArray.mk #[]), (ByteArray.mk #[105]), (ByteArray.mk #[]), (ByteArray.mk #[105]), (ByteArray.mk #[]), (ByteArray.mk #[105]), (ByteArray.mk #[]), (ByteArray.mk #[98]), (ByteArray.mk #[]), (ByteArray.mk #[]), (ByteArray.mk #[]), (ByteArray.mk #[]), (ByteArray.mk #[])].getD ((IntKind.wrap .i64 (a0.1 - 1))).toNat ByteArray.empty)) else none))
noncomputable def camshaftref07_Takes.fs (n : Nat) : FS := ⟨⟨[.val (.pair (.int .i64) (.pair (.int .i64) (.int .i64)))], []⟩, ⟨[.val .str], []⟩, ByteArray, fun y => ((y, ()), ()), fun o => o.1.1, fun x => camshaftref07_Takes.f n x.1.1⟩
theorem camshaftref07_Takes.e (n : Nat) : FnEq (c50 n) 14 78 0 (camshaftref07_Takes.fs n) := fun x => by kernel_rfl
noncomputable def c51 (n : Nat) : Cx := (Cx.bare (c50 n)).addSpec 78 (camshaftref07_Takes.fs n)
theorem g51 (n : Nat) : Good (c51 n) := Good.fn (g50 n) 14 0 (camshaftref07_Takes.e n) (fun _ => rfl) rfl
/-! ### camshaftref07_fits: function 79 -/
noncomputable def camshaftref07_fits.b0 (n : Nat) (F : (ByteArray × ByteArray × Int) → Option ((((Bool × Unit) × Unit) ⊕ (Unit × Unit)))) (v1 : ByteArray) (v2 : ByteArray) (v3 : Int) : Option ((((Bool × Unit) × Unit) ⊕ (Unit × Unit))) := if (decide (v3 < (v2.size : Int))) then (if (decide (0 ≤ v3) && decide (v3 < (v2.size : Int))) then (if ((bt v2 v3) != 32) then (if (decide (0 ≤ v3) && decide (v3 < (v2.size : Int))) then (if (decide (0 ≤ v3) && decide (v3 < (v1.size : Int))) then (if ((bt v2 v3) != (bt v1 v3)) then (some (.inl ((false, ()), ()))) else (F (v1, v2, (IntKind.wrap .i64 (v3 + 1))))) else none) else none) else (F (v1, v2, (IntKind.wrap .i64 (v3 + 1))))) else none) else (some (.inr ((), ())))
noncomputable def camshaftref07_fits.b0.l (n : Nat) : (ByteArray × ByteArray × Int) → Option ((((Bool × Unit) × Unit) ⊕ (Unit × Unit)))   := it (fun F x => camshaftref07_fits.b0 n F x.1 x.2.1 x.2.2) n
noncomputable def camshaftref07_fits.b0.L (n : Nat) : Loop := ⟨⟨ofs 30 0 [(0, .val .str), (1, .val .str), (5, .val (.int .i64))], []⟩, [(.ret, ⟨ofs 30 0 [(4, .val .bool)], []⟩), (.exit 0, ⟨ofs 30 0 [], []⟩)], (ByteArray × ByteArray × Int), fun x => ((x.1, x.2.1, x.2.2, ()), ()), fun (x : ((ByteArray × ByteArray × Int × Unit) × Unit)) => (x.1.1, x.1.2.1, x.1.2.2.1), (((Bool × Unit) × Unit) ⊕ (Unit × Unit)), fun y => y, fun y => y, camshaftref07_fits.b0.l n⟩
noncomputable def camshaftref07_fits.f (n : Nat) (a0 : ByteArray) (a1 : ByteArray) : Option Bool := if ((a0.size : Int) != (a1.size : Int)) then (some false) else ((camshaftref07_fits.b0.l n (a0, a1, 0)).bind fun y4 => ((Sum.elim (fun (z5 : ((Bool × Unit) × Unit)) => (some z5.1.1)) (fun (z6 : (Unit × Unit)) => (some true))) y4))
noncomputable def camshaftref07_fits.fs (n : Nat) : FS := ⟨⟨[.val .str, .val .str], []⟩, ⟨[.val .bool], []⟩, Bool, fun y => ((y, ()), ()), fun o => o.1.1, fun x => camshaftref07_fits.f n x.1.1 x.1.2.1⟩
theorem camshaftref07_fits.b0.e (n : Nat) : ∀ F x, evLoop (c51 n) 14 79 0 4 (camshaftref07_fits.b0.L n) F x = camshaftref07_fits.b0 n F x.1 x.2.1 x.2.2 := fun F x => by kernel_rfl
noncomputable def camshaftref07_fits.b0.c (n : Nat) : Cx := Cx.addLoop (c51 n) 79 4 (camshaftref07_fits.b0.L n)
theorem camshaftref07_fits.b0.g (n : Nat) : Good (camshaftref07_fits.b0.c n) := Good.loop (g51 n) 14 0 (by kernel_rfl) (camshaftref07_fits.b0.e n) n (fun _ => rfl) (fun _ => rfl) (fun _ => rfl) rfl
theorem camshaftref07_fits.e (n : Nat) : FnEq (camshaftref07_fits.b0.c n) 14 79 0 (camshaftref07_fits.fs n) := fun x => by kernel_rfl
noncomputable def c52 (n : Nat) : Cx := (Cx.bare (camshaftref07_fits.b0.c n)).addSpec 79 (camshaftref07_fits.fs n)
theorem g52 (n : Nat) : Good (c52 n) := Good.fn (camshaftref07_fits.b0.g n) 14 0 (camshaftref07_fits.e n) (fun _ => rfl) rfl
/-! ### camshaftref07_Gives: function 80 -/
noncomputable def camshaftref07_Gives.f (n : Nat) (a0 : (Int × (Int × Int))) (a1 : ByteArray) : Option ByteArray := (camshaftref04_Right.f n (a0.1, (a0.2.1, a0.2.2))).bind fun y1 => (if (!y1) then (some (ByteArray.mk #[])) else ((camshaftref07_Takes.f n (a0.1, (a0.2.1, a0.2.2))).bind fun y2 => ((camshaftref07_fits.f n a1 y2).bind fun y3 => (if (!y3) then (some (ByteArray.mk #[])) else (if (a0.1 == 1) then (some (ByteArray.mk #[105])) else (if (a0.1 == 6) then (some (ByteArray.mk #[105])) else (if (a0.1 == 10) then (some (ByteArray.mk #[105])) else (if (a0.1 == 11) then (some (ByteArray.mk #[105])) else (if (a0.1 == 13) then (some (ByteArray.mk #[105])) else (if (a0.1 == 15) then (some (ByteArray.mk #[105])) else (if (a0.1 == 17) then (some (ByteArray.mk #[105])) else (if (a0.1 == 3) then (if decide (a1.size + a1.size ≤ 140737488351232) then (some (a1 ++ a1)) else none) else (if (a0.1 == 4) then (if (decide (0 ≤ 1) && decide (1 ≤ (a1.size : Int))) then (if (decide (0 ≤ 1) && decide (1 ≤ (a1.size : Int))) then (if decide ((a1.extract 1 a1.size).size + (a1.extract 0 1).size ≤ 140737488351232) then (some ((a1.extract 1 a1.size) ++ (a1.extract 0 1))) else none) else none) else none) else (if (a0.1 == 5) then (if (decide (a0.2.1 ≥ 11)) then (some (ByteArray.mk #[98])) else (some (ByteArray.mk #[105]))) else (if (a0.1 == 7) then (some (ByteArray.mk #[98])) else (if (a0.1 == 8) then (some (ByteArray.mk #[98])) else (if (a0.1 == 9) then (some (ByteArray.mk #[98])) else (some (ByteArray.mk #[])))))))))))))))))))
noncomputable def camshaftref07_Gives.fs (n : Nat) : FS := ⟨⟨[.val (.pair (.int .i64) (.pair (.int .i64) (.int .i64))), .val .str], []⟩, ⟨[.val .str], []⟩, ByteArray, fun y => ((y, ()), ()), fun o => o.1.1, fun x => camshaftref07_Gives.f n x.1.1 x.1.2.1⟩
theorem camshaftref07_Gives.e (n : Nat) : FnEq (c52 n) 14 80 0 (camshaftref07_Gives.fs n) := fun x => by kernel_rfl
noncomputable def c53 (n : Nat) : Cx := (Cx.bare (c52 n)).addSpec 80 (camshaftref07_Gives.fs n)
theorem g53 (n : Nat) : Good (c53 n) := Good.fn (g52 n) 14 0 (camshaftref07_Gives.e n) (fun _ => rfl) rfl
/-! ### camshaftref07_nexts: function 81 -/
noncomputable def camshaftref07_nexts.f (n : Nat) (a0 : (List (Int × (Int × Int)))) (a1 : Int) : Option (List Int) := if (decide (0 ≤ a1) && decide (a1 < (a0.length : Int))) then (if ((a0.getD a1.toNat ((0 : Int), ((0 : Int), (0 : Int)))).1 == 19) then (if (decide (0 ≤ a1) && decide (a1 < (a0.length : Int))) then (some [(IntKind.wrap .i64 ((IntKind.wrap .i64 (a1 + 1)) + (a0.getD a1.toNat ((0 : Int), ((0 : Int), (0 : Int)))).2.1))]) else none) else (if ((a0.getD a1.toNat ((0 : Int), ((0 : Int), (0 : Int)))).1 == 20) then (if (decide (0 ≤ a1) && decide (a1 < (a0.length : Int))) then (some [(IntKind.wrap .i64 (a1 + 1)), (IntKind.wrap .i64 ((IntKind.wrap .i64 (a1 + 1)) + (a0.getD a1.toNat ((0 : Int), ((0 : Int), (0 : Int)))).2.1))]) else none) else (if ((a0.getD a1.toNat ((0 : Int), ((0 : Int), (0 : Int)))).1 == 25) then (some []) else (some [(IntKind.wrap .i64 (a1 + 1))])))) else none
noncomputable def camshaftref07_nexts.fs (n : Nat) : FS := ⟨⟨[.val (.sl (.pair (.int .i64) (.pair (.int .i64) (.int .i64)))), .val (.int .i64)], []⟩, ⟨[.val (.sl (.int .i64))], []⟩, (List Int), fun y => ((y, ()), ()), fun o => o.1.1, fun x => camshaftref07_nexts.f n x.1.1 x.1.2.1⟩
theorem camshaftref07_nexts.e (n : Nat) : FnEq (c53 n) 14 81 0 (camshaftref07_nexts.fs n) := fun x => by kernel_rfl
noncomputable def c54 (n : Nat) : Cx := (Cx.bare (c53 n)).addSpec 81 (camshaftref07_nexts.fs n)
theorem g54 (n : Nat) : Good (c54 n) := Good.fn (g53 n) 14 0 (camshaftref07_nexts.e n) (fun _ => rfl) rfl
/-! ### camshaftref07_Stacks: function 67 -/
noncomputable def camshaftref07_Stacks.j0 (n : Nat) (v20 : (List (Int × (Int × Int)))) (v21 : (List Int)) (v22 : (List ByteArray)) (v23 : (List Bool)) (v24 : (List Bool)) (v25 : Int) : Option (((((List ByteArray) × Int × Unit) × Unit) ⊕ (((List (Int × (Int × Int))) × (List Int) × (List ByteArray) × (List Bool) × (List Bool) × Int × Unit) × Unit))) := if (decide (0 ≤ v25) && decide (v25 < (v24.length : Int))) then (if (v24.getD v25.toNat false) then (some (.inl (([], 10, ()), ()))) else (if (decide (0 ≤ v25) && decide (v25 < (v20.length : Int))) then (if ((v20.getD v25.toNat ((0 : Int), ((0 : Int), (0 : Int)))).1 == 22) then (if (decide (0 ≤ v25) && decide (v25 < (v22.length : Int))) then (if (decide (0 ≤ v25) && decide (v25 < (v21.length : Int))) then (if (decide (0 ≤ (v21.getD v25.toNat (0 : Int))) && decide ((v21.getD v25.toNat (0 : Int)) < (v22.length : Int))) then (if (!((v22.getD v25.toNat ByteArray.empty).toList == (v22.getD ((v21.getD v25.toNat (0 : Int))).toNat ByteArray.empty).toList)) then (some (.inl (([], 10, ()), ()))) else (some (.inr ((v20, v21, v22, v23, v24, v25, ()), ())))) else none) else none) else none) else (some (.inr ((v20, v21, v22, v23, v24, v25, ()), ())))) else none)) else none
noncomputable def camshaftref07_Stacks.j0.L (n : Nat) : Loop := ⟨⟨ofs 174 0 [(0, .val (.sl (.pair (.int .i64) (.pair (.int .i64) (.int .i64))))), (5, .val (.sl (.int .i64))), (7, .row 9 .str), (8, .row 4 .bool), (9, .row 4 .bool), (10, .val (.int .i64))], []⟩, [(.ret, ⟨ofs 174 0 [(2, .row 9 .str), (3, .val (.int .i64))], []⟩), (.norm, ⟨ofs 174 0 [(0, .val (.sl (.pair (.int .i64) (.pair (.int .i64) (.int .i64))))), (5, .val (.sl (.int .i64))), (7, .row 9 .str), (8, .row 4 .bool), (9, .row 4 .bool), (10, .val (.int .i64))], []⟩)], ((List (Int × (Int × Int))) × (List Int) × (List ByteArray) × (List Bool) × (List Bool) × Int), fun x => ((x.1, x.2.1, x.2.2.1, x.2.2.2.1, x.2.2.2.2.1, x.2.2.2.2.2, ()), ()), fun (x : (((List (Int × (Int × Int))) × (List Int) × (List ByteArray) × (List Bool) × (List Bool) × Int × Unit) × Unit)) => (x.1.1, x.1.2.1, x.1.2.2.1, x.1.2.2.2.1, x.1.2.2.2.2.1, x.1.2.2.2.2.2.1), ((((List ByteArray) × Int × Unit) × Unit) ⊕ (((List (Int × (Int × Int))) × (List Int) × (List ByteArray) × (List Bool) × (List Bool) × Int × Unit) × Unit)), fun y => y, fun y => y, fun x => camshaftref07_Stacks.j0 n x.1 x.2.1 x.2.2.1 x.2.2.2.1 x.2.2.2.2.1 x.2.2.2.2.2⟩
noncomputable def camshaftref07_Stacks.b1 (n : Nat) (F : ((List (Int × (Int × Int))) × (List Int) × (List ByteArray) × (List Bool) × (List Bool) × Int × ByteArray × (List Int) × Int) → Option (((List (Int × (Int × Int))) × (List Int) × (List ByteArray) × (List Bool) × (List Bool) × Int))) (v28 : (List (Int × (Int × Int)))) (v29 : (List Int)) (v30 : (List ByteArray)) (v31 : (List Bool)) (v32 : (List Bool)) (v33 : Int) (v34 : ByteArray) (v35 : (List Int)) (v36 : Int) : Option (((List (Int × (Int × Int))) × (List Int) × (List ByteArray) × (List Bool) × (List Bool) × Int)) := if (decide (v36 < (v35.length : Int))) then (if (decide (0 ≤ v36) && decide (v36 < (v35.length : Int))) then (if (decide (0 ≤ v36) && decide (v36 < (v35.length : Int))) then (if (decide (0 ≤ (v35.getD v36.toNat (0 : Int))) && decide ((v35.getD v36.toNat (0 : Int)) < (v32.length : Int))) then (if (v32.getD ((v35.getD v36.toNat (0 : Int))).toNat false) then (if (decide (0 ≤ (v35.getD v36.toNat (0 : Int))) && decide ((v35.getD v36.toNat (0 : Int)) < (v32.length : Int))) then (if (decide (0 ≤ v36) && decide (v36 < (v35.length : Int))) then (if (decide (0 ≤ (v35.getD v36.toNat (0 : Int))) && decide ((v35.getD v36.toNat (0 : Int)) < (v31.length : Int))) then (if (decide (0 ≤ v36) && decide (v36 < (v35.length : Int))) then (if (decide (0 ≤ (v35.getD v36.toNat (0 : Int))) && decide ((v35.getD v36.toNat (0 : Int)) < (v30.length : Int))) then (F (v28, v29, (v30.set ((v35.getD v36.toNat (0 : Int))).toNat v34), (v31.set ((v35.getD v36.toNat (0 : Int))).toNat true), (v32.set ((v35.getD v36.toNat (0 : Int))).toNat true), v33, v34, v35, (IntKind.wrap .i64 (v36 + 1)))) else none) else none) else none) else none) else none) else (if (decide (0 ≤ v36) && decide (v36 < (v35.length : Int))) then (if (decide (0 ≤ (v35.getD v36.toNat (0 : Int))) && decide ((v35.getD v36.toNat (0 : Int)) < (v31.length : Int))) then (if (v31.getD ((v35.getD v36.toNat (0 : Int))).toNat false) then (if (decide (0 ≤ v36) && decide (v36 < (v35.length : Int))) then (if (decide (0 ≤ (v35.getD v36.toNat (0 : Int))) && decide ((v35.getD v36.toNat (0 : Int)) < (v30.length : Int))) then (if (decide (0 ≤ (v35.getD v36.toNat (0 : Int))) && decide ((v35.getD v36.toNat (0 : Int)) < (v32.length : Int))) then (if (decide (0 ≤ v36) && decide (v36 < (v35.length : Int))) then (if (decide (0 ≤ (v35.getD v36.toNat (0 : Int))) && decide ((v35.getD v36.toNat (0 : Int)) < (v31.length : Int))) then (if (decide (0 ≤ v36) && decide (v36 < (v35.length : Int))) then (if (decide (0 ≤ (v35.getD v36.toNat (0 : Int))) && decide ((v35.getD v36.toNat (0 : Int)) < (v30.length : Int))) then (F (v28, v29, (v30.set ((v35.getD v36.toNat (0 : Int))).toNat v34), (v31.set ((v35.getD v36.toNat (0 : Int))).toNat true), (v32.set ((v35.getD v36.toNat (0 : Int))).toNat (!((v30.getD ((v35.getD v36.toNat (0 : Int))).toNat ByteArray.empty).toList == v34.toList))), v33, v34, v35, (IntKind.wrap .i64 (v36 + 1)))) else none) else none) else none) else none) else none) else none) else none) else (if (decide (0 ≤ (v35.getD v36.toNat (0 : Int))) && decide ((v35.getD v36.toNat (0 : Int)) < (v32.length : Int))) then (if (decide (0 ≤ v36) && decide (v36 < (v35.length : Int))) then (if (decide (0 ≤ (v35.getD v36.toNat (0 : Int))) && decide ((v35.getD v36.toNat (0 : Int)) < (v31.length : Int))) then (if (decide (0 ≤ v36) && decide (v36 < (v35.length : Int))) then (if (decide (0 ≤ (v35.getD v36.toNat (0 : Int))) && decide ((v35.getD v36.toNat (0 : Int)) < (v30.length : Int))) then (F (v28, v29, (v30.set ((v35.getD v36.toNat (0 : Int))).toNat v34), (v31.set ((v35.getD v36.toNat (0 : Int))).toNat true), (v32.set ((v35.getD v36.toNat (0 : Int))).toNat false), v33, v34, v35, (IntKind.wrap .i64 (v36 + 1)))) else none) else none) else none) else none) else none)) else none) else none)) else none) else none) else none) else (some (v28, v29, v30, v31, v32, v33))
noncomputable def camshaftref07_Stacks.b1.l (n : Nat) : ((List (Int × (Int × Int))) × (List Int) × (List ByteArray) × (List Bool) × (List Bool) × Int × ByteArray × (List Int) × Int) → Option (((List (Int × (Int × Int))) × (List Int) × (List ByteArray) × (List Bool) × (List Bool) × Int))   := it (fun F x => camshaftref07_Stacks.b1 n F x.1 x.2.1 x.2.2.1 x.2.2.2.1 x.2.2.2.2.1 x.2.2.2.2.2.1 x.2.2.2.2.2.2.1 x.2.2.2.2.2.2.2.1 x.2.2.2.2.2.2.2.2) n
noncomputable def camshaftref07_Stacks.b1.L (n : Nat) : Loop := ⟨⟨ofs 174 0 [(0, .val (.sl (.pair (.int .i64) (.pair (.int .i64) (.int .i64))))), (5, .val (.sl (.int .i64))), (7, .row 9 .str), (8, .row 4 .bool), (9, .row 4 .bool), (10, .val (.int .i64)), (13, .val .str), (14, .val (.sl (.int .i64))), (15, .val (.int .i64))], []⟩, [(.exit 2, ⟨ofs 174 0 [(0, .val (.sl (.pair (.int .i64) (.pair (.int .i64) (.int .i64))))), (5, .val (.sl (.int .i64))), (7, .row 9 .str), (8, .row 4 .bool), (9, .row 4 .bool), (10, .val (.int .i64))], []⟩)], ((List (Int × (Int × Int))) × (List Int) × (List ByteArray) × (List Bool) × (List Bool) × Int × ByteArray × (List Int) × Int), fun x => ((x.1, x.2.1, x.2.2.1, x.2.2.2.1, x.2.2.2.2.1, x.2.2.2.2.2.1, x.2.2.2.2.2.2.1, x.2.2.2.2.2.2.2.1, x.2.2.2.2.2.2.2.2, ()), ()), fun (x : (((List (Int × (Int × Int))) × (List Int) × (List ByteArray) × (List Bool) × (List Bool) × Int × ByteArray × (List Int) × Int × Unit) × Unit)) => (x.1.1, x.1.2.1, x.1.2.2.1, x.1.2.2.2.1, x.1.2.2.2.2.1, x.1.2.2.2.2.2.1, x.1.2.2.2.2.2.2.1, x.1.2.2.2.2.2.2.2.1, x.1.2.2.2.2.2.2.2.2.1), ((List (Int × (Int × Int))) × (List Int) × (List ByteArray) × (List Bool) × (List Bool) × Int), fun y => ((y.1, y.2.1, y.2.2.1, y.2.2.2.1, y.2.2.2.2.1, y.2.2.2.2.2, ()), ()), fun (o : (((List (Int × (Int × Int))) × (List Int) × (List ByteArray) × (List Bool) × (List Bool) × Int × Unit) × Unit)) => (o.1.1, o.1.2.1, o.1.2.2.1, o.1.2.2.2.1, o.1.2.2.2.2.1, o.1.2.2.2.2.2.1), camshaftref07_Stacks.b1.l n⟩
noncomputable def camshaftref07_Stacks.b2 (n : Nat) (F : ((List (Int × (Int × Int))) × (List Int) × (List ByteArray) × (List Bool) × (List Bool) × Int) → Option (((((List ByteArray) × Int × Unit) × Unit) ⊕ (((List ByteArray) × Unit) × Unit)))) (v8 : (List (Int × (Int × Int)))) (v9 : (List Int)) (v10 : (List ByteArray)) (v11 : (List Bool)) (v12 : (List Bool)) (v13 : Int) : Option (((((List ByteArray) × Int × Unit) × Unit) ⊕ (((List ByteArray) × Unit) × Unit))) := if (decide (v13 < (v8.length : Int))) then (if (decide (0 ≤ v13) && decide (v13 < (v11.length : Int))) then (if (!(v11.getD v13.toNat false)) then (some (.inl (([], 8, ()), ()))) else ((camshaftref07_Stacks.j0 n v8 v9 v10 v11 v12 v13).bind fun y14 => ((Sum.elim (fun (z15 : (((List ByteArray) × Int × Unit) × Unit)) => (some (.inl ((z15.1.1, z15.1.2.1, ()), ())))) (fun (z16 : (((List (Int × (Int × Int))) × (List Int) × (List ByteArray) × (List Bool) × (List Bool) × Int × Unit) × Unit)) => (if (decide (0 ≤ z16.1.2.2.2.2.2.1) && decide (z16.1.2.2.2.2.2.1 < (z16.1.2.2.1.length : Int))) then (if (decide (0 ≤ z16.1.2.2.2.2.2.1) && decide (z16.1.2.2.2.2.2.1 < (z16.1.1.length : Int))) then ((camshaftref07_Takes.f n ((z16.1.1.getD z16.1.2.2.2.2.2.1.toNat ((0 : Int), ((0 : Int), (0 : Int)))).1, ((z16.1.1.getD z16.1.2.2.2.2.2.1.toNat ((0 : Int), ((0 : Int), (0 : Int)))).2.1, (z16.1.1.getD z16.1.2.2.2.2.2.1.toNat ((0 : Int), ((0 : Int), (0 : Int)))).2.2))).bind fun y17 => (if (decide ((IntKind.wrap .i64 ((((z16.1.2.2.1.getD z16.1.2.2.2.2.2.1.toNat ByteArray.empty).size : Nat) : Int) - (y17.size : Int))) < 0)) then (some (.inl (([], 9, ()), ()))) else (if (decide (0 ≤ z16.1.2.2.2.2.2.1) && decide (z16.1.2.2.2.2.2.1 < (z16.1.2.2.1.length : Int))) then (if (decide (0 ≤ (IntKind.wrap .i64 ((((z16.1.2.2.1.getD z16.1.2.2.2.2.2.1.toNat ByteArray.empty).size : Nat) : Int) - (y17.size : Int)))) && decide ((IntKind.wrap .i64 ((((z16.1.2.2.1.getD z16.1.2.2.2.2.2.1.toNat ByteArray.empty).size : Nat) : Int) - (y17.size : Int))) ≤ (((z16.1.2.2.1.getD z16.1.2.2.2.2.2.1.toNat ByteArray.empty).size : Nat) : Int))) then (if (decide (0 ≤ z16.1.2.2.2.2.2.1) && decide (z16.1.2.2.2.2.2.1 < (z16.1.1.length : Int))) then ((camshaftref07_Takes.f n ((z16.1.1.getD z16.1.2.2.2.2.2.1.toNat ((0 : Int), ((0 : Int), (0 : Int)))).1, ((z16.1.1.getD z16.1.2.2.2.2.2.1.toNat ((0 : Int), ((0 : Int), (0 : Int)))).2.1, (z16.1.1.getD z16.1.2.2.2.2.2.1.toNat ((0 : Int), ((0 : Int), (0 : Int)))).2.2))).bind fun y18 => ((camshaftref07_fits.f n ((z16.1.2.2.1.getD z16.1.2.2.2.2.2.1.toNat ByteArray.empty).extract ((IntKind.wrap .i64 ((((z16.1.2.2.1.getD z16.1.2.2.2.2.2.1.toNat ByteArray.empty).size : Nat) : Int) - (y17.size : Int)))).toNat (z16.1.2.2.1.getD z16.1.2.2.2.2.2.1.toNat ByteArray.empty).size) y18).bind fun y19 => (if (!y19) then (some (.inl (([], 10, ()), ()))) else (if (decide (0 ≤ z16.1.2.2.2.2.2.1) && decide (z16.1.2.2.2.2.2.1 < (z16.1.2.2.1.length : Int))) then (if (decide (0 ≤ (IntKind.wrap .i64 ((((z16.1.2.2.1.getD z16.1.2.2.2.2.2.1.toNat ByteArray.empty).size : Nat) : Int) - (y17.size : Int)))) && decide ((IntKind.wrap .i64 ((((z16.1.2.2.1.getD z16.1.2.2.2.2.2.1.toNat ByteArray.empty).size : Nat) : Int) - (y17.size : Int))) ≤ (((z16.1.2.2.1.getD z16.1.2.2.2.2.2.1.toNat ByteArray.empty).size : Nat) : Int))) then (if (decide (0 ≤ z16.1.2.2.2.2.2.1) && decide (z16.1.2.2.2.2.2.1 < (z16.1.1.length : Int))) then ((camshaftref07_Gives.f n ((z16.1.1.getD z16.1.2.2.2.2.2.1.toNat ((0 : Int), ((0 : Int), (0 : Int)))).1, ((z16.1.1.getD z16.1.2.2.2.2.2.1.toNat ((0 : Int), ((0 : Int), (0 : Int)))).2.1, (z16.1.1.getD z16.1.2.2.2.2.2.1.toNat ((0 : Int), ((0 : Int), (0 : Int)))).2.2)) ((z16.1.2.2.1.getD z16.1.2.2.2.2.2.1.toNat ByteArray.empty).extract ((IntKind.wrap .i64 ((((z16.1.2.2.1.getD z16.1.2.2.2.2.2.1.toNat ByteArray.empty).size : Nat) : Int) - (y17.size : Int)))).toNat (z16.1.2.2.1.getD z16.1.2.2.2.2.2.1.toNat ByteArray.empty).size)).bind fun y20 => (if decide (((z16.1.2.2.1.getD z16.1.2.2.2.2.2.1.toNat ByteArray.empty).extract 0 ((IntKind.wrap .i64 ((((z16.1.2.2.1.getD z16.1.2.2.2.2.2.1.toNat ByteArray.empty).size : Nat) : Int) - (y17.size : Int)))).toNat).size + y20.size ≤ 140737488351232) then (if (decide ((((((z16.1.2.2.1.getD z16.1.2.2.2.2.2.1.toNat ByteArray.empty).extract 0 ((IntKind.wrap .i64 ((((z16.1.2.2.1.getD z16.1.2.2.2.2.2.1.toNat ByteArray.empty).size : Nat) : Int) - (y17.size : Int)))).toNat) ++ y20).size : Nat) : Int) > 16)) then (some (.inl (([], 9, ()), ()))) else ((camshaftref07_nexts.f n z16.1.1 z16.1.2.2.2.2.2.1).bind fun y21 => ((camshaftref07_Stacks.b1.l n (z16.1.1, z16.1.2.1, z16.1.2.2.1, z16.1.2.2.2.1, z16.1.2.2.2.2.1, z16.1.2.2.2.2.2.1, (((z16.1.2.2.1.getD z16.1.2.2.2.2.2.1.toNat ByteArray.empty).extract 0 ((IntKind.wrap .i64 ((((z16.1.2.2.1.getD z16.1.2.2.2.2.2.1.toNat ByteArray.empty).size : Nat) : Int) - (y17.size : Int)))).toNat) ++ y20), y21, 0)).bind fun y22 => (F (y22.1, y22.2.1, y22.2.2.1, y22.2.2.2.1, y22.2.2.2.2.1, (IntKind.wrap .i64 (y22.2.2.2.2.2 + 1))))))) else none)) else none) else none) else none)))) else none) else none) else none))) else none) else none))) y14))) else none) else (some (.inr ((v10, ()), ())))
noncomputable def camshaftref07_Stacks.b2.l (n : Nat) : ((List (Int × (Int × Int))) × (List Int) × (List ByteArray) × (List Bool) × (List Bool) × Int) → Option (((((List ByteArray) × Int × Unit) × Unit) ⊕ (((List ByteArray) × Unit) × Unit)))   := it (fun F x => camshaftref07_Stacks.b2 n F x.1 x.2.1 x.2.2.1 x.2.2.2.1 x.2.2.2.2.1 x.2.2.2.2.2) n
noncomputable def camshaftref07_Stacks.b2.L (n : Nat) : Loop := ⟨⟨ofs 174 0 [(0, .val (.sl (.pair (.int .i64) (.pair (.int .i64) (.int .i64))))), (5, .val (.sl (.int .i64))), (7, .row 9 .str), (8, .row 4 .bool), (9, .row 4 .bool), (10, .val (.int .i64))], []⟩, [(.ret, ⟨ofs 174 0 [(2, .row 9 .str), (3, .val (.int .i64))], []⟩), (.exit 0, ⟨ofs 174 0 [(7, .row 9 .str)], []⟩)], ((List (Int × (Int × Int))) × (List Int) × (List ByteArray) × (List Bool) × (List Bool) × Int), fun x => ((x.1, x.2.1, x.2.2.1, x.2.2.2.1, x.2.2.2.2.1, x.2.2.2.2.2, ()), ()), fun (x : (((List (Int × (Int × Int))) × (List Int) × (List ByteArray) × (List Bool) × (List Bool) × Int × Unit) × Unit)) => (x.1.1, x.1.2.1, x.1.2.2.1, x.1.2.2.2.1, x.1.2.2.2.2.1, x.1.2.2.2.2.2.1), ((((List ByteArray) × Int × Unit) × Unit) ⊕ (((List ByteArray) × Unit) × Unit)), fun y => y, fun y => y, camshaftref07_Stacks.b2.l n⟩
noncomputable def camshaftref07_Stacks.f (n : Nat) (a0 : (List (Int × (Int × Int)))) : Option ((List ByteArray) × Int) := (camshaftref06_Whole.f n a0).bind fun y1 => (if (y1 != 0) then (some ([], y1)) else ((camshaftref06_Match.f n a0).bind fun y2 => (if (decide (0 ≤ (a0.length : Int)) && ((a0.length : Int) == (a0.length : Int)) && decide ((a0.length : Int) * (16 : Int) ≤ 140737488355328) && decide (1 ≤ 16)) then (if (decide (0 ≤ (a0.length : Int)) && ((a0.length : Int) == (a0.length : Int)) && decide ((a0.length : Int) * (1 : Int) ≤ 140737488355328) && decide (1 ≤ 1)) then (if (decide (0 ≤ (a0.length : Int)) && ((a0.length : Int) == (a0.length : Int)) && decide ((a0.length : Int) * (1 : Int) ≤ 140737488355328) && decide (1 ≤ 1)) then (if (decide (0 ≤ 0) && decide (0 < (((List.replicate ((a0.length : Int)).toNat false).length : Nat) : Int))) then ((camshaftref07_Stacks.b2.l n (a0, y2.1, (List.replicate ((a0.length : Int)).toNat ByteArray.empty), ((List.replicate ((a0.length : Int)).toNat false).set 0 true), (List.replicate ((a0.length : Int)).toNat false), 0)).bind fun y3 => ((Sum.elim (fun (z4 : (((List ByteArray) × Int × Unit) × Unit)) => (some (z4.1.1, z4.1.2.1))) (fun (z5 : (((List ByteArray) × Unit) × Unit)) => (some (z5.1.1, 0)))) y3)) else none) else none) else none) else none)))
noncomputable def camshaftref07_Stacks.fs (n : Nat) : FS := ⟨⟨[.val (.sl (.pair (.int .i64) (.pair (.int .i64) (.int .i64))))], []⟩, ⟨[.val (.sl .str), .val (.int .i64)], []⟩, ((List ByteArray) × Int), fun y => ((y.1, y.2, ()), ()), fun o => (o.1.1, o.1.2.1), fun x => camshaftref07_Stacks.f n x.1.1⟩
theorem camshaftref07_Stacks.j0.e (n : Nat) : ∀ x, evJoin (c54 n) 14 67 0 1000016 (camshaftref07_Stacks.j0.L n) x = (camshaftref07_Stacks.j0.L n).fn x := fun x => by kernel_rfl
noncomputable def camshaftref07_Stacks.j0.c (n : Nat) : Cx := Cx.addLoop (c54 n) 67 1000016 (camshaftref07_Stacks.j0.L n)
theorem camshaftref07_Stacks.j0.g (n : Nat) : Good (camshaftref07_Stacks.j0.c n) := Good.join (g54 n) 14 0 (by kernel_rfl) (camshaftref07_Stacks.j0.e n) (fun _ => rfl) (fun _ => rfl) rfl
theorem camshaftref07_Stacks.b1.e (n : Nat) : ∀ F x, evLoop (camshaftref07_Stacks.j0.c n) 14 67 0 27 (camshaftref07_Stacks.b1.L n) F x = camshaftref07_Stacks.b1 n F x.1 x.2.1 x.2.2.1 x.2.2.2.1 x.2.2.2.2.1 x.2.2.2.2.2.1 x.2.2.2.2.2.2.1 x.2.2.2.2.2.2.2.1 x.2.2.2.2.2.2.2.2 := fun F x => by kernel_rfl
noncomputable def camshaftref07_Stacks.b1.c (n : Nat) : Cx := Cx.addLoop (camshaftref07_Stacks.j0.c n) 67 27 (camshaftref07_Stacks.b1.L n)
theorem camshaftref07_Stacks.b1.g (n : Nat) : Good (camshaftref07_Stacks.b1.c n) := Good.loop (camshaftref07_Stacks.j0.g n) 14 0 (by kernel_rfl) (camshaftref07_Stacks.b1.e n) n (fun _ => rfl) (fun _ => rfl) (fun _ => rfl) rfl
theorem camshaftref07_Stacks.b2.e (n : Nat) : ∀ F x, evLoop (camshaftref07_Stacks.b1.c n) 14 67 0 10 (camshaftref07_Stacks.b2.L n) F x = camshaftref07_Stacks.b2 n F x.1 x.2.1 x.2.2.1 x.2.2.2.1 x.2.2.2.2.1 x.2.2.2.2.2 := fun F x => by kernel_rfl
noncomputable def camshaftref07_Stacks.b2.c (n : Nat) : Cx := Cx.addLoop (camshaftref07_Stacks.b1.c n) 67 10 (camshaftref07_Stacks.b2.L n)
theorem camshaftref07_Stacks.b2.g (n : Nat) : Good (camshaftref07_Stacks.b2.c n) := Good.loop (camshaftref07_Stacks.b1.g n) 14 0 (by kernel_rfl) (camshaftref07_Stacks.b2.e n) n (fun _ => rfl) (fun _ => rfl) (fun _ => rfl) rfl
theorem camshaftref07_Stacks.e (n : Nat) : FnEq (camshaftref07_Stacks.b2.c n) 14 67 0 (camshaftref07_Stacks.fs n) := fun x => by kernel_rfl
noncomputable def c55 (n : Nat) : Cx := (Cx.bare (camshaftref07_Stacks.b2.c n)).addSpec 67 (camshaftref07_Stacks.fs n)
theorem g55 (n : Nat) : Good (c55 n) := Good.fn (camshaftref07_Stacks.b2.g n) 14 0 (camshaftref07_Stacks.e n) (fun _ => rfl) rfl
/-! ### camshaftref09_bad: function 55 -/
noncomputable def camshaftref09_bad.f (n : Nat) (a0 : (List (Int × (Int × Int)))) : Option Int := (camshaftref06_Locks.f n a0).bind fun y1 => (if (y1.2 != 0) then (some y1.2) else ((camshaftref07_Stacks.f n a0).bind fun y2 => (some y2.2)))
noncomputable def camshaftref09_bad.fs (n : Nat) : FS := ⟨⟨[.val (.sl (.pair (.int .i64) (.pair (.int .i64) (.int .i64))))], []⟩, ⟨[.val (.int .i64)], []⟩, Int, fun y => ((y, ()), ()), fun o => o.1.1, fun x => camshaftref09_bad.f n x.1.1⟩
theorem camshaftref09_bad.e (n : Nat) : FnEq (c55 n) 14 55 0 (camshaftref09_bad.fs n) := fun x => by kernel_rfl
noncomputable def c56 (n : Nat) : Cx := (Cx.bare (c55 n)).addSpec 55 (camshaftref09_bad.fs n)
theorem g56 (n : Nat) : Good (c56 n) := Good.fn (g55 n) 14 0 (camshaftref09_bad.e n) (fun _ => rfl) rfl
/-! ### camshaftref09_cut: function 65 -/
noncomputable def camshaftref09_cut.f (n : Nat) (a0 : Int) : Option Int := some (if 1048577 < a0 then 1048577 else a0)
noncomputable def camshaftref09_cut.fs (n : Nat) : FS := ⟨⟨[.val (.int .i64)], []⟩, ⟨[.val (.int .i64)], []⟩, Int, fun y => ((y, ()), ()), fun o => o.1.1, fun x => camshaftref09_cut.f n x.1.1⟩
theorem camshaftref09_cut.e (n : Nat) : FnEq (c56 n) 14 65 0 (camshaftref09_cut.fs n) := fun x => by kernel_rfl
noncomputable def c57 (n : Nat) : Cx := (Cx.bare (c56 n)).addSpec 65 (camshaftref09_cut.fs n)
theorem g57 (n : Nat) : Good (c57 n) := Good.fn (g56 n) 14 0 (camshaftref09_cut.e n) (fun _ => rfl) rfl
end Go.Proofs.Dk

/- What the functions of the program do, read off their text. -/
namespace Go.Proofs.Dk
open Go
set_option maxRecDepth 100000
set_option linter.unusedVariables false
noncomputable def camshaftref09_way.r0 : FS := ⟨⟨[.val (.sl (.pair (.int .i64) (.pair (.int .i64) (.int .i64)))), .val (.sl (.int .i64)), .val (.int .i64), .val (.int .i64), .val .bool], []⟩, ⟨[.val (.int .i64)], []⟩, Int, fun y => ((y, ()), ()), fun o => o.1.1, fun _ => none⟩
noncomputable def camshaftref09_way.r (n : Nat) (W : (((List (Int × (Int × Int))) × (List Int) × Int × Int × Bool × Unit) × Unit) → Option Int) : Cx := (Cx.bare (c57 n)).addSpec 53 (camshaftref09_way.r0.with W)
/-! ### camshaftref09_way: function 53 -/
noncomputable def camshaftref09_way.j0 (n : Nat) (W : (((List (Int × (Int × Int))) × (List Int) × Int × Int × Bool × Unit) × Unit) → Option Int) (v24 : (List (Int × (Int × Int)))) (v25 : (List Int)) (v26 : Int) (v27 : Int) (v28 : Bool) (v29 : (List Int)) (v30 : (List Bool)) (v31 : Int) (v32 : Int) (v33 : (List Int)) : Option (((List (Int × (Int × Int))) × (List Int) × Int × Int × Bool × (List Int) × (List Bool) × Int × Int × (List Int))) := if (decide (0 ≤ v31) && decide (v31 < (v24.length : Int))) then (if ((v24.getD v31.toNat ((0 : Int), ((0 : Int), (0 : Int)))).1 == 19) then (if (decide (0 ≤ v31) && decide (v31 < (v24.length : Int))) then (some (v24, v25, v26, v27, v28, v29, v30, v31, v32, [(IntKind.wrap .i64 ((IntKind.wrap .i64 (v31 + 1)) + (v24.getD v31.toNat ((0 : Int), ((0 : Int), (0 : Int)))).2.1))])) else none) else (if ((v24.getD v31.toNat ((0 : Int), ((0 : Int), (0 : Int)))).1 == 20) then (if (decide (0 ≤ v31) && decide (v31 < (v24.length : Int))) then (some (v24, v25, v26, v27, v28, v29, v30, v31, v32, [(IntKind.wrap .i64 (v31 + 1)), (IntKind.wrap .i64 ((IntKind.wrap .i64 (v31 + 1)) + (v24.getD v31.toNat ((0 : Int), ((0 : Int), (0 : Int)))).2.1))])) else none) else (if ((v24.getD v31.toNat ((0 : Int), ((0 : Int), (0 : Int)))).1 == 21) then (if (decide (0 ≤ v31) && decide (v31 < (v25.length : Int))) then ((W ((v24, v25, (IntKind.wrap .i64 (v31 + 1)), (v25.getD v31.toNat (0 : Int)), v28, ()), ())).bind fun y34 => (if (decide ((IntKind.wrap .i64 (y34 + 1)) ≤ 1048576)) then (if (decide (0 ≤ v31) && decide (v31 < (v24.length : Int))) then ((camshaftref09_cut.f n (IntKind.wrap .i64 (1 + (IntKind.wrap .i64 ((v24.getD v31.toNat ((0 : Int), ((0 : Int), (0 : Int)))).2.1 * (IntKind.wrap .i64 (y34 + 1))))))).bind fun y35 => (if (decide (0 ≤ v31) && decide (v31 < (v25.length : Int))) then (some (v24, v25, v26, v27, v28, v29, v30, v31, y35, [(IntKind.wrap .i64 ((v25.getD v31.toNat (0 : Int)) + 1))])) else none)) else none) else (if (decide (0 ≤ v31) && decide (v31 < (v25.length : Int))) then (some (v24, v25, v26, v27, v28, v29, v30, v31, 1048577, [(IntKind.wrap .i64 ((v25.getD v31.toNat (0 : Int)) + 1))])) else none))) else none) else (some (v24, v25, v26, v27, v28, v29, v30, v31, v32, v33))))) else none
noncomputable def camshaftref09_way.j0.L (n : Nat) (W : (((List (Int × (Int × Int))) × (List Int) × Int × Int × Bool × Unit) × Unit) → Option Int) : Loop := ⟨⟨ofs 169 0 [(0, .val (.sl (.pair (.int .i64) (.pair (.int .i64) (.int .i64))))), (1, .val (.sl (.int .i64))), (2, .val (.int .i64)), (3, .val (.int .i64)), (4, .val .bool), (11, .row 3 (.int .i64)), (12, .row 4 .bool), (13, .val (.int .i64)), (14, .val (.int .i64)), (15, .row 3 (.int .i64))], []⟩, [(.norm, ⟨ofs 169 0 [(0, .val (.sl (.pair (.int .i64) (.pair (.int .i64) (.int .i64))))), (1, .val (.sl (.int .i64))), (2, .val (.int .i64)), (3, .val (.int .i64)), (4, .val .bool), (11, .row 3 (.int .i64)), (12, .row 4 .bool), (13, .val (.int .i64)), (14, .val (.int .i64)), (15, .row 3 (.int .i64))], []⟩)], ((List (Int × (Int × Int))) × (List Int) × Int × Int × Bool × (List Int) × (List Bool) × Int × Int × (List Int)), fun x => ((x.1, x.2.1, x.2.2.1, x.2.2.2.1, x.2.2.2.2.1, x.2.2.2.2.2.1, x.2.2.2.2.2.2.1, x.2.2.2.2.2.2.2.1, x.2.2.2.2.2.2.2.2.1, x.2.2.2.2.2.2.2.2.2, ()), ()), fun (x : (((List (Int × (Int × Int))) × (List Int) × Int × Int × Bool × (List Int) × (List Bool) × Int × Int × (List Int) × Unit) × Unit)) => (x.1.1, x.1.2.1, x.1.2.2.1, x.1.2.2.2.1, x.1.2.2.2.2.1, x.1.2.2.2.2.2.1, x.1.2.2.2.2.2.2.1, x.1.2.2.2.2.2.2.2.1, x.1.2.2.2.2.2.2.2.2.1, x.1.2.2.2.2.2.2.2.2.2.1), ((List (Int × (Int × Int))) × (List Int) × Int × Int × Bool × (List Int) × (List Bool) × Int × Int × (List Int)), fun y => ((y.1, y.2.1, y.2.2.1, y.2.2.2.1, y.2.2.2.2.1, y.2.2.2.2.2.1, y.2.2.2.2.2.2.1, y.2.2.2.2.2.2.2.1, y.2.2.2.2.2.2.2.2.1, y.2.2.2.2.2.2.2.2.2, ()), ()), fun (o : (((List (Int × (Int × Int))) × (List Int) × Int × Int × Bool × (List Int) × (List Bool) × Int × Int × (List Int) × Unit) × Unit)) => (o.1.1, o.1.2.1, o.1.2.2.1, o.1.2.2.2.1, o.1.2.2.2.2.1, o.1.2.2.2.2.2.1, o.1.2.2.2.2.2.2.1, o.1.2.2.2.2.2.2.2.1, o.1.2.2.2.2.2.2.2.2.1, o.1.2.2.2.2.2.2.2.2.2.1), fun x => camshaftref09_way.j0 n W x.1 x.2.1 x.2.2.1 x.2.2.2.1 x.2.2.2.2.1 x.2.2.2.2.2.1 x.2.2.2.2.2.2.1 x.2.2.2.2.2.2.2.1 x.2.2.2.2.2.2.2.2.1 x.2.2.2.2.2.2.2.2.2⟩
noncomputable def camshaftref09_way.j1 (n : Nat) (W : (((List (Int × (Int × Int))) × (List Int) × Int × Int × Bool × Unit) × Unit) → Option Int) (v36 : (List (Int × (Int × Int)))) (v37 : (List Int)) (v38 : Int) (v39 : Int) (v40 : Bool) (v41 : (List Int)) (v42 : (List Bool)) (v43 : Int) (v44 : Int) (v45 : (List Int)) (v46 : Int) : Option (((List (Int × (Int × Int))) × (List Int) × Int × Int × Bool × (List Int) × (List Bool) × Int × Int × (List Int) × Int)) := if (decide (0 ≤ v46) && decide (v46 < (v45.length : Int))) then (if (decide (0 ≤ (IntKind.wrap .i64 (v43 - v38))) && decide ((IntKind.wrap .i64 (v43 - v38)) < (v41.length : Int))) then ((camshaftref09_cut.f n (IntKind.wrap .i64 ((v41.getD ((IntKind.wrap .i64 (v43 - v38))).toNat (0 : Int)) + v44))).bind fun y47 => (if (decide (0 ≤ (IntKind.wrap .i64 ((v45.getD v46.toNat (0 : Int)) - v38))) && decide ((IntKind.wrap .i64 ((v45.getD v46.toNat (0 : Int)) - v38)) < (v42.length : Int))) then (if (!(v42.getD ((IntKind.wrap .i64 ((v45.getD v46.toNat (0 : Int)) - v38))).toNat false)) then (if (decide (0 ≤ (IntKind.wrap .i64 ((v45.getD v46.toNat (0 : Int)) - v38))) && decide ((IntKind.wrap .i64 ((v45.getD v46.toNat (0 : Int)) - v38)) < (v41.length : Int))) then (if (decide (0 ≤ (IntKind.wrap .i64 ((v45.getD v46.toNat (0 : Int)) - v38))) && decide ((IntKind.wrap .i64 ((v45.getD v46.toNat (0 : Int)) - v38)) < (v42.length : Int))) then (some (v36, v37, v38, v39, v40, (v41.set ((IntKind.wrap .i64 ((v45.getD v46.toNat (0 : Int)) - v38))).toNat y47), (v42.set ((IntKind.wrap .i64 ((v45.getD v46.toNat (0 : Int)) - v38))).toNat true), v43, v44, v45, v46)) else none) else none) else (if v40 then (if (decide (0 ≤ (IntKind.wrap .i64 ((v45.getD v46.toNat (0 : Int)) - v38))) && decide ((IntKind.wrap .i64 ((v45.getD v46.toNat (0 : Int)) - v38)) < (v41.length : Int))) then (if (decide (y47 > (v41.getD ((IntKind.wrap .i64 ((v45.getD v46.toNat (0 : Int)) - v38))).toNat (0 : Int)))) then (if (decide (0 ≤ (IntKind.wrap .i64 ((v45.getD v46.toNat (0 : Int)) - v38))) && decide ((IntKind.wrap .i64 ((v45.getD v46.toNat (0 : Int)) - v38)) < (v41.length : Int))) then (if (decide (0 ≤ (IntKind.wrap .i64 ((v45.getD v46.toNat (0 : Int)) - v38))) && decide ((IntKind.wrap .i64 ((v45.getD v46.toNat (0 : Int)) - v38)) < (v42.length : Int))) then (some (v36, v37, v38, v39, v40, (v41.set ((IntKind.wrap .i64 ((v45.getD v46.toNat (0 : Int)) - v38))).toNat y47), (v42.set ((IntKind.wrap .i64 ((v45.getD v46.toNat (0 : Int)) - v38))).toNat true), v43, v44, v45, v46)) else none) else none) else (if (!v40) then (if (decide (0 ≤ (IntKind.wrap .i64 ((v45.getD v46.toNat (0 : Int)) - v38))) && decide ((IntKind.wrap .i64 ((v45.getD v46.toNat (0 : Int)) - v38)) < (v41.length : Int))) then (if (decide (y47 < (v41.getD ((IntKind.wrap .i64 ((v45.getD v46.toNat (0 : Int)) - v38))).toNat (0 : Int)))) then (if (decide (0 ≤ (IntKind.wrap .i64 ((v45.getD v46.toNat (0 : Int)) - v38))) && decide ((IntKind.wrap .i64 ((v45.getD v46.toNat (0 : Int)) - v38)) < (v41.length : Int))) then (if (decide (0 ≤ (IntKind.wrap .i64 ((v45.getD v46.toNat (0 : Int)) - v38))) && decide ((IntKind.wrap .i64 ((v45.getD v46.toNat (0 : Int)) - v38)) < (v42.length : Int))) then (some (v36, v37, v38, v39, v40, (v41.set ((IntKind.wrap .i64 ((v45.getD v46.toNat (0 : Int)) - v38))).toNat y47), (v42.set ((IntKind.wrap .i64 ((v45.getD v46.toNat (0 : Int)) - v38))).toNat true), v43, v44, v45, v46)) else none) else none) else (some (v36, v37, v38, v39, v40, v41, v42, v43, v44, v45, v46))) else none) else (some (v36, v37, v38, v39, v40, v41, v42, v43, v44, v45, v46)))) else none) else (if (!v40) then (if (decide (0 ≤ (IntKind.wrap .i64 ((v45.getD v46.toNat (0 : Int)) - v38))) && decide ((IntKind.wrap .i64 ((v45.getD v46.toNat (0 : Int)) - v38)) < (v41.length : Int))) then (if (decide (y47 < (v41.getD ((IntKind.wrap .i64 ((v45.getD v46.toNat (0 : Int)) - v38))).toNat (0 : Int)))) then (if (decide (0 ≤ (IntKind.wrap .i64 ((v45.getD v46.toNat (0 : Int)) - v38))) && decide ((IntKind.wrap .i64 ((v45.getD v46.toNat (0 : Int)) - v38)) < (v41.length : Int))) then (if (decide (0 ≤ (IntKind.wrap .i64 ((v45.getD v46.toNat (0 : Int)) - v38))) && decide ((IntKind.wrap .i64 ((v45.getD v46.toNat (0 : Int)) - v38)) < (v42.length : Int))) then (some (v36, v37, v38, v39, v40, (v41.set ((IntKind.wrap .i64 ((v45.getD v46.toNat (0 : Int)) - v38))).toNat y47), (v42.set ((IntKind.wrap .i64 ((v45.getD v46.toNat (0 : Int)) - v38))).toNat true), v43, v44, v45, v46)) else none) else none) else (some (v36, v37, v38, v39, v40, v41, v42, v43, v44, v45, v46))) else none) else (some (v36, v37, v38, v39, v40, v41, v42, v43, v44, v45, v46))))) else none)) else none) else none
noncomputable def camshaftref09_way.j1.L (n : Nat) (W : (((List (Int × (Int × Int))) × (List Int) × Int × Int × Bool × Unit) × Unit) → Option Int) : Loop := ⟨⟨ofs 169 0 [(0, .val (.sl (.pair (.int .i64) (.pair (.int .i64) (.int .i64))))), (1, .val (.sl (.int .i64))), (2, .val (.int .i64)), (3, .val (.int .i64)), (4, .val .bool), (11, .row 3 (.int .i64)), (12, .row 4 .bool), (13, .val (.int .i64)), (14, .val (.int .i64)), (15, .row 3 (.int .i64)), (17, .val (.int .i64))], []⟩, [(.norm, ⟨ofs 169 0 [(0, .val (.sl (.pair (.int .i64) (.pair (.int .i64) (.int .i64))))), (1, .val (.sl (.int .i64))), (2, .val (.int .i64)), (3, .val (.int .i64)), (4, .val .bool), (11, .row 3 (.int .i64)), (12, .row 4 .bool), (13, .val (.int .i64)), (14, .val (.int .i64)), (15, .row 3 (.int .i64)), (17, .val (.int .i64))], []⟩)], ((List (Int × (Int × Int))) × (List Int) × Int × Int × Bool × (List Int) × (List Bool) × Int × Int × (List Int) × Int), fun x => ((x.1, x.2.1, x.2.2.1, x.2.2.2.1, x.2.2.2.2.1, x.2.2.2.2.2.1, x.2.2.2.2.2.2.1, x.2.2.2.2.2.2.2.1, x.2.2.2.2.2.2.2.2.1, x.2.2.2.2.2.2.2.2.2.1, x.2.2.2.2.2.2.2.2.2.2, ()), ()), fun (x : (((List (Int × (Int × Int))) × (List Int) × Int × Int × Bool × (List Int) × (List Bool) × Int × Int × (List Int) × Int × Unit) × Unit)) => (x.1.1, x.1.2.1, x.1.2.2.1, x.1.2.2.2.1, x.1.2.2.2.2.1, x.1.2.2.2.2.2.1, x.1.2.2.2.2.2.2.1, x.1.2.2.2.2.2.2.2.1, x.1.2.2.2.2.2.2.2.2.1, x.1.2.2.2.2.2.2.2.2.2.1, x.1.2.2.2.2.2.2.2.2.2.2.1), ((List (Int × (Int × Int))) × (List Int) × Int × Int × Bool × (List Int) × (List Bool) × Int × Int × (List Int) × Int), fun y => ((y.1, y.2.1, y.2.2.1, y.2.2.2.1, y.2.2.2.2.1, y.2.2.2.2.2.1, y.2.2.2.2.2.2.1, y.2.2.2.2.2.2.2.1, y.2.2.2.2.2.2.2.2.1, y.2.2.2.2.2.2.2.2.2.1, y.2.2.2.2.2.2.2.2.2.2, ()), ()), fun (o : (((List (Int × (Int × Int))) × (List Int) × Int × Int × Bool × (List Int) × (List Bool) × Int × Int × (List Int) × Int × Unit) × Unit)) => (o.1.1, o.1.2.1, o.1.2.2.1, o.1.2.2.2.1, o.1.2.2.2.2.1, o.1.2.2.2.2.2.1, o.1.2.2.2.2.2.2.1, o.1.2.2.2.2.2.2.2.1, o.1.2.2.2.2.2.2.2.2.1, o.1.2.2.2.2.2.2.2.2.2.1, o.1.2.2.2.2.2.2.2.2.2.2.1), fun x => camshaftref09_way.j1 n W x.1 x.2.1 x.2.2.1 x.2.2.2.1 x.2.2.2.2.1 x.2.2.2.2.2.1 x.2.2.2.2.2.2.1 x.2.2.2.2.2.2.2.1 x.2.2.2.2.2.2.2.2.1 x.2.2.2.2.2.2.2.2.2.1 x.2.2.2.2.2.2.2.2.2.2⟩
noncomputable def camshaftref09_way.b2 (n : Nat) (W : (((List (Int × (Int × Int))) × (List Int) × Int × Int × Bool × Unit) × Unit) → Option Int) (F : ((List (Int × (Int × Int))) × (List Int) × Int × Int × Bool × (List Int) × (List Bool) × Int × Int × (List Int) × Int) → Option (((List (Int × (Int × Int))) × (List Int) × Int × Int × Bool × (List Int) × (List Bool) × Int))) (v25 : (List (Int × (Int × Int)))) (v26 : (List Int)) (v27 : Int) (v28 : Int) (v29 : Bool) (v30 : (List Int)) (v31 : (List Bool)) (v32 : Int) (v33 : Int) (v34 : (List Int)) (v35 : Int) : Option (((List (Int × (Int × Int))) × (List Int) × Int × Int × Bool × (List Int) × (List Bool) × Int)) := if (decide (v35 < (v34.length : Int))) then ((camshaftref09_way.j1 n W v25 v26 v27 v28 v29 v30 v31 v32 v33 v34 v35).bind fun y36 => (F (y36.1, y36.2.1, y36.2.2.1, y36.2.2.2.1, y36.2.2.2.2.1, y36.2.2.2.2.2.1, y36.2.2.2.2.2.2.1, y36.2.2.2.2.2.2.2.1, y36.2.2.2.2.2.2.2.2.1, y36.2.2.2.2.2.2.2.2.2.1, (IntKind.wrap .i64 (y36.2.2.2.2.2.2.2.2.2.2 + 1))))) else (some (v25, v26, v27, v28, v29, v30, v31, v32))
noncomputable def camshaftref09_way.b2.l (n : Nat) (W : (((List (Int × (Int × Int))) × (List Int) × Int × Int × Bool × Unit) × Unit) → Option Int) : ((List (Int × (Int × Int))) × (List Int) × Int × Int × Bool × (List Int) × (List Bool) × Int × Int × (List Int) × Int) → Option (((List (Int × (Int × Int))) × (List Int) × Int × Int × Bool × (List Int) × (List Bool) × Int))   := it (fun F x => camshaftref09_way.b2 n W F x.1 x.2.1 x.2.2.1 x.2.2.2.1 x.2.2.2.2.1 x.2.2.2.2.2.1 x.2.2.2.2.2.2.1 x.2.2.2.2.2.2.2.1 x.2.2.2.2.2.2.2.2.1 x.2.2.2.2.2.2.2.2.2.1 x.2.2.2.2.2.2.2.2.2.2) n
noncomputable def camshaftref09_way.b2.L (n : Nat) (W : (((List (Int × (Int × Int))) × (List Int) × Int × Int × Bool × Unit) × Unit) → Option Int) : Loop := ⟨⟨ofs 169 0 [(0, .val (.sl (.pair (.int .i64) (.pair (.int .i64) (.int .i64))))), (1, .val (.sl (.int .i64))), (2, .val (.int .i64)), (3, .val (.int .i64)), (4, .val .bool), (11, .row 3 (.int .i64)), (12, .row 4 .bool), (13, .val (.int .i64)), (14, .val (.int .i64)), (15, .row 3 (.int .i64)), (17, .val (.int .i64))], []⟩, [(.exit 3, ⟨ofs 169 0 [(0, .val (.sl (.pair (.int .i64) (.pair (.int .i64) (.int .i64))))), (1, .val (.sl (.int .i64))), (2, .val (.int .i64)), (3, .val (.int .i64)), (4, .val .bool), (11, .row 3 (.int .i64)), (12, .row 4 .bool), (13, .val (.int .i64))], []⟩)], ((List (Int × (Int × Int))) × (List Int) × Int × Int × Bool × (List Int) × (List Bool) × Int × Int × (List Int) × Int), fun x => ((x.1, x.2.1, x.2.2.1, x.2.2.2.1, x.2.2.2.2.1, x.2.2.2.2.2.1, x.2.2.2.2.2.2.1, x.2.2.2.2.2.2.2.1, x.2.2.2.2.2.2.2.2.1, x.2.2.2.2.2.2.2.2.2.1, x.2.2.2.2.2.2.2.2.2.2, ()), ()), fun (x : (((List (Int × (Int × Int))) × (List Int) × Int × Int × Bool × (List Int) × (List Bool) × Int × Int × (List Int) × Int × Unit) × Unit)) => (x.1.1, x.1.2.1, x.1.2.2.1, x.1.2.2.2.1, x.1.2.2.2.2.1, x.1.2.2.2.2.2.1, x.1.2.2.2.2.2.2.1, x.1.2.2.2.2.2.2.2.1, x.1.2.2.2.2.2.2.2.2.1, x.1.2.2.2.2.2.2.2.2.2.1, x.1.2.2.2.2.2.2.2.2.2.2.1), ((List (Int × (Int × Int))) × (List Int) × Int × Int × Bool × (List Int) × (List Bool) × Int), fun y => ((y.1, y.2.1, y.2.2.1, y.2.2.2.1, y.2.2.2.2.1, y.2.2.2.2.2.1, y.2.2.2.2.2.2.1, y.2.2.2.2.2.2.2, ()), ()), fun (o : (((List (Int × (Int × Int))) × (List Int) × Int × Int × Bool × (List Int) × (List Bool) × Int × Unit) × Unit)) => (o.1.1, o.1.2.1, o.1.2.2.1, o.1.2.2.2.1, o.1.2.2.2.2.1, o.1.2.2.2.2.2.1, o.1.2.2.2.2.2.2.1, o.1.2.2.2.2.2.2.2.1), camshaftref09_way.b2.l n W⟩
noncomputable def camshaftref09_way.b3 (n : Nat) (W : (((List (Int × (Int × Int))) × (List Int) × Int × Int × Bool × Unit) × Unit) → Option Int) (F : ((List (Int × (Int × Int))) × (List Int) × Int × Int × Bool × (List Int) × (List Bool) × Int) → Option ((Int × Int × (List Int)))) (v8 : (List (Int × (Int × Int)))) (v9 : (List Int)) (v10 : Int) (v11 : Int) (v12 : Bool) (v13 : (List Int)) (v14 : (List Bool)) (v15 : Int) : Option ((Int × Int × (List Int))) := if (decide (v15 < v11)) then (if (decide (0 ≤ (IntKind.wrap .i64 (v15 - v10))) && decide ((IntKind.wrap .i64 (v15 - v10)) < (v14.length : Int))) then (if (!(v14.getD ((IntKind.wrap .i64 (v15 - v10))).toNat false)) then (F (v8, v9, v10, v11, v12, v13, v14, (IntKind.wrap .i64 (v15 + 1)))) else ((camshaftref09_way.j0 n W v8 v9 v10 v11 v12 v13 v14 v15 1 ([(IntKind.wrap .i64 (v15 + 1))])).bind fun y16 => ((camshaftref09_way.b2.l n W (y16.1, y16.2.1, y16.2.2.1, y16.2.2.2.1, y16.2.2.2.2.1, y16.2.2.2.2.2.1, y16.2.2.2.2.2.2.1, y16.2.2.2.2.2.2.2.1, y16.2.2.2.2.2.2.2.2.1, y16.2.2.2.2.2.2.2.2.2, 0)).bind fun y17 => (F (y17.1, y17.2.1, y17.2.2.1, y17.2.2.2.1, y17.2.2.2.2.1, y17.2.2.2.2.2.1, y17.2.2.2.2.2.2.1, (IntKind.wrap .i64 (y17.2.2.2.2.2.2.2 + 1))))))) else none) else (some (v10, v11, v13))
noncomputable def camshaftref09_way.b3.l (n : Nat) (W : (((List (Int × (Int × Int))) × (List Int) × Int × Int × Bool × Unit) × Unit) → Option Int) : ((List (Int × (Int × Int))) × (List Int) × Int × Int × Bool × (List Int) × (List Bool) × Int) → Option ((Int × Int × (List Int)))   := it (fun F x => camshaftref09_way.b3 n W F x.1 x.2.1 x.2.2.1 x.2.2.2.1 x.2.2.2.2.1 x.2.2.2.2.2.1 x.2.2.2.2.2.2.1 x.2.2.2.2.2.2.2) n
noncomputable def camshaftref09_way.b3.L (n : Nat) (W : (((List (Int × (Int × Int))) × (List Int) × Int × Int × Bool × Unit) × Unit) → Option Int) : Loop := ⟨⟨ofs 169 0 [(0, .val (.sl (.pair (.int .i64) (.pair (.int .i64) (.int .i64))))), (1, .val (.sl (.int .i64))), (2, .val (.int .i64)), (3, .val (.int .i64)), (4, .val .bool), (11, .row 3 (.int .i64)), (12, .row 4 .bool), (13, .val (.int .i64))], []⟩, [(.exit 0, ⟨ofs 169 0 [(2, .val (.int .i64)), (3, .val (.int .i64)), (11, .row 3 (.int .i64))], []⟩)], ((List (Int × (Int × Int))) × (List Int) × Int × Int × Bool × (List Int) × (List Bool) × Int), fun x => ((x.1, x.2.1, x.2.2.1, x.2.2.2.1, x.2.2.2.2.1, x.2.2.2.2.2.1, x.2.2.2.2.2.2.1, x.2.2.2.2.2.2.2, ()), ()), fun (x : (((List (Int × (Int × Int))) × (List Int) × Int × Int × Bool × (List Int) × (List Bool) × Int × Unit) × Unit)) => (x.1.1, x.1.2.1, x.1.2.2.1, x.1.2.2.2.1, x.1.2.2.2.2.1, x.1.2.2.2.2.2.1, x.1.2.2.2.2.2.2.1, x.1.2.2.2.2.2.2.2.1), (Int × Int × (List Int)), fun y => ((y.1, y.2.1, y.2.2, ()), ()), fun (o : ((Int × Int × (List Int) × Unit) × Unit)) => (o.1.1, o.1.2.1, o.1.2.2.1), camshaftref09_way.b3.l n W⟩
theorem camshaftref09_way.j0.e (n : Nat) (W : (((List (Int × (Int × Int))) × (List Int) × Int × Int × Bool × Unit) × Unit) → Option Int) : ∀ x, evJoin (camshaftref09_way.r n W) 14 53 0 1000021 (camshaftref09_way.j0.L n W) x = (camshaftref09_way.j0.L n W).fn x := fun x => by kernel_rfl
noncomputable def camshaftref09_way.j0.c (n : Nat) (W : (((List (Int × (Int × Int))) × (List Int) × Int × Int × Bool × Unit) × Unit) → Option Int) : Cx := Cx.addLoop (camshaftref09_way.r n W) 53 1000021 (camshaftref09_way.j0.L n W)
theorem camshaftref09_way.j0.g (n : Nat) (W : (((List (Int × (Int × Int))) × (List Int) × Int × Int × Bool × Unit) × Unit) → Option Int) (h : Good (camshaftref09_way.r n W)) : Good (camshaftref09_way.j0.c n W) := Good.join (h) 14 0 (by kernel_rfl) (camshaftref09_way.j0.e n W) (fun _ => rfl) (fun _ => rfl) rfl
theorem camshaftref09_way.j1.e (n : Nat) (W : (((List (Int × (Int × Int))) × (List Int) × Int × Int × Bool × Unit) × Unit) → Option Int) : ∀ x, evJoin (camshaftref09_way.j0.c n W) 14 53 0 1000023 (camshaftref09_way.j1.L n W) x = (camshaftref09_way.j1.L n W).fn x := fun x => by kernel_rfl
noncomputable def camshaftref09_way.j1.c (n : Nat) (W : (((List (Int × (Int × Int))) × (List Int) × Int × Int × Bool × Unit) × Unit) → Option Int) : Cx := Cx.addLoop (camshaftref09_way.j0.c n W) 53 1000023 (camshaftref09_way.j1.L n W)
theorem camshaftref09_way.j1.g (n : Nat) (W : (((List (Int × (Int × Int))) × (List Int) × Int × Int × Bool × Unit) × Unit) → Option Int) (h : Good (camshaftref09_way.r n W)) : Good (camshaftref09_way.j1.c n W) := Good.join (camshaftref09_way.j0.g n W h) 14 0 (by kernel_rfl) (camshaftref09_way.j1.e n W) (fun _ => rfl) (fun _ => rfl) rfl
theorem camshaftref09_way.b2.e (n : Nat) (W : (((List (Int × (Int × Int))) × (List Int) × Int × Int × Bool × Unit) × Unit) → Option Int) : ∀ F x, evLoop (camshaftref09_way.j1.c n W) 14 53 0 22 (camshaftref09_way.b2.L n W) F x = camshaftref09_way.b2 n W F x.1 x.2.1 x.2.2.1 x.2.2.2.1 x.2.2.2.2.1 x.2.2.2.2.2.1 x.2.2.2.2.2.2.1 x.2.2.2.2.2.2.2.1 x.2.2.2.2.2.2.2.2.1 x.2.2.2.2.2.2.2.2.2.1 x.2.2.2.2.2.2.2.2.2.2 := fun F x => by kernel_rfl
noncomputable def camshaftref09_way.b2.c (n : Nat) (W : (((List (Int × (Int × Int))) × (List Int) × Int × Int × Bool × Unit) × Unit) → Option Int) : Cx := Cx.addLoop (camshaftref09_way.j1.c n W) 53 22 (camshaftref09_way.b2.L n W)
theorem camshaftref09_way.b2.g (n : Nat) (W : (((List (Int × (Int × Int))) × (List Int) × Int × Int × Bool × Unit) × Unit) → Option Int) (h : Good (camshaftref09_way.r n W)) : Good (camshaftref09_way.b2.c n W) := Good.loop (camshaftref09_way.j1.g n W h) 14 0 (by kernel_rfl) (camshaftref09_way.b2.e n W) n (fun _ => rfl) (fun _ => rfl) (fun _ => rfl) rfl
theorem camshaftref09_way.b3.e (n : Nat) (W : (((List (Int × (Int × Int))) × (List Int) × Int × Int × Bool × Unit) × Unit) → Option Int) : ∀ F x, evLoop (camshaftref09_way.b2.c n W) 14 53 0 5 (camshaftref09_way.b3.L n W) F x = camshaftref09_way.b3 n W F x.1 x.2.1 x.2.2.1 x.2.2.2.1 x.2.2.2.2.1 x.2.2.2.2.2.1 x.2.2.2.2.2.2.1 x.2.2.2.2.2.2.2 := fun F x => by kernel_rfl
noncomputable def camshaftref09_way.b3.c (n : Nat) (W : (((List (Int × (Int × Int))) × (List Int) × Int × Int × Bool × Unit) × Unit) → Option Int) : Cx := Cx.addLoop (camshaftref09_way.b2.c n W) 53 5 (camshaftref09_way.b3.L n W)
theorem camshaftref09_way.b3.g (n : Nat) (W : (((List (Int × (Int × Int))) × (List Int) × Int × Int × Bool × Unit) × Unit) → Option Int) (h : Good (camshaftref09_way.r n W)) : Good (camshaftref09_way.b3.c n W) := Good.loop (camshaftref09_way.b2.g n W h) 14 0 (by kernel_rfl) (camshaftref09_way.b3.e n W) n (fun _ => rfl) (fun _ => rfl) (fun _ => rfl) rfl
noncomputable def camshaftref09_way.s (n : Nat) (W : (((List (Int × (Int × Int))) × (List Int) × Int × Int × Bool × Unit) × Unit) → Option Int) (a0 : (List (Int × (Int × Int)))) (a1 : (List Int)) (a2 : Int) (a3 : Int) (a4 : Bool) : Option Int := if (decide (0 ≤ (IntKind.wrap .i64 ((IntKind.wrap .i64 (a3 - a2)) + 1))) && ((IntKind.wrap .i64 ((IntKind.wrap .i64 (a3 - a2)) + 1)) == (IntKind.wrap .i64 ((IntKind.wrap .i64 (a3 - a2)) + 1))) && decide ((IntKind.wrap .i64 ((IntKind.wrap .i64 (a3 - a2)) + 1)) * (8 : Int) ≤ 140737488355328) && decide (1 ≤ 8)) then (if (decide (0 ≤ (IntKind.wrap .i64 ((IntKind.wrap .i64 (a3 - a2)) + 1))) && ((IntKind.wrap .i64 ((IntKind.wrap .i64 (a3 - a2)) + 1)) == (IntKind.wrap .i64 ((IntKind.wrap .i64 (a3 - a2)) + 1))) && decide ((IntKind.wrap .i64 ((IntKind.wrap .i64 (a3 - a2)) + 1)) * (1 : Int) ≤ 140737488355328) && decide (1 ≤ 1)) then (if (decide (0 ≤ 0) && decide (0 < (((List.replicate ((IntKind.wrap .i64 ((IntKind.wrap .i64 (a3 - a2)) + 1))).toNat false).length : Nat) : Int))) then ((camshaftref09_way.b3.l n W (a0, a1, a2, a3, a4, (List.replicate ((IntKind.wrap .i64 ((IntKind.wrap .i64 (a3 - a2)) + 1))).toNat (0 : Int)), ((List.replicate ((IntKind.wrap .i64 ((IntKind.wrap .i64 (a3 - a2)) + 1))).toNat false).set 0 true), a2)).bind fun y1 => (if (decide (0 ≤ (IntKind.wrap .i64 (y1.2.1 - y1.1))) && decide ((IntKind.wrap .i64 (y1.2.1 - y1.1)) < (y1.2.2.length : Int))) then (some (y1.2.2.getD ((IntKind.wrap .i64 (y1.2.1 - y1.1))).toNat (0 : Int))) else none)) else none) else none) else none
noncomputable def camshaftref09_way.f (n : Nat) (a0 : (List (Int × (Int × Int)))) (a1 : (List Int)) (a2 : Int) (a3 : Int) (a4 : Bool) : Option Int := it (fun (W : (((List (Int × (Int × Int))) × (List Int) × Int × Int × Bool × Unit) × Unit) → Option Int) x => camshaftref09_way.s n W x.1.1 x.1.2.1 x.1.2.2.1 x.1.2.2.2.1 x.1.2.2.2.2.1) n ((a0, a1, a2, a3, a4, ()), ())
noncomputable def camshaftref09_way.fs (n : Nat) : FS := ⟨⟨[.val (.sl (.pair (.int .i64) (.pair (.int .i64) (.int .i64)))), .val (.sl (.int .i64)), .val (.int .i64), .val (.int .i64), .val .bool], []⟩, ⟨[.val (.int .i64)], []⟩, Int, fun y => ((y, ()), ()), fun o => o.1.1, fun x => camshaftref09_way.f n x.1.1 x.1.2.1 x.1.2.2.1 x.1.2.2.2.1 x.1.2.2.2.2.1⟩
theorem camshaftref09_way.e (n : Nat) (W : (((List (Int × (Int × Int))) × (List Int) × Int × Int × Bool × Unit) × Unit) → Option Int) : FnEq (camshaftref09_way.b3.c n W) 14 53 0 ((camshaftref09_way.fs n).with ((fun (W : (((List (Int × (Int × Int))) × (List Int) × Int × Int × Bool × Unit) × Unit) → Option Int) x => camshaftref09_way.s n W x.1.1 x.1.2.1 x.1.2.2.1 x.1.2.2.2.1 x.1.2.2.2.2.1) W)) := fun x => by kernel_rfl
noncomputable def c58 (n : Nat) : Cx := (Cx.bare (c57 n)).addSpec 53 (camshaftref09_way.fs n)
theorem g58 (n : Nat) : Good (c58 n) := Good.fnRec (S := camshaftref09_way.fs n) (step := (fun (W : (((List (Int × (Int × Int))) × (List Int) × Int × Int × Bool × Unit) × Unit) → Option Int) x => camshaftref09_way.s n W x.1.1 x.1.2.1 x.1.2.2.1 x.1.2.2.2.1 x.1.2.2.2.2.1)) (g57 n) (fun x => n) (fun W => camshaftref09_way.b3.c n W) (fun W h => camshaftref09_way.b3.g n W h) (fun _ => rfl) 14 0 (fun W => camshaftref09_way.e n W) (fun _ => rfl) rfl (fun _ => rfl)
/-! ### camshaftref09_all: function 47 -/
noncomputable def camshaftref09_all.f (n : Nat) (a0 : (List (Int × (Int × Int)))) (a1 : Bool) : Option (Int × Int) := (camshaftref09_bad.f n a0).bind fun y1 => (if (y1 != 0) then (some (0, y1)) else ((camshaftref06_Match.f n a0).bind fun y2 => ((camshaftref09_way.f n a0 y2.1 0 (IntKind.wrap .i64 ((a0.length : Int) - 1)) a1).bind fun y3 => (if (decide ((IntKind.wrap .i64 (y3 + 1)) > 1048576)) then (some (0, 4)) else (some ((IntKind.wrap .i64 (y3 + 1)), 0))))))
noncomputable def camshaftref09_all.fs (n : Nat) : FS := ⟨⟨[.val (.sl (.pair (.int .i64) (.pair (.int .i64) (.int .i64)))), .val .bool], []⟩, ⟨[.val (.int .i64), .val (.int .i64)], []⟩, (Int × Int), fun y => ((y.1, y.2, ()), ()), fun o => (o.1.1, o.1.2.1), fun x => camshaftref09_all.f n x.1.1 x.1.2.1⟩
theorem camshaftref09_all.e (n : Nat) : FnEq (c58 n) 14 47 0 (camshaftref09_all.fs n) := fun x => by kernel_rfl
noncomputable def c59 (n : Nat) : Cx := (Cx.bare (c58 n)).addSpec 47 (camshaftref09_all.fs n)
theorem g59 (n : Nat) : Good (c59 n) := Good.fn (g58 n) 14 0 (camshaftref09_all.e n) (fun _ => rfl) rfl
/-! ### camshaftref09_Worst: function 29 -/
noncomputable def camshaftref09_Worst.f (n : Nat) (a0 : (List (Int × (Int × Int)))) : Option (Int × Int) := (camshaftref09_all.f n a0 true).bind fun y1 => (some (y1.1, y1.2))
noncomputable def camshaftref09_Worst.fs (n : Nat) : FS := ⟨⟨[.val (.sl (.pair (.int .i64) (.pair (.int .i64) (.int .i64))))], []⟩, ⟨[.val (.int .i64), .val (.int .i64)], []⟩, (Int × Int), fun y => ((y.1, y.2, ()), ()), fun o => (o.1.1, o.1.2.1), fun x => camshaftref09_Worst.f n x.1.1⟩
theorem camshaftref09_Worst.e (n : Nat) : FnEq (c59 n) 14 29 0 (camshaftref09_Worst.fs n) := fun x => by kernel_rfl
noncomputable def c60 (n : Nat) : Cx := (Cx.bare (c59 n)).addSpec 29 (camshaftref09_Worst.fs n)
theorem g60 (n : Nat) : Good (c60 n) := Good.fn (g59 n) 14 0 (camshaftref09_Worst.e n) (fun _ => rfl) rfl
/-! ### camshaftref09_Best: function 31 -/
noncomputable def camshaftref09_Best.f (n : Nat) (a0 : (List (Int × (Int × Int)))) : Option (Int × Int) := (camshaftref09_all.f n a0 false).bind fun y1 => (some (y1.1, y1.2))
noncomputable def camshaftref09_Best.fs (n : Nat) : FS := ⟨⟨[.val (.sl (.pair (.int .i64) (.pair (.int .i64) (.int .i64))))], []⟩, ⟨[.val (.int .i64), .val (.int .i64)], []⟩, (Int × Int), fun y => ((y.1, y.2, ()), ()), fun o => (o.1.1, o.1.2.1), fun x => camshaftref09_Best.f n x.1.1⟩
theorem camshaftref09_Best.e (n : Nat) : FnEq (c60 n) 14 31 0 (camshaftref09_Best.fs n) := fun x => by kernel_rfl
noncomputable def c61 (n : Nat) : Cx := (Cx.bare (c60 n)).addSpec 31 (camshaftref09_Best.fs n)
theorem g61 (n : Nat) : Good (c61 n) := Good.fn (g60 n) 14 0 (camshaftref09_Best.e n) (fun _ => rfl) rfl
/-! ### camshaftref09_Sections: function 33 -/
noncomputable def camshaftref09_Sections.b0 (n : Nat) (F : ((List (Int × (Int × Int))) × (List Int) × (List (Int × Int)) × Int) → Option ((List (Int × Int)))) (v6 : (List (Int × (Int × Int)))) (v7 : (List Int)) (v8 : (List (Int × Int))) (v9 : Int) : Option ((List (Int × Int))) := if (decide (v9 < (v6.length : Int))) then (if (decide (0 ≤ v9) && decide (v9 < (v6.length : Int))) then (if ((v6.getD v9.toNat ((0 : Int), ((0 : Int), (0 : Int)))).1 == 23) then (if (decide (0 ≤ v9) && decide (v9 < (v6.length : Int))) then (if (decide (0 ≤ v9) && decide (v9 < (v7.length : Int))) then ((camshaftref09_way.f n v6 v7 (IntKind.wrap .i64 (v9 + 1)) (v7.getD v9.toNat (0 : Int)) true).bind fun y10 => (if (decide ((v8.length + 1) * 16 ≤ 140737488355328) && decide (1 ≤ 16)) then (F (v6, v7, (v8 ++ [((v6.getD v9.toNat ((0 : Int), ((0 : Int), (0 : Int)))).2.1, (IntKind.wrap .i64 (y10 + 1)))]), (IntKind.wrap .i64 (v9 + 1)))) else none)) else none) else none) else (F (v6, v7, v8, (IntKind.wrap .i64 (v9 + 1))))) else none) else (some v8)
noncomputable def camshaftref09_Sections.b0.l (n : Nat) : ((List (Int × (Int × Int))) × (List Int) × (List (Int × Int)) × Int) → Option ((List (Int × Int)))   := it (fun F x => camshaftref09_Sections.b0 n F x.1 x.2.1 x.2.2.1 x.2.2.2) n
noncomputable def camshaftref09_Sections.b0.L (n : Nat) : Loop := ⟨⟨ofs 55 0 [(0, .val (.sl (.pair (.int .i64) (.pair (.int .i64) (.int .i64))))), (6, .val (.sl (.int .i64))), (8, .row 68 (.pair (.int .i64) (.int .i64))), (9, .val (.int .i64))], []⟩, [(.exit 0, ⟨ofs 55 0 [(8, .row 68 (.pair (.int .i64) (.int .i64)))], []⟩)], ((List (Int × (Int × Int))) × (List Int) × (List (Int × Int)) × Int), fun x => ((x.1, x.2.1, x.2.2.1, x.2.2.2, ()), ()), fun (x : (((List (Int × (Int × Int))) × (List Int) × (List (Int × Int)) × Int × Unit) × Unit)) => (x.1.1, x.1.2.1, x.1.2.2.1, x.1.2.2.2.1), (List (Int × Int)), fun y => ((y, ()), ()), fun (o : (((List (Int × Int)) × Unit) × Unit)) => o.1.1, camshaftref09_Sections.b0.l n⟩
noncomputable def camshaftref09_Sections.f (n : Nat) (a0 : (List (Int × (Int × Int)))) : Option ((List (Int × Int)) × Int) := (camshaftref09_Worst.f n a0).bind fun y1 => (if (y1.2 != 0) then (some ([], y1.2)) else ((camshaftref06_Match.f n a0).bind fun y2 => ((camshaftref09_Sections.b0.l n (a0, y2.1, [], 0)).bind fun y3 => (some (y3, 0)))))
noncomputable def camshaftref09_Sections.fs (n : Nat) : FS := ⟨⟨[.val (.sl (.pair (.int .i64) (.pair (.int .i64) (.int .i64))))], []⟩, ⟨[.val (.sl (.pair (.int .i64) (.int .i64))), .val (.int .i64)], []⟩, ((List (Int × Int)) × Int), fun y => ((y.1, y.2, ()), ()), fun o => (o.1.1, o.1.2.1), fun x => camshaftref09_Sections.f n x.1.1⟩
theorem camshaftref09_Sections.b0.e (n : Nat) : ∀ F x, evLoop (c61 n) 14 33 0 7 (camshaftref09_Sections.b0.L n) F x = camshaftref09_Sections.b0 n F x.1 x.2.1 x.2.2.1 x.2.2.2 := fun F x => by kernel_rfl
noncomputable def camshaftref09_Sections.b0.c (n : Nat) : Cx := Cx.addLoop (c61 n) 33 7 (camshaftref09_Sections.b0.L n)
theorem camshaftref09_Sections.b0.g (n : Nat) : Good (camshaftref09_Sections.b0.c n) := Good.loop (g61 n) 14 0 (by kernel_rfl) (camshaftref09_Sections.b0.e n) n (fun _ => rfl) (fun _ => rfl) (fun _ => rfl) rfl
theorem camshaftref09_Sections.e (n : Nat) : FnEq (camshaftref09_Sections.b0.c n) 14 33 0 (camshaftref09_Sections.fs n) := fun x => by kernel_rfl
noncomputable def c62 (n : Nat) : Cx := (Cx.bare (camshaftref09_Sections.b0.c n)).addSpec 33 (camshaftref09_Sections.fs n)
theorem g62 (n : Nat) : Good (c62 n) := Good.fn (camshaftref09_Sections.b0.g n) 14 0 (camshaftref09_Sections.e n) (fun _ => rfl) rfl
/-! ### camshaftref09_Straight: function 37 -/
noncomputable def camshaftref09_Straight.b0 (n : Nat) (F : ((List (Int × (Int × Int))) × Int) → Option ((((Bool × Unit) × Unit) ⊕ (Unit × Unit)))) (v1 : (List (Int × (Int × Int)))) (v2 : Int) : Option ((((Bool × Unit) × Unit) ⊕ (Unit × Unit))) := if (decide (v2 < (v1.length : Int))) then (if (decide (0 ≤ v2) && decide (v2 < (v1.length : Int))) then (if ((v1.getD v2.toNat ((0 : Int), ((0 : Int), (0 : Int)))).1 == 19) then (if (decide (0 ≤ v2) && decide (v2 < (v1.length : Int))) then (if (decide ((v1.getD v2.toNat ((0 : Int), ((0 : Int), (0 : Int)))).2.1 > 0)) then (some (.inl ((false, ()), ()))) else (F (v1, (IntKind.wrap .i64 (v2 + 1))))) else none) else (if (decide (0 ≤ v2) && decide (v2 < (v1.length : Int))) then (if ((v1.getD v2.toNat ((0 : Int), ((0 : Int), (0 : Int)))).1 == 20) then (if (decide (0 ≤ v2) && decide (v2 < (v1.length : Int))) then (if (decide ((v1.getD v2.toNat ((0 : Int), ((0 : Int), (0 : Int)))).2.1 > 0)) then (some (.inl ((false, ()), ()))) else (F (v1, (IntKind.wrap .i64 (v2 + 1))))) else none) else (F (v1, (IntKind.wrap .i64 (v2 + 1))))) else none)) else none) else (some (.inr ((), ())))
noncomputable def camshaftref09_Straight.b0.l (n : Nat) : ((List (Int × (Int × Int))) × Int) → Option ((((Bool × Unit) × Unit) ⊕ (Unit × Unit)))   := it (fun F x => camshaftref09_Straight.b0 n F x.1 x.2) n
noncomputable def camshaftref09_Straight.b0.L (n : Nat) : Loop := ⟨⟨ofs 32 0 [(0, .val (.sl (.pair (.int .i64) (.pair (.int .i64) (.int .i64))))), (3, .val (.int .i64))], []⟩, [(.ret, ⟨ofs 32 0 [(2, .val .bool)], []⟩), (.exit 0, ⟨ofs 32 0 [], []⟩)], ((List (Int × (Int × Int))) × Int), fun x => ((x.1, x.2, ()), ()), fun (x : (((List (Int × (Int × Int))) × Int × Unit) × Unit)) => (x.1.1, x.1.2.1), (((Bool × Unit) × Unit) ⊕ (Unit × Unit)), fun y => y, fun y => y, camshaftref09_Straight.b0.l n⟩
noncomputable def camshaftref09_Straight.f (n : Nat) (a0 : (List (Int × (Int × Int)))) : Option Bool := (camshaftref09_Straight.b0.l n (a0, 0)).bind fun y3 => ((Sum.elim (fun (z4 : ((Bool × Unit) × Unit)) => (some z4.1.1)) (fun (z5 : (Unit × Unit)) => (some true))) y3)
noncomputable def camshaftref09_Straight.fs (n : Nat) : FS := ⟨⟨[.val (.sl (.pair (.int .i64) (.pair (.int .i64) (.int .i64))))], []⟩, ⟨[.val .bool], []⟩, Bool, fun y => ((y, ()), ()), fun o => o.1.1, fun x => camshaftref09_Straight.f n x.1.1⟩
theorem camshaftref09_Straight.b0.e (n : Nat) : ∀ F x, evLoop (c62 n) 14 37 0 2 (camshaftref09_Straight.b0.L n) F x = camshaftref09_Straight.b0 n F x.1 x.2 := fun F x => by kernel_rfl
noncomputable def camshaftref09_Straight.b0.c (n : Nat) : Cx := Cx.addLoop (c62 n) 37 2 (camshaftref09_Straight.b0.L n)
theorem camshaftref09_Straight.b0.g (n : Nat) : Good (camshaftref09_Straight.b0.c n) := Good.loop (g62 n) 14 0 (by kernel_rfl) (camshaftref09_Straight.b0.e n) n (fun _ => rfl) (fun _ => rfl) (fun _ => rfl) rfl
theorem camshaftref09_Straight.e (n : Nat) : FnEq (camshaftref09_Straight.b0.c n) 14 37 0 (camshaftref09_Straight.fs n) := fun x => by kernel_rfl
noncomputable def c63 (n : Nat) : Cx := (Cx.bare (camshaftref09_Straight.b0.c n)).addSpec 37 (camshaftref09_Straight.fs n)
theorem g63 (n : Nat) : Good (c63 n) := Good.fn (camshaftref09_Straight.b0.g n) 14 0 (camshaftref09_Straight.e n) (fun _ => rfl) rfl
end Go.Proofs.Dk

/- op.Right is as the document says. -/
namespace Go.Proofs.Dk
open Go
set_option maxRecDepth 100000
set_option linter.unusedVariables false
set_option linter.unusedSimpArgs false
theorem nameOf {x : Option ByteArray} (h : (x.bind fun y => some (y.toList == (ByteArray.mk #[]).toList)) = some false) : ∃ y, x = some y ∧ (y.toList == (ByteArray.mk #[]).toList) = false := by
  cases x with
  | none => cases h
  | some y => exact ⟨y, rfl, by simpa using h⟩
theorem numN1 (n : Nat) : ((camshaftref01_Name.f n 1).bind fun y => some (!(y.toList == (ByteArray.mk #[]).toList))) = some true := by kernel_rfl
theorem numN2 (n : Nat) : ((camshaftref01_Name.f n 2).bind fun y => some (!(y.toList == (ByteArray.mk #[]).toList))) = some true := by kernel_rfl
theorem numN3 (n : Nat) : ((camshaftref01_Name.f n 3).bind fun y => some (!(y.toList == (ByteArray.mk #[]).toList))) = some true := by kernel_rfl
theorem numN4 (n : Nat) : ((camshaftref01_Name.f n 4).bind fun y => some (!(y.toList == (ByteArray.mk #[]).toList))) = some true := by kernel_rfl
theorem numN5 (n : Nat) : ((camshaftref01_Name.f n 5).bind fun y => some (!(y.toList == (ByteArray.mk #[]).toList))) = some true := by kernel_rfl
theorem numN6 (n : Nat) : ((camshaftref01_Name.f n 6).bind fun y => some (!(y.toList == (ByteArray.mk #[]).toList))) = some true := by kernel_rfl
theorem numN7 (n : Nat) : ((camshaftref01_Name.f n 7).bind fun y => some (!(y.toList == (ByteArray.mk #[]).toList))) = some true := by kernel_rfl
theorem numN8 (n : Nat) : ((camshaftref01_Name.f n 8).bind fun y => some (!(y.toList == (ByteArray.mk #[]).toList))) = some true := by kernel_rfl
theorem numN9 (n : Nat) : ((camshaftref01_Name.f n 9).bind fun y => some (!(y.toList == (ByteArray.mk #[]).toList))) = some true := by kernel_rfl
theorem numN10 (n : Nat) : ((camshaftref01_Name.f n 10).bind fun y => some (!(y.toList == (ByteArray.mk #[]).toList))) = some true := by kernel_rfl
theorem numN11 (n : Nat) : ((camshaftref01_Name.f n 11).bind fun y => some (!(y.toList == (ByteArray.mk #[]).toList))) = some true := by kernel_rfl
theorem numN12 (n : Nat) : ((camshaftref01_Name.f n 12).bind fun y => some (!(y.toList == (ByteArray.mk #[]).toList))) = some true := by kernel_rfl
theorem numName (n : Nat) (A : Int) : ((camshaftref01_Name.f n A).bind fun y => some (!(y.toList == (ByteArray.mk #[]).toList))) = some (decide (1 ≤ A) && decide (A ≤ 12)) := by
  by_cases h1 : A < 1
  · have : camshaftref01_Name.f n A = some (ByteArray.mk #[]) := by simp [camshaftref01_Name.f, h1]
    rw [this]
    have e : ((ByteArray.mk #[]).toList == (ByteArray.mk #[]).toList) = true := by simp
    simp [e, show ¬ 1 ≤ A by omega]
  by_cases h2 : A > 12
  · have : camshaftref01_Name.f n A = some (ByteArray.mk #[]) := by simp [camshaftref01_Name.f, h1, h2]
    rw [this]
    have e : ((ByteArray.mk #[]).toList == (ByteArray.mk #[]).toList) = true := by simp
    simp [e, show ¬ A ≤ 12 by omega]
  have h : A = 1 ∨ A = 2 ∨ A = 3 ∨ A = 4 ∨ A = 5 ∨ A = 6 ∨ A = 7 ∨ A = 8 ∨ A = 9 ∨ A = 10 ∨ A = 11 ∨ A = 12 := by omega
  rcases h with rfl | rfl | rfl | rfl | rfl | rfl | rfl | rfl | rfl | rfl | rfl | rfl
  · exact (numN1 n).trans (by simp)
  · exact (numN2 n).trans (by simp)
  · exact (numN3 n).trans (by simp)
  · exact (numN4 n).trans (by simp)
  · exact (numN5 n).trans (by simp)
  · exact (numN6 n).trans (by simp)
  · exact (numN7 n).trans (by simp)
  · exact (numN8 n).trans (by simp)
  · exact (numN9 n).trans (by simp)
  · exact (numN10 n).trans (by simp)
  · exact (numN11 n).trans (by simp)
  · exact (numN12 n).trans (by simp)
theorem opR1 (n : Nat) (A B : Int) : op_Right.f n (1, (A, B)) = (if decide (A ≥ (-9223372036854775808)) then (if decide (A ≤ 9223372036854775807) then some (B == 0) else some false) else some false) := by kernel_rfl
theorem refN1 (n : Nat) : ((camshaftref04_Name.f n 1).bind fun y => some (y.toList == (ByteArray.mk #[]).toList)) = some false := by kernel_rfl
theorem refA1 (n : Nat) : camshaftref04_Args.f n 1 = some 1 := by kernel_rfl
theorem refR1 (n : Nat) (A B : Int) : camshaftref04_Right.f n (1, (A, B)) = (if (B != 0) then some false else some true) := by
  obtain ⟨y, h1, h2⟩ := nameOf (refN1 n)
  simp only [camshaftref04_Right.f, camshaftref04_Right.j0, h1, h2, refA1, Option.bind_some]
  by_cases hB : B = 0 <;> by_cases hA : A = 0 <;> simp [hA, hB]
theorem opR2 (n : Nat) (A B : Int) : op_Right.f n (2, (A, B)) = (if (A == 0) then some (B == 0) else some false) := by kernel_rfl
theorem refN2 (n : Nat) : ((camshaftref04_Name.f n 2).bind fun y => some (y.toList == (ByteArray.mk #[]).toList)) = some false := by kernel_rfl
theorem refA2 (n : Nat) : camshaftref04_Args.f n 2 = some 0 := by kernel_rfl
theorem refR2 (n : Nat) (A B : Int) : camshaftref04_Right.f n (2, (A, B)) = (if (B != 0) then some false else if (A != 0) then some false else some true) := by
  obtain ⟨y, h1, h2⟩ := nameOf (refN2 n)
  simp only [camshaftref04_Right.f, camshaftref04_Right.j0, h1, h2, refA2, Option.bind_some]
  by_cases hB : B = 0 <;> by_cases hA : A = 0 <;> simp [hA, hB]
theorem opR3 (n : Nat) (A B : Int) : op_Right.f n (3, (A, B)) = (if (A == 0) then some (B == 0) else some false) := by kernel_rfl
theorem refN3 (n : Nat) : ((camshaftref04_Name.f n 3).bind fun y => some (y.toList == (ByteArray.mk #[]).toList)) = some false := by kernel_rfl
theorem refA3 (n : Nat) : camshaftref04_Args.f n 3 = some 0 := by kernel_rfl
theorem refR3 (n : Nat) (A B : Int) : camshaftref04_Right.f n (3, (A, B)) = (if (B != 0) then some false else if (A != 0) then some false else some true) := by
  obtain ⟨y, h1, h2⟩ := nameOf (refN3 n)
  simp only [camshaftref04_Right.f, camshaftref04_Right.j0, h1, h2, refA3, Option.bind_some]
  by_cases hB : B = 0 <;> by_cases hA : A = 0 <;> simp [hA, hB]
theorem opR4 (n : Nat) (A B : Int) : op_Right.f n (4, (A, B)) = (if (A == 0) then some (B == 0) else some false) := by kernel_rfl
theorem refN4 (n : Nat) : ((camshaftref04_Name.f n 4).bind fun y => some (y.toList == (ByteArray.mk #[]).toList)) = some false := by kernel_rfl
theorem refA4 (n : Nat) : camshaftref04_Args.f n 4 = some 0 := by kernel_rfl
theorem refR4 (n : Nat) (A B : Int) : camshaftref04_Right.f n (4, (A, B)) = (if (B != 0) then some false else if (A != 0) then some false else some true) := by
  obtain ⟨y, h1, h2⟩ := nameOf (refN4 n)
  simp only [camshaftref04_Right.f, camshaftref04_Right.j0, h1, h2, refA4, Option.bind_some]
  by_cases hB : B = 0 <;> by_cases hA : A = 0 <;> simp [hA, hB]
theorem opR5 (n : Nat) (A B : Int) : op_Right.f n (5, (A, B)) = (if decide (A ≥ 1) then (if decide (A ≤ 12) then some (B == 0) else some false) else some false) := by kernel_rfl
theorem refN5 (n : Nat) : ((camshaftref04_Name.f n 5).bind fun y => some (y.toList == (ByteArray.mk #[]).toList)) = some false := by kernel_rfl
theorem refA5 (n : Nat) : camshaftref04_Args.f n 5 = some 1 := by kernel_rfl
theorem refR5 (n : Nat) (A B : Int) : camshaftref04_Right.f n (5, (A, B)) = (if (B != 0) then some false else ((camshaftref01_Name.f n A).bind fun y => some (!(y.toList == (ByteArray.mk #[]).toList)))) := by
  obtain ⟨y, h1, h2⟩ := nameOf (refN5 n)
  simp only [camshaftref04_Right.f, camshaftref04_Right.j0, h1, h2, refA5, Option.bind_some]
  by_cases hB : B = 0 <;> by_cases hA : A = 0 <;> simp [hA, hB]
theorem opR6 (n : Nat) (A B : Int) : op_Right.f n (6, (A, B)) = (if (A == 0) then some (B == 0) else some false) := by kernel_rfl
theorem refN6 (n : Nat) : ((camshaftref04_Name.f n 6).bind fun y => some (y.toList == (ByteArray.mk #[]).toList)) = some false := by kernel_rfl
theorem refA6 (n : Nat) : camshaftref04_Args.f n 6 = some 0 := by kernel_rfl
theorem refR6 (n : Nat) (A B : Int) : camshaftref04_Right.f n (6, (A, B)) = (if (B != 0) then some false else if (A != 0) then some false else some true) := by
  obtain ⟨y, h1, h2⟩ := nameOf (refN6 n)
  simp only [camshaftref04_Right.f, camshaftref04_Right.j0, h1, h2, refA6, Option.bind_some]
  by_cases hB : B = 0 <;> by_cases hA : A = 0 <;> simp [hA, hB]
theorem opR7 (n : Nat) (A B : Int) : op_Right.f n (7, (A, B)) = (if (A == 0) then some (B == 0) else some false) := by kernel_rfl
theorem refN7 (n : Nat) : ((camshaftref04_Name.f n 7).bind fun y => some (y.toList == (ByteArray.mk #[]).toList)) = some false := by kernel_rfl
theorem refA7 (n : Nat) : camshaftref04_Args.f n 7 = some 0 := by kernel_rfl
theorem refR7 (n : Nat) (A B : Int) : camshaftref04_Right.f n (7, (A, B)) = (if (B != 0) then some false else if (A != 0) then some false else some true) := by
  obtain ⟨y, h1, h2⟩ := nameOf (refN7 n)
  simp only [camshaftref04_Right.f, camshaftref04_Right.j0, h1, h2, refA7, Option.bind_some]
  by_cases hB : B = 0 <;> by_cases hA : A = 0 <;> simp [hA, hB]
theorem opR8 (n : Nat) (A B : Int) : op_Right.f n (8, (A, B)) = (if (A == 0) then some (B == 0) else some false) := by kernel_rfl
theorem refN8 (n : Nat) : ((camshaftref04_Name.f n 8).bind fun y => some (y.toList == (ByteArray.mk #[]).toList)) = some false := by kernel_rfl
theorem refA8 (n : Nat) : camshaftref04_Args.f n 8 = some 0 := by kernel_rfl
theorem refR8 (n : Nat) (A B : Int) : camshaftref04_Right.f n (8, (A, B)) = (if (B != 0) then some false else if (A != 0) then some false else some true) := by
  obtain ⟨y, h1, h2⟩ := nameOf (refN8 n)
  simp only [camshaftref04_Right.f, camshaftref04_Right.j0, h1, h2, refA8, Option.bind_some]
  by_cases hB : B = 0 <;> by_cases hA : A = 0 <;> simp [hA, hB]
theorem opR9 (n : Nat) (A B : Int) : op_Right.f n (9, (A, B)) = (if (A == 0) then some (B == 0) else some false) := by kernel_rfl
theorem refN9 (n : Nat) : ((camshaftref04_Name.f n 9).bind fun y => some (y.toList == (ByteArray.mk #[]).toList)) = some false := by kernel_rfl
theorem refA9 (n : Nat) : camshaftref04_Args.f n 9 = some 0 := by kernel_rfl
theorem refR9 (n : Nat) (A B : Int) : camshaftref04_Right.f n (9, (A, B)) = (if (B != 0) then some false else if (A != 0) then some false else some true) := by
  obtain ⟨y, h1, h2⟩ := nameOf (refN9 n)
  simp only [camshaftref04_Right.f, camshaftref04_Right.j0, h1, h2, refA9, Option.bind_some]
  by_cases hB : B = 0 <;> by_cases hA : A = 0 <;> simp [hA, hB]
theorem opR10 (n : Nat) (A B : Int) : op_Right.f n (10, (A, B)) = (if (A == 0) then some (B == 0) else some false) := by kernel_rfl
theorem refN10 (n : Nat) : ((camshaftref04_Name.f n 10).bind fun y => some (y.toList == (ByteArray.mk #[]).toList)) = some false := by kernel_rfl
theorem refA10 (n : Nat) : camshaftref04_Args.f n 10 = some 0 := by kernel_rfl
theorem refR10 (n : Nat) (A B : Int) : camshaftref04_Right.f n (10, (A, B)) = (if (B != 0) then some false else if (A != 0) then some false else some true) := by
  obtain ⟨y, h1, h2⟩ := nameOf (refN10 n)
  simp only [camshaftref04_Right.f, camshaftref04_Right.j0, h1, h2, refA10, Option.bind_some]
  by_cases hB : B = 0 <;> by_cases hA : A = 0 <;> simp [hA, hB]
theorem opR11 (n : Nat) (A B : Int) : op_Right.f n (11, (A, B)) = (if decide (A ≥ 0) then (if decide (A ≤ 7) then some (B == 0) else some false) else some false) := by kernel_rfl
theorem refN11 (n : Nat) : ((camshaftref04_Name.f n 11).bind fun y => some (y.toList == (ByteArray.mk #[]).toList)) = some false := by kernel_rfl
theorem refA11 (n : Nat) : camshaftref04_Args.f n 11 = some 1 := by kernel_rfl
theorem refR11 (n : Nat) (A B : Int) : camshaftref04_Right.f n (11, (A, B)) = (if (B != 0) then some false else (if decide (A ≥ 0) then (if decide (A ≤ 7) then (if decide (B ≥ 0) then some (decide (B ≤ 7)) else some false) else some false) else some false)) := by
  obtain ⟨y, h1, h2⟩ := nameOf (refN11 n)
  simp only [camshaftref04_Right.f, camshaftref04_Right.j0, h1, h2, refA11, Option.bind_some]
  by_cases hB : B = 0 <;> by_cases hA : A = 0 <;> simp [hA, hB]
theorem opR12 (n : Nat) (A B : Int) : op_Right.f n (12, (A, B)) = (if decide (A ≥ 0) then (if decide (A ≤ 7) then some (B == 0) else some false) else some false) := by kernel_rfl
theorem refN12 (n : Nat) : ((camshaftref04_Name.f n 12).bind fun y => some (y.toList == (ByteArray.mk #[]).toList)) = some false := by kernel_rfl
theorem refA12 (n : Nat) : camshaftref04_Args.f n 12 = some 1 := by kernel_rfl
theorem refR12 (n : Nat) (A B : Int) : camshaftref04_Right.f n (12, (A, B)) = (if (B != 0) then some false else (if decide (A ≥ 0) then (if decide (A ≤ 7) then (if decide (B ≥ 0) then some (decide (B ≤ 7)) else some false) else some false) else some false)) := by
  obtain ⟨y, h1, h2⟩ := nameOf (refN12 n)
  simp only [camshaftref04_Right.f, camshaftref04_Right.j0, h1, h2, refA12, Option.bind_some]
  by_cases hB : B = 0 <;> by_cases hA : A = 0 <;> simp [hA, hB]
theorem opR13 (n : Nat) (A B : Int) : op_Right.f n (13, (A, B)) = (if decide (A ≥ 0) then (if decide (A ≤ 7) then some (B == 0) else some false) else some false) := by kernel_rfl
theorem refN13 (n : Nat) : ((camshaftref04_Name.f n 13).bind fun y => some (y.toList == (ByteArray.mk #[]).toList)) = some false := by kernel_rfl
theorem refA13 (n : Nat) : camshaftref04_Args.f n 13 = some 1 := by kernel_rfl
theorem refR13 (n : Nat) (A B : Int) : camshaftref04_Right.f n (13, (A, B)) = (if (B != 0) then some false else (if decide (A ≥ 0) then (if decide (A ≤ 7) then (if decide (B ≥ 0) then some (decide (B ≤ 7)) else some false) else some false) else some false)) := by
  obtain ⟨y, h1, h2⟩ := nameOf (refN13 n)
  simp only [camshaftref04_Right.f, camshaftref04_Right.j0, h1, h2, refA13, Option.bind_some]
  by_cases hB : B = 0 <;> by_cases hA : A = 0 <;> simp [hA, hB]
theorem opR14 (n : Nat) (A B : Int) : op_Right.f n (14, (A, B)) = (if decide (A ≥ 0) then (if decide (A ≤ 7) then some (B == 0) else some false) else some false) := by kernel_rfl
theorem refN14 (n : Nat) : ((camshaftref04_Name.f n 14).bind fun y => some (y.toList == (ByteArray.mk #[]).toList)) = some false := by kernel_rfl
theorem refA14 (n : Nat) : camshaftref04_Args.f n 14 = some 1 := by kernel_rfl
theorem refR14 (n : Nat) (A B : Int) : camshaftref04_Right.f n (14, (A, B)) = (if (B != 0) then some false else (if decide (A ≥ 0) then (if decide (A ≤ 7) then (if decide (B ≥ 0) then some (decide (B ≤ 7)) else some false) else some false) else some false)) := by
  obtain ⟨y, h1, h2⟩ := nameOf (refN14 n)
  simp only [camshaftref04_Right.f, camshaftref04_Right.j0, h1, h2, refA14, Option.bind_some]
  by_cases hB : B = 0 <;> by_cases hA : A = 0 <;> simp [hA, hB]
theorem opR15 (n : Nat) (A B : Int) : op_Right.f n (15, (A, B)) = (if decide (A ≥ 0) then (if decide (A ≤ 15) then some (B == 0) else some false) else some false) := by kernel_rfl
theorem refN15 (n : Nat) : ((camshaftref04_Name.f n 15).bind fun y => some (y.toList == (ByteArray.mk #[]).toList)) = some false := by kernel_rfl
theorem refA15 (n : Nat) : camshaftref04_Args.f n 15 = some 1 := by kernel_rfl
theorem refR15 (n : Nat) (A B : Int) : camshaftref04_Right.f n (15, (A, B)) = (if (B != 0) then some false else (if decide (A ≥ 0) then some (decide (A ≤ 15)) else some false)) := by
  obtain ⟨y, h1, h2⟩ := nameOf (refN15 n)
  simp only [camshaftref04_Right.f, camshaftref04_Right.j0, h1, h2, refA15, Option.bind_some]
  by_cases hB : B = 0 <;> by_cases hA : A = 0 <;> simp [hA, hB]
theorem opR16 (n : Nat) (A B : Int) : op_Right.f n (16, (A, B)) = (if decide (A ≥ 0) then (if decide (A ≤ 15) then some (B == 0) else some false) else some false) := by kernel_rfl
theorem refN16 (n : Nat) : ((camshaftref04_Name.f n 16).bind fun y => some (y.toList == (ByteArray.mk #[]).toList)) = some false := by kernel_rfl
theorem refA16 (n : Nat) : camshaftref04_Args.f n 16 = some 1 := by kernel_rfl
theorem refR16 (n : Nat) (A B : Int) : camshaftref04_Right.f n (16, (A, B)) = (if (B != 0) then some false else (if decide (A ≥ 0) then some (decide (A ≤ 15)) else some false)) := by
  obtain ⟨y, h1, h2⟩ := nameOf (refN16 n)
  simp only [camshaftref04_Right.f, camshaftref04_Right.j0, h1, h2, refA16, Option.bind_some]
  by_cases hB : B = 0 <;> by_cases hA : A = 0 <;> simp [hA, hB]
theorem opR17 (n : Nat) (A B : Int) : op_Right.f n (17, (A, B)) = (if decide (A ≥ 0) then (if decide (A ≤ 7) then (if decide (B ≥ 0) then some (decide (B ≤ 7)) else some false) else some false) else some false) := by kernel_rfl
theorem refN17 (n : Nat) : ((camshaftref04_Name.f n 17).bind fun y => some (y.toList == (ByteArray.mk #[]).toList)) = some false := by kernel_rfl
theorem refA17 (n : Nat) : camshaftref04_Args.f n 17 = some 2 := by kernel_rfl
theorem refR17 (n : Nat) (A B : Int) : camshaftref04_Right.f n (17, (A, B)) = ((if decide (A ≥ 0) then (if decide (A ≤ 7) then (if decide (B ≥ 0) then some (decide (B ≤ 7)) else some false) else some false) else some false)) := by
  obtain ⟨y, h1, h2⟩ := nameOf (refN17 n)
  simp only [camshaftref04_Right.f, camshaftref04_Right.j0, h1, h2, refA17, Option.bind_some]
  by_cases hB : B = 0 <;> by_cases hA : A = 0 <;> simp [hA, hB]
theorem opR18 (n : Nat) (A B : Int) : op_Right.f n (18, (A, B)) = (if decide (A ≥ 0) then (if decide (A ≤ 7) then (if decide (B ≥ 0) then some (decide (B ≤ 7)) else some false) else some false) else some false) := by kernel_rfl
theorem refN18 (n : Nat) : ((camshaftref04_Name.f n 18).bind fun y => some (y.toList == (ByteArray.mk #[]).toList)) = some false := by kernel_rfl
theorem refA18 (n : Nat) : camshaftref04_Args.f n 18 = some 2 := by kernel_rfl
theorem refR18 (n : Nat) (A B : Int) : camshaftref04_Right.f n (18, (A, B)) = ((if decide (A ≥ 0) then (if decide (A ≤ 7) then (if decide (B ≥ 0) then some (decide (B ≤ 7)) else some false) else some false) else some false)) := by
  obtain ⟨y, h1, h2⟩ := nameOf (refN18 n)
  simp only [camshaftref04_Right.f, camshaftref04_Right.j0, h1, h2, refA18, Option.bind_some]
  by_cases hB : B = 0 <;> by_cases hA : A = 0 <;> simp [hA, hB]
theorem opR19 (n : Nat) (A B : Int) : op_Right.f n (19, (A, B)) = (if decide (A ≥ 0) then (if decide (A ≤ 199) then some (B == 0) else some false) else some false) := by kernel_rfl
theorem refN19 (n : Nat) : ((camshaftref04_Name.f n 19).bind fun y => some (y.toList == (ByteArray.mk #[]).toList)) = some false := by kernel_rfl
theorem refA19 (n : Nat) : camshaftref04_Args.f n 19 = some 1 := by kernel_rfl
theorem refR19 (n : Nat) (A B : Int) : camshaftref04_Right.f n (19, (A, B)) = (if (B != 0) then some false else (if decide (A ≥ 0) then some (decide (A ≤ 199)) else some false)) := by
  obtain ⟨y, h1, h2⟩ := nameOf (refN19 n)
  simp only [camshaftref04_Right.f, camshaftref04_Right.j0, h1, h2, refA19, Option.bind_some]
  by_cases hB : B = 0 <;> by_cases hA : A = 0 <;> simp [hA, hB]
theorem opR20 (n : Nat) (A B : Int) : op_Right.f n (20, (A, B)) = (if decide (A ≥ 0) then (if decide (A ≤ 199) then some (B == 0) else some false) else some false) := by kernel_rfl
theorem refN20 (n : Nat) : ((camshaftref04_Name.f n 20).bind fun y => some (y.toList == (ByteArray.mk #[]).toList)) = some false := by kernel_rfl
theorem refA20 (n : Nat) : camshaftref04_Args.f n 20 = some 1 := by kernel_rfl
theorem refR20 (n : Nat) (A B : Int) : camshaftref04_Right.f n (20, (A, B)) = (if (B != 0) then some false else (if decide (A ≥ 0) then some (decide (A ≤ 199)) else some false)) := by
  obtain ⟨y, h1, h2⟩ := nameOf (refN20 n)
  simp only [camshaftref04_Right.f, camshaftref04_Right.j0, h1, h2, refA20, Option.bind_some]
  by_cases hB : B = 0 <;> by_cases hA : A = 0 <;> simp [hA, hB]
theorem opR21 (n : Nat) (A B : Int) : op_Right.f n (21, (A, B)) = (if decide (A ≥ 1) then (if decide (A ≤ 1000) then some (B == 0) else some false) else some false) := by kernel_rfl
theorem refN21 (n : Nat) : ((camshaftref04_Name.f n 21).bind fun y => some (y.toList == (ByteArray.mk #[]).toList)) = some false := by kernel_rfl
theorem refA21 (n : Nat) : camshaftref04_Args.f n 21 = some 1 := by kernel_rfl
theorem refR21 (n : Nat) (A B : Int) : camshaftref04_Right.f n (21, (A, B)) = (if (B != 0) then some false else (if decide (A ≥ 1) then some (decide (A ≤ 1000)) else some false)) := by
  obtain ⟨y, h1, h2⟩ := nameOf (refN21 n)
  simp only [camshaftref04_Right.f, camshaftref04_Right.j0, h1, h2, refA21, Option.bind_some]
  by_cases hB : B = 0 <;> by_cases hA : A = 0 <;> simp [hA, hB]
theorem opR22 (n : Nat) (A B : Int) : op_Right.f n (22, (A, B)) = (if (A == 0) then some (B == 0) else some false) := by kernel_rfl
theorem refN22 (n : Nat) : ((camshaftref04_Name.f n 22).bind fun y => some (y.toList == (ByteArray.mk #[]).toList)) = some false := by kernel_rfl
theorem refA22 (n : Nat) : camshaftref04_Args.f n 22 = some 0 := by kernel_rfl
theorem refR22 (n : Nat) (A B : Int) : camshaftref04_Right.f n (22, (A, B)) = (if (B != 0) then some false else if (A != 0) then some false else some true) := by
  obtain ⟨y, h1, h2⟩ := nameOf (refN22 n)
  simp only [camshaftref04_Right.f, camshaftref04_Right.j0, h1, h2, refA22, Option.bind_some]
  by_cases hB : B = 0 <;> by_cases hA : A = 0 <;> simp [hA, hB]
theorem opR23 (n : Nat) (A B : Int) : op_Right.f n (23, (A, B)) = (if decide (A ≥ 0) then (if decide (A ≤ 7) then some (B == 0) else some false) else some false) := by kernel_rfl
theorem refN23 (n : Nat) : ((camshaftref04_Name.f n 23).bind fun y => some (y.toList == (ByteArray.mk #[]).toList)) = some false := by kernel_rfl
theorem refA23 (n : Nat) : camshaftref04_Args.f n 23 = some 1 := by kernel_rfl
theorem refR23 (n : Nat) (A B : Int) : camshaftref04_Right.f n (23, (A, B)) = (if (B != 0) then some false else (if decide (A ≥ 0) then (if decide (A ≤ 7) then (if decide (B ≥ 0) then some (decide (B ≤ 7)) else some false) else some false) else some false)) := by
  obtain ⟨y, h1, h2⟩ := nameOf (refN23 n)
  simp only [camshaftref04_Right.f, camshaftref04_Right.j0, h1, h2, refA23, Option.bind_some]
  by_cases hB : B = 0 <;> by_cases hA : A = 0 <;> simp [hA, hB]
theorem opR24 (n : Nat) (A B : Int) : op_Right.f n (24, (A, B)) = (if decide (A ≥ 0) then (if decide (A ≤ 7) then some (B == 0) else some false) else some false) := by kernel_rfl
theorem refN24 (n : Nat) : ((camshaftref04_Name.f n 24).bind fun y => some (y.toList == (ByteArray.mk #[]).toList)) = some false := by kernel_rfl
theorem refA24 (n : Nat) : camshaftref04_Args.f n 24 = some 1 := by kernel_rfl
theorem refR24 (n : Nat) (A B : Int) : camshaftref04_Right.f n (24, (A, B)) = (if (B != 0) then some false else (if decide (A ≥ 0) then (if decide (A ≤ 7) then (if decide (B ≥ 0) then some (decide (B ≤ 7)) else some false) else some false) else some false)) := by
  obtain ⟨y, h1, h2⟩ := nameOf (refN24 n)
  simp only [camshaftref04_Right.f, camshaftref04_Right.j0, h1, h2, refA24, Option.bind_some]
  by_cases hB : B = 0 <;> by_cases hA : A = 0 <;> simp [hA, hB]
theorem opR25 (n : Nat) (A B : Int) : op_Right.f n (25, (A, B)) = (if (A == 0) then some (B == 0) else some false) := by kernel_rfl
theorem refN25 (n : Nat) : ((camshaftref04_Name.f n 25).bind fun y => some (y.toList == (ByteArray.mk #[]).toList)) = some false := by kernel_rfl
theorem refA25 (n : Nat) : camshaftref04_Args.f n 25 = some 0 := by kernel_rfl
theorem refR25 (n : Nat) (A B : Int) : camshaftref04_Right.f n (25, (A, B)) = (if (B != 0) then some false else if (A != 0) then some false else some true) := by
  obtain ⟨y, h1, h2⟩ := nameOf (refN25 n)
  simp only [camshaftref04_Right.f, camshaftref04_Right.j0, h1, h2, refA25, Option.bind_some]
  by_cases hB : B = 0 <;> by_cases hA : A = 0 <;> simp [hA, hB]
theorem opR_low (n : Nat) (o A B : Int) (h : o < 1 ∨ o > 25) : op_Right.f n (o, (A, B)) = some false := by
  have : op_of.f n o = some (ByteArray.empty, ((-1), (0, 0))) := by
    unfold op_of.f
    rcases h with h | h
    · simp [h]
    · by_cases h1 : o < 1 <;> simp [h, h1]
  unfold op_Right.f
  simp [this]
theorem refR_low (n : Nat) (o A B : Int) (h : o < 1 ∨ o > 25) : camshaftref04_Right.f n (o, (A, B)) = some false := by
  have : camshaftref04_Name.f n o = some (ByteArray.mk #[]) := by
    unfold camshaftref04_Name.f
    rcases h with h | h
    · simp [h]
    · by_cases h1 : o < 1 <;> simp [h, h1]
  have e : ((ByteArray.mk #[]).toList == (ByteArray.mk #[]).toList) = true := by simp
  simp [camshaftref04_Right.f, camshaftref04_Right.j0, this, e]
/-- The document's word is the program's. -/
theorem right_eq (n : Nat) (x : Int × Int × Int) (hA : -9223372036854775808 ≤ x.2.1 ∧ x.2.1 ≤ 9223372036854775807) : camshaftref04_Right.f n x = op_Right.f n x := by
  obtain ⟨o, A, B⟩ := x
  simp only at hA
  by_cases h : o < 1 ∨ o > 25
  · rw [opR_low n o A B h, refR_low n o A B h]
  have ho : o = 1 ∨ o = 2 ∨ o = 3 ∨ o = 4 ∨ o = 5 ∨ o = 6 ∨ o = 7 ∨ o = 8 ∨ o = 9 ∨ o = 10 ∨ o = 11 ∨ o = 12 ∨ o = 13 ∨ o = 14 ∨ o = 15 ∨ o = 16 ∨ o = 17 ∨ o = 18 ∨ o = 19 ∨ o = 20 ∨ o = 21 ∨ o = 22 ∨ o = 23 ∨ o = 24 ∨ o = 25 := by omega
  rcases ho with rfl | rfl | rfl | rfl | rfl | rfl | rfl | rfl | rfl | rfl | rfl | rfl | rfl | rfl | rfl | rfl | rfl | rfl | rfl | rfl | rfl | rfl | rfl | rfl | rfl
  · rw [opR1, refR1]
    repeat' split
    all_goals first | rfl | (simp_all <;> omega)
  · rw [opR2, refR2]
    repeat' split
    all_goals first | rfl | (simp_all <;> omega)
  · rw [opR3, refR3]
    repeat' split
    all_goals first | rfl | (simp_all <;> omega)
  · rw [opR4, refR4]
    repeat' split
    all_goals first | rfl | (simp_all <;> omega)
  · rw [opR5, refR5, numName]
    repeat' split
    all_goals first | rfl | (simp_all <;> omega)
  · rw [opR6, refR6]
    repeat' split
    all_goals first | rfl | (simp_all <;> omega)
  · rw [opR7, refR7]
    repeat' split
    all_goals first | rfl | (simp_all <;> omega)
  · rw [opR8, refR8]
    repeat' split
    all_goals first | rfl | (simp_all <;> omega)
  · rw [opR9, refR9]
    repeat' split
    all_goals first | rfl | (simp_all <;> omega)
  · rw [opR10, refR10]
    repeat' split
    all_goals first | rfl | (simp_all <;> omega)
  · rw [opR11, refR11]
    repeat' split
    all_goals first | rfl | (simp_all <;> omega)
  · rw [opR12, refR12]
    repeat' split
    all_goals first | rfl | (simp_all <;> omega)
  · rw [opR13, refR13]
    repeat' split
    all_goals first | rfl | (simp_all <;> omega)
  · rw [opR14, refR14]
    repeat' split
    all_goals first | rfl | (simp_all <;> omega)
  · rw [opR15, refR15]
    repeat' split
    all_goals first | rfl | (simp_all <;> omega)
  · rw [opR16, refR16]
    repeat' split
    all_goals first | rfl | (simp_all <;> omega)
  · rw [opR17, refR17]
    repeat' split
    all_goals first | rfl | (simp_all <;> omega)
  · rw [opR18, refR18]
    repeat' split
    all_goals first | rfl | (simp_all <;> omega)
  · rw [opR19, refR19]
    repeat' split
    all_goals first | rfl | (simp_all <;> omega)
  · rw [opR20, refR20]
    repeat' split
    all_goals first | rfl | (simp_all <;> omega)
  · rw [opR21, refR21]
    repeat' split
    all_goals first | rfl | (simp_all <;> omega)
  · rw [opR22, refR22]
    repeat' split
    all_goals first | rfl | (simp_all <;> omega)
  · rw [opR23, refR23]
    repeat' split
    all_goals first | rfl | (simp_all <;> omega)
  · rw [opR24, refR24]
    repeat' split
    all_goals first | rfl | (simp_all <;> omega)
  · rw [opR25, refR25]
    repeat' split
    all_goals first | rfl | (simp_all <;> omega)
/-- The answer is there. -/
theorem right_some (n : Nat) (x : Int × Int × Int) : ∃ b, op_Right.f n x = some b := by
  obtain ⟨o, A, B⟩ := x
  by_cases h : o < 1 ∨ o > 25
  · exact ⟨_, opR_low n o A B h⟩
  have ho : o = 1 ∨ o = 2 ∨ o = 3 ∨ o = 4 ∨ o = 5 ∨ o = 6 ∨ o = 7 ∨ o = 8 ∨ o = 9 ∨ o = 10 ∨ o = 11 ∨ o = 12 ∨ o = 13 ∨ o = 14 ∨ o = 15 ∨ o = 16 ∨ o = 17 ∨ o = 18 ∨ o = 19 ∨ o = 20 ∨ o = 21 ∨ o = 22 ∨ o = 23 ∨ o = 24 ∨ o = 25 := by omega
  rcases ho with rfl | rfl | rfl | rfl | rfl | rfl | rfl | rfl | rfl | rfl | rfl | rfl | rfl | rfl | rfl | rfl | rfl | rfl | rfl | rfl | rfl | rfl | rfl | rfl | rfl
  · rw [opR1]
    repeat' split
    all_goals exact ⟨_, rfl⟩
  · rw [opR2]
    repeat' split
    all_goals exact ⟨_, rfl⟩
  · rw [opR3]
    repeat' split
    all_goals exact ⟨_, rfl⟩
  · rw [opR4]
    repeat' split
    all_goals exact ⟨_, rfl⟩
  · rw [opR5]
    repeat' split
    all_goals exact ⟨_, rfl⟩
  · rw [opR6]
    repeat' split
    all_goals exact ⟨_, rfl⟩
  · rw [opR7]
    repeat' split
    all_goals exact ⟨_, rfl⟩
  · rw [opR8]
    repeat' split
    all_goals exact ⟨_, rfl⟩
  · rw [opR9]
    repeat' split
    all_goals exact ⟨_, rfl⟩
  · rw [opR10]
    repeat' split
    all_goals exact ⟨_, rfl⟩
  · rw [opR11]
    repeat' split
    all_goals exact ⟨_, rfl⟩
  · rw [opR12]
    repeat' split
    all_goals exact ⟨_, rfl⟩
  · rw [opR13]
    repeat' split
    all_goals exact ⟨_, rfl⟩
  · rw [opR14]
    repeat' split
    all_goals exact ⟨_, rfl⟩
  · rw [opR15]
    repeat' split
    all_goals exact ⟨_, rfl⟩
  · rw [opR16]
    repeat' split
    all_goals exact ⟨_, rfl⟩
  · rw [opR17]
    repeat' split
    all_goals exact ⟨_, rfl⟩
  · rw [opR18]
    repeat' split
    all_goals exact ⟨_, rfl⟩
  · rw [opR19]
    repeat' split
    all_goals exact ⟨_, rfl⟩
  · rw [opR20]
    repeat' split
    all_goals exact ⟨_, rfl⟩
  · rw [opR21]
    repeat' split
    all_goals exact ⟨_, rfl⟩
  · rw [opR22]
    repeat' split
    all_goals exact ⟨_, rfl⟩
  · rw [opR23]
    repeat' split
    all_goals exact ⟨_, rfl⟩
  · rw [opR24]
    repeat' split
    all_goals exact ⟨_, rfl⟩
  · rw [opR25]
    repeat' split
    all_goals exact ⟨_, rfl⟩
noncomputable def rightI (x : Int × Int × Int) : Bool := (op_Right.f 0 x).getD false
theorem right_is (n : Nat) (x : Int × Int × Int) : op_Right.f n x = some (rightI x) := by
  have e : op_Right.f n x = op_Right.f 0 x := rfl
  obtain ⟨b, hb⟩ := right_some 0 x
  rw [e, rightI, hb]
  rfl
end Go.Proofs.Dk

/- Plain: rounds, numbers; whether rows can be. -/
namespace Go.Proofs.Dk
open Go
set_option maxRecDepth 100000
set_option linter.unusedVariables false
set_option linter.unusedSimpArgs false
abbrev Ins := Int × Int × Int
theorem it_succ {X R : Type} (s : (X → Option R) → X → Option R) (n : Nat) (x : X) : it s (n + 1) x = s (it s n) x := rfl
theorem wrap_id {e : Int} (h1 : -9223372036854775808 ≤ e) (h2 : e ≤ 9223372036854775807) : IntKind.wrap .i64 e = e := by
  rw [IntKind.wrap_i64]
  omega
theorem wf_i64 {n : Int} (h : (Lit.int .i64 n).wf = true) : -9223372036854775808 ≤ n ∧ n ≤ 9223372036854775807 := by
  simp [Lit.wf, IntKind.bits, IntKind.signed, IntKind.min, IntKind.max] at h
  omega
def InR (l : List Ins) : Prop := ∀ x ∈ l, -9223372036854775808 ≤ x.2.1 ∧ x.2.1 ≤ 9223372036854775807
theorem InR.of {l : List Ins} (h : Sh.Ok (.sl (.pair (.int .i64) (.pair (.int .i64) (.int .i64)))) l) : InR l := fun x hx => wf_i64 (h.2 x hx).2.1
theorem getD_in {l : List Ins} {k : Nat} (h : k < l.length) : l.getD k (0, 0, 0) = l[k] := by
  rw [List.getD_eq_getElem?_getD, List.getElem?_eq_getElem h]
  rfl
/-- A row can be. -/
noncomputable def rowI (l : List Ins) : Bool := l.all rightI && (decide (0 < l.length) && decide (l.length ≤ 200))
theorem nest_right_loop (n : Nat) (l : List Ins) (hl : l.length < 9223372036854775807) : ∀ (m k : Nat), k ≤ l.length → l.length < m + k → it (fun F (x : (List Ins) × (List Ins) × Int × Int) => nest_right.b0 n F x.1 x.2.1 x.2.2.1 x.2.2.2) m (l, l, (l.length : Int), (k : Int)) = some (if (l.drop k).all rightI = true then .inr ((l, ()), ()) else .inl ((false, ()), ()))
  | 0, k, hk, hm => by omega
  | m + 1, k, hk, hm => by
    have ih := nest_right_loop n l hl m (k + 1)
    show nest_right.b0 n (it _ m) l l (l.length : Int) (k : Int) = _
    generalize it (fun F (x : (List Ins) × (List Ins) × Int × Int) => nest_right.b0 n F x.1 x.2.1 x.2.2.1 x.2.2.2) m = F at ih ⊢
    unfold nest_right.b0
    by_cases h : k < l.length
    · have e1 : decide ((k : Int) < (l.length : Int)) = true := by simp [h]
      have e2 : decide (0 ≤ (k : Int)) = true := by simp
      rw [if_pos e1, if_pos (by rw [e1, e2]; rfl)]
      simp only [Int.toNat_natCast, getD_in h, right_is, Option.bind_some]
      rw [List.drop_eq_getElem_cons h, List.all_cons]
      cases hr : rightI (l[k].1, l[k].2.1, l[k].2.2)
      · have hr' : rightI l[k] = false := hr
        simp [hr']
      · have hr' : rightI l[k] = true := hr
        have hw : IntKind.wrap .i64 ((k : Int) + 1) = ((k + 1 : Nat) : Int) := by rw [wrap_id (by omega) (by omega)]; simp
        simp only [hr', Bool.not_true, Bool.false_eq_true, if_false, Bool.true_and, hw]
        exact ih (by omega) (by omega)
    · have hk' : k = l.length := by omega
      have e1 : decide ((k : Int) < (l.length : Int)) = false := by simp [hk']
      rw [if_neg (by rw [e1]; simp)]
      simp [hk']
theorem nest_right_is (n : Nat) (l : List Ins) (hl : l.length < n) (hl2 : n < 9223372036854775807) : nest_right.f n l = some (rowI l) := by
  unfold nest_right.f nest_right.b0.l
  have h0 := nest_right_loop n l (by omega) n 0 (Nat.zero_le _) (by omega)
  have h1 : ((0 : Nat) : Int) = 0 := rfl
  rw [h1] at h0
  rw [h0]
  unfold rowI
  cases h : l.all rightI
  · simp [h]
  · by_cases h1 : 0 < l.length
    · simp [h, h1]
      try omega
    · simp [h, h1]
      try omega
theorem ref_right_loop (n : Nat) (l : List Ins) (hr : InR l) (hl : l.length < 9223372036854775807) : ∀ (m k : Nat), k ≤ l.length → l.length < m + k → it (fun F (x : (List Ins) × Int) => camshaftref06_right.b0 n F x.1 x.2) m (l, (k : Int)) = some (if (l.drop k).all rightI = true then .inr ((l, ()), ()) else .inl ((false, ()), ()))
  | 0, k, hk, hm => by omega
  | m + 1, k, hk, hm => by
    have ih := ref_right_loop n l hr hl m (k + 1)
    show camshaftref06_right.b0 n (it _ m) l (k : Int) = _
    generalize it (fun F (x : (List Ins) × Int) => camshaftref06_right.b0 n F x.1 x.2) m = F at ih ⊢
    unfold camshaftref06_right.b0
    by_cases h : k < l.length
    · have e1 : decide ((k : Int) < (l.length : Int)) = true := by simp [h]
      have e2 : decide (0 ≤ (k : Int)) = true := by simp
      rw [if_pos e1, if_pos (by rw [e1, e2]; rfl)]
      have e3 : camshaftref04_Right.f n (l[k].1, l[k].2.1, l[k].2.2) = some (rightI (l[k].1, l[k].2.1, l[k].2.2)) := by
        rw [right_eq n _ (hr l[k] (List.getElem_mem h)), right_is]
      simp only [Int.toNat_natCast, getD_in h, e3, Option.bind_some]
      rw [List.drop_eq_getElem_cons h, List.all_cons]
      cases hr : rightI (l[k].1, l[k].2.1, l[k].2.2)
      · have hr' : rightI l[k] = false := hr
        simp [hr']
      · have hr' : rightI l[k] = true := hr
        have hw : IntKind.wrap .i64 ((k : Int) + 1) = ((k + 1 : Nat) : Int) := by rw [wrap_id (by omega) (by omega)]; simp
        simp only [hr', Bool.not_true, Bool.false_eq_true, if_false, Bool.true_and, hw]
        exact ih (by omega) (by omega)
    · have hk' : k = l.length := by omega
      have e1 : decide ((k : Int) < (l.length : Int)) = false := by simp [hk']
      rw [if_neg (by rw [e1]; simp)]
      simp [hk']
theorem ref_right_is (n : Nat) (l : List Ins) (hr : InR l) (hl : l.length < n) (hl2 : n < 9223372036854775807) : camshaftref06_right.f n l = some (rowI l) := by
  unfold camshaftref06_right.f camshaftref06_right.b0.l
  have h0 := ref_right_loop n l hr (by omega) n 0 (Nat.zero_le _) (by omega)
  rw [show ((0 : Nat) : Int) = 0 from rfl] at h0
  rw [h0]
  unfold rowI
  cases h : l.all rightI
  · simp [h]
  · by_cases h1 : 0 < l.length
    · have h3 : 1 ≤ (l.length : Int) := by omega
      simp [h, h1, h3]
      try omega
    · have h3 : ¬ (1 ≤ (l.length : Int)) := by omega
      simp [h, h1, h3]
end Go.Proofs.Dk

/- Plain: how regions open and close. -/
namespace Go.Proofs.Dk
open Go
set_option maxRecDepth 100000
set_option linter.unusedVariables false
set_option linter.unusedSimpArgs false
theorem right22 {A B : Int} (h : rightI (22, A, B) = true) : A = 0 ∧ B = 0 := by
  have h1 := (right_is 0 (22, A, B)).symm.trans (opR22 0 A B)
  rw [h] at h1
  by_cases hA : A = 0
  · by_cases hB : B = 0
    · exact ⟨hA, hB⟩
    · simp [hA, hB] at h1
  · simp [hA] at h1
theorem right24 {A B : Int} (h : rightI (24, A, B) = true) : 0 ≤ A ∧ A ≤ 7 ∧ B = 0 := by
  have h1 := (right_is 0 (24, A, B)).symm.trans (opR24 0 A B)
  rw [h] at h1
  by_cases h2 : 0 ≤ A
  · by_cases h3 : A ≤ 7
    · by_cases hB : B = 0
      · exact ⟨h2, h3, hB⟩
      · simp [h2, h3, hB] at h1
    · simp [h2, h3] at h1
  · simp [h2] at h1
/-- What closes the region that an instruction opens. -/
def ends (x : Ins) : Ins := if x.1 = 21 then (22, 0, 0) else (24, x.2.1, 0)
/-- One instruction: what matches, homes, what is open. None: it can't stand there. -/
def scanStep (x : Ins) (i : Nat) (m h : List Int) (op : List (Int × Ins)) : Option (List Int × List Int × List (Int × Ins)) :=
  let m1 := m.set i (-1)
  let h1 := if 0 < op.length then (h.set i (-1)).set i (op.getD (op.length - 1) (0, 0, 0, 0)).1 else h.set i (-1)
  if x.1 = 21 ∨ x.1 = 23 then some (m1, h1, op ++ [((i : Int), ends x)])
  else if x.1 = 22 ∨ x.1 = 24 then
    if op.length = 0 then none
    else if (op.getD (op.length - 1) (0, 0, 0, 0)).2 = x then some ((m1.set i (op.getD (op.length - 1) (0, 0, 0, 0)).1).set (op.getD (op.length - 1) (0, 0, 0, 0)).1.toNat i, h1, op.take (op.length - 1)) else none
  else some (m1, h1, op)
def scanS (l : List Ins) : Nat → Nat → List Int → List Int → List (Int × Ins) → Option (List Int × List Int × List (Int × Ins))
  | 0, _, m, h, op => some (m, h, op)
  | r + 1, i, m, h, op => match scanStep (l.getD i (0, 0, 0)) i m h op with
    | some (m, h, op) => scanS l r (i + 1) m h op
    | none => none
/-- What is carried on. -/
structure ScanI (l : List Ins) (i : Nat) (m h : List Int) (op : List (Int × Ins)) : Prop where
  hm : m.length = l.length
  hh : h.length = l.length
  hop : op.length ≤ i
  at_ : ∀ e ∈ op, ∃ k : Nat, k < i ∧ e.1 = (k : Int) ∧ k < l.length ∧ e.2 = ends (l.getD k (0, 0, 0)) ∧ ((l.getD k (0, 0, 0)).1 = 21 ∨ (l.getD k (0, 0, 0)).1 = 23)
theorem last_mem {α : Type} {l : List α} {d : α} (h : 0 < l.length) : l.getD (l.length - 1) d ∈ l := by
  rw [List.getD_eq_getElem?_getD, List.getElem?_eq_getElem (by omega)]
  exact List.getElem_mem _
theorem ScanI.step {l : List Ins} {i : Nat} {m h m' h' : List Int} {op op' : List (Int × Ins)} (hI : ScanI l i m h op) (hi : i < l.length) (hs : scanStep (l.getD i (0, 0, 0)) i m h op = some (m', h', op')) : ScanI l (i + 1) m' h' op' := by
  have up : ∀ e ∈ op, ∃ k : Nat, k < i + 1 ∧ e.1 = (k : Int) ∧ k < l.length ∧ e.2 = ends (l.getD k (0, 0, 0)) ∧ ((l.getD k (0, 0, 0)).1 = 21 ∨ (l.getD k (0, 0, 0)).1 = 23) := fun e he => by
    obtain ⟨k, h1, h2⟩ := hI.at_ e he
    exact ⟨k, by omega, h2⟩
  have hl1 : (if 0 < op.length then (h.set i (-1)).set i (op.getD (op.length - 1) (0, 0, 0, 0)).1 else h.set i (-1)).length = l.length := by
    split <;> simp [hI.hh]
  unfold scanStep at hs
  simp only at hs
  split at hs
  · rename_i hx
    simp only [Option.some.injEq, Prod.mk.injEq] at hs
    obtain ⟨rfl, rfl, rfl⟩ := hs
    refine ⟨by simp [hI.hm], hl1, by simp; have := hI.hop; omega, fun e he => ?_⟩
    rcases List.mem_append.1 he with he | he
    · exact up e he
    · simp only [List.mem_singleton] at he
      subst he
      exact ⟨i, by omega, rfl, hi, rfl, hx⟩
  · split at hs
    · split at hs
      · cases hs
      · split at hs
        · simp only [Option.some.injEq, Prod.mk.injEq] at hs
          obtain ⟨rfl, rfl, rfl⟩ := hs
          exact ⟨by simp [hI.hm], hl1, by simp; have := hI.hop; omega, fun e he => up e (List.mem_of_mem_take he)⟩
        · cases hs
    · simp only [Option.some.injEq, Prod.mk.injEq] at hs
      obtain ⟨rfl, rfl, rfl⟩ := hs
      exact ⟨by simp [hI.hm], hl1, by have := hI.hop; omega, up⟩
end Go.Proofs.Dk

/- Plain: the program's scan. -/
namespace Go.Proofs.Dk
open Go
set_option maxRecDepth 100000
set_option linter.unusedVariables false
set_option linter.unusedSimpArgs false
theorem last_ix {k : Nat} (h : 0 < k) (h2 : k < 1000000) : IntKind.wrap .i64 ((k : Int) - 1) = ((k - 1 : Nat) : Int) := by
  rw [wrap_id (by omega) (by omega)]
  omega
theorem next_ix {k : Nat} (h2 : k < 1000000) : IntKind.wrap .i64 ((k : Int) + 1) = ((k + 1 : Nat) : Int) := by
  rw [wrap_id (by omega) (by omega)]
  simp
theorem in_ix {i k : Nat} (h : i < k) : (decide (0 ≤ (i : Int)) && decide ((i : Int) < (k : Int))) = true := by simp [h]
theorem scan_j0 (n : Nat) {m h : List Int} {op : List (Int × Ins)} {i : Nat} {l : List Ins} {N a b c : Int} (hi : i < h.length) (ho : op.length < 1000000) :
    nest_scan.j0 n m h op (i : Int) l N (i : Int) a b c = some (m, (if 0 < op.length then h.set i (op.getD (op.length - 1) (0, 0, 0, 0)).1 else h), op, (i : Int), l, N, (i : Int), a, b, c) := by
  unfold nest_scan.j0
  by_cases h0 : 0 < op.length
  · have e0 : decide ((op.length : Int) > 0) = true := decide_eq_true (by omega)
    rw [if_pos e0, last_ix h0 ho, if_pos (in_ix (by omega)), if_pos (in_ix hi), if_pos h0]
    simp only [Int.toNat_natCast]
  · have e0 : ¬ decide ((op.length : Int) > 0) = true := by simp only [decide_eq_true_eq]; omega
    rw [if_neg e0, if_neg h0]
theorem scan_step (n : Nat) (F : ((List Int) × (List Int) × (List (Int × (Int × (Int × Int)))) × (List (Int × (Int × Int))) × Int × Int) → Option (((((List Int) × (List Int) × Int × Unit) × Unit) ⊕ (((List Int) × (List Int) × (List (Int × (Int × (Int × Int)))) × Unit) × Unit)))) {l : List Ins} {i : Nat} {m h : List Int} {op : List (Int × Ins)} (hI : ScanI l i m h op) (hi : i < l.length) (hl : l.length < 1000000) :
    nest_scan.b2 n F m h op l (l.length : Int) (i : Int) = match scanStep (l.getD i (0, 0, 0)) i m h op with
      | some (m', h', op') => F (m', h', op', l, (l.length : Int), ((i + 1 : Nat) : Int))
      | none => some (.inl (([], [], 7, ()), ())) := by
  have hop := hI.hop
  unfold nest_scan.b2
  have e1 : decide ((i : Int) < (l.length : Int)) = true := by simp [hi]
  rw [if_pos e1, if_pos (in_ix hi), if_pos (by rw [hI.hm]; exact in_ix hi), if_pos (by rw [hI.hh]; exact in_ix hi)]
  simp only [Int.toNat_natCast]
  rw [scan_j0 n (by simp [hI.hh, hi]) (by omega), Option.bind_some]
  generalize hx : l.getD i (0, 0, 0) = x
  obtain ⟨o, A, B⟩ := x
  simp only
  unfold scanStep
  simp only
  generalize hh1 : (if 0 < op.length then (h.set i (-1)).set i (op.getD (op.length - 1) (0, 0, 0, 0)).1 else h.set i (-1)) = h1
  have hcap : (decide ((op.length + 1) * 32 ≤ 140737488355328) && decide (1 ≤ 32)) = true := by simp; omega
  by_cases h21 : o = 21
  · subst h21
    simp only [nest_opening.f]
    simp only [beq_self_eq_true, if_true, Option.bind_some, hcap, next_ix (show i < 1000000 by omega), ends, true_or]
  by_cases h23 : o = 23
  · subst h23
    have n1 : ((23 : Int) == 21) = false := rfl
    simp only [nest_opening.f, n1, beq_self_eq_true, if_true, Option.bind_some, hcap, next_ix (show i < 1000000 by omega), ends, or_true, Bool.false_eq_true, if_false, show ¬ ((23 : Int) = 21) by decide]
  have n1 : (o == 21) = false := by simpa using h21
  have n2 : (o == 23) = false := by simpa using h23
  have ho : ¬ (o = 21 ∨ o = 23) := fun h => h.elim h21 h23
  simp only [nest_opening.f, n1, n2, Bool.false_eq_true, if_false, Option.bind_some, if_neg ho]
  by_cases hc : o = 22 ∨ o = 24
  · rw [if_pos hc]
    have hj : nest_scan.j1 n (m.set i (-1)) h1 op (i : Int) l (l.length : Int) (i : Int) o A B = some (.inr ((m.set i (-1), h1, op, (i : Int), l, (l.length : Int), (i : Int), ()), ((o, A, B, ()), ()))) := by
      unfold nest_scan.j1
      rcases hc with rfl | rfl <;> simp
    rw [hj, Option.bind_some, Sum.elim_inr]
    simp only
    by_cases h0 : op.length = 0
    · have e0 : ((op.length : Int) == 0) = true := by simp [h0]
      rw [if_pos e0, if_pos h0]
    · have e0 : ¬ ((op.length : Int) == 0) = true := by simp only [beq_iff_eq]; omega
      have h1l : h1.length = l.length := by rw [← hh1]; split <;> simp [hI.hh]
      have h1g : h1.getD i 0 = (op.getD (op.length - 1) (0, 0, 0, 0)).1 := by
        rw [← hh1, if_pos (by omega), List.getD_eq_getElem?_getD, List.getElem?_set_self (by simp [hI.hh, hi])]
        rfl
      rw [if_neg e0, if_neg h0, last_ix (by omega) (by omega), if_pos (in_ix (by omega))]
      simp only [Int.toNat_natCast, h1g]
      have hmem : op.getD (op.length - 1) (0, 0, 0, 0) ∈ op := last_mem (by omega)
      obtain ⟨k, k1, k2, k3, k4, k5⟩ := hI.at_ _ hmem
      generalize op.getD (op.length - 1) (0, 0, 0, 0) = e at *
      obtain ⟨e1', o', A', B'⟩ := e
      simp only at k2 k4
      subst k2
      simp only
      by_cases heq : o' = o ∧ A' = A ∧ B' = B
      · obtain ⟨rfl, rfl, rfl⟩ := heq
        have c1 : decide (0 ≤ (op.length - 1 : Nat)) = true := by simp
        simp only [beq_self_eq_true, Bool.and_self, Bool.not_true, Bool.false_eq_true, if_false, in_ix (show i < h1.length by omega), in_ix (show i < (m.set i (-1)).length by simp [hI.hm, hi]), if_true, List.length_set, in_ix (show k < m.length by rw [hI.hm]; exact k3), Int.toNat_natCast]
        rw [if_pos (in_ix (by rw [hI.hm]; exact hi)), if_pos (by simp), Nat.sub_zero, next_ix (by omega)]
      · have hne : (o' == o && (A' == A && B' == B)) = false := by
          rw [Bool.eq_false_iff]
          intro h
          simp only [Bool.and_eq_true, beq_iff_eq] at h
          exact heq h
        have hne2 : ¬ ((o', A', B') = (o, A, B)) := fun h => by
          simp only [Prod.mk.injEq] at h
          exact heq h
        rw [hne, Bool.not_false, if_pos rfl, if_neg hne2]
  · rw [if_neg hc]
    have hj : nest_scan.j1 n (m.set i (-1)) h1 op (i : Int) l (l.length : Int) (i : Int) o A B = some (.inl ((m.set i (-1), h1, op, l, (l.length : Int), (i : Int), ()), ((o, A, B, ()), ()))) := by
      unfold nest_scan.j1
      have m1 : (o != 22) = true := by simp; exact fun h => hc (.inl h)
      have m2 : (o != 24) = true := by simp; exact fun h => hc (.inr h)
      rw [if_pos m1, if_pos m2]
    rw [hj, Option.bind_some, Sum.elim_inl]
    simp only [next_ix (show i < 1000000 by omega)]
theorem scan_loop (n : Nat) {l : List Ins} (hl : l.length < 1000000) : ∀ (f i : Nat) {m h : List Int} {op : List (Int × Ins)}, ScanI l i m h op → i ≤ l.length → l.length < f + i →
    it (fun F (x : (List Int) × (List Int) × (List (Int × (Int × (Int × Int)))) × (List (Int × (Int × Int))) × Int × Int) => nest_scan.b2 n F x.1 x.2.1 x.2.2.1 x.2.2.2.1 x.2.2.2.2.1 x.2.2.2.2.2) f (m, h, op, l, (l.length : Int), (i : Int)) = match scanS l (l.length - i) i m h op with
      | some (m', h', op') => some (.inr ((m', h', op', ()), ()))
      | none => some (.inl (([], [], 7, ()), ()))
  | 0, i, m, h, op, hI, hi, hf => by omega
  | f + 1, i, m, h, op, hI, hi, hf => by
    have ih := fun {m h : List Int} {op : List (Int × Ins)} => scan_loop n hl f (i + 1) (m := m) (h := h) (op := op)
    show nest_scan.b2 n (it _ f) m h op l (l.length : Int) (i : Int) = _
    generalize it (fun F (x : (List Int) × (List Int) × (List (Int × (Int × (Int × Int)))) × (List (Int × (Int × Int))) × Int × Int) => nest_scan.b2 n F x.1 x.2.1 x.2.2.1 x.2.2.2.1 x.2.2.2.2.1 x.2.2.2.2.2) f = F at ih ⊢
    rcases Nat.lt_or_ge i l.length with hlt | hge
    · rw [scan_step n F hI hlt hl, show l.length - i = (l.length - (i + 1)) + 1 by omega]
      simp only [scanS]
      cases hs : scanStep (l.getD i (0, 0, 0)) i m h op with
      | none => rfl
      | some p =>
        obtain ⟨m', h', op'⟩ := p
        exact ih (hI.step hlt hs) (by omega) (by omega)
    · have : i = l.length := by omega
      subst this
      unfold nest_scan.b2
      have e1 : ¬ decide ((l.length : Int) < (l.length : Int)) = true := by simp
      rw [if_neg e1]
      simp [scanS]
/-- What the scan makes of a row. -/
noncomputable def scanI (l : List Ins) : List Int × List Int × Int := if rowI l = true then match scanS l l.length 0 (List.replicate l.length 0) (List.replicate l.length 0) [] with
    | some (m, h, op) => if 0 < op.length then ([], [], 7) else (m, h, 0)
    | none => ([], [], 7)
  else ([], [], 1)
theorem ScanI.start (l : List Ins) : ScanI l 0 (List.replicate l.length 0) (List.replicate l.length 0) [] := ⟨by simp, by simp, by simp, fun e he => by cases he⟩
theorem scan_is (n : Nat) (l : List Ins) (hl : l.length < n) (hn : n < 1000000) : nest_scan.f n l = some (scanI l) := by
  unfold nest_scan.f
  rw [nest_right_is n l hl (by omega), Option.bind_some]
  unfold scanI
  cases hr : rowI l
  · simp
  · have c : (decide (0 ≤ (l.length : Int)) && ((l.length : Int) == (l.length : Int)) && decide ((l.length : Int) * (8 : Int) ≤ 140737488355328) && decide (1 ≤ 8)) = true := by
      simp
      omega
    simp only [Bool.not_true, Bool.false_eq_true, if_false, c, if_true, Int.toNat_natCast]
    have h0 := scan_loop n (by omega) n 0 (ScanI.start l) (Nat.zero_le _) (by omega)
    unfold nest_scan.b2.l
    have z : ((0 : Nat) : Int) = 0 := rfl
    rw [z] at h0
    rw [h0, Nat.sub_zero]
    cases scanS l l.length 0 (List.replicate l.length 0) (List.replicate l.length 0) [] with
    | none => rfl
    | some p =>
      obtain ⟨m, h, op⟩ := p
      simp only [Option.bind_some, Sum.elim_inr]
      by_cases ho : 0 < op.length
      · have : decide ((op.length : Int) > 0) = true := decide_eq_true (by omega)
        rw [if_pos this, if_pos ho]
      · have : ¬ decide ((op.length : Int) > 0) = true := by simp only [decide_eq_true_eq]; omega
        rw [if_neg this, if_neg ho]
end Go.Proofs.Dk

/- Plain: the document's matches are the program's. -/
namespace Go.Proofs.Dk
open Go
set_option maxRecDepth 100000
set_option linter.unusedVariables false
set_option linter.unusedSimpArgs false
theorem getD_map {α β : Type} (f : α → β) (l : List α) (i : Nat) (d : α) : (l.map f).getD i (f d) = f (l.getD i d) := by
  simp only [List.getD_eq_getElem?_getD, List.getElem?_map]
  cases l[i]? <;> rfl
theorem ref_j0 (n : Nat) {l : List Ins} {m o : List Int} {i : Nat} (hi : i < l.length) (ho : o.length < 1000000) :
    camshaftref06_Match.j0 n l m o (i : Int) = some (l, m, (if (l.getD i (0, 0, 0)).1 = 21 ∨ (l.getD i (0, 0, 0)).1 = 23 then o ++ [(i : Int)] else o), (i : Int)) := by
  unfold camshaftref06_Match.j0
  rw [if_pos (in_ix hi)]
  simp only [Int.toNat_natCast]
  generalize l.getD i (0, 0, 0) = x
  have hc : (decide ((o.length + 1) * 8 ≤ 140737488355328) && decide (1 ≤ 8)) = true := by simp; omega
  unfold camshaftref06_opens.f
  by_cases h1 : x.1 = 21
  · simp [h1]
    omega
  · by_cases h2 : x.1 = 23
    · simp [h2]
      omega
    · simp [h1, h2]
theorem ref_closes (n : Nat) (a x : Ins) (ha : a.1 = 21 ∨ a.1 = 23) (hx : x.1 = 22 ∨ x.1 = 24) (hr : rightI x = true) : camshaftref06_closes.f n a x = some (decide (ends a = x)) := by
  obtain ⟨o, A, B⟩ := x
  obtain ⟨a1, a2, a3⟩ := a
  simp only at ha hx
  rcases hx with rfl | rfl
  · obtain ⟨rfl, rfl⟩ := right22 hr
    rcases ha with rfl | rfl <;> simp [camshaftref06_closes.f, ends]
  · obtain ⟨_, _, rfl⟩ := right24 hr
    rcases ha with rfl | rfl
    · simp [camshaftref06_closes.f, ends]
    · simp [camshaftref06_closes.f, ends]
      by_cases h : a2 = A <;> simp [h]
theorem ref_step (n : Nat) (F : ((List (Int × (Int × Int))) × (List Int) × (List Int) × Int) → Option (((((List Int) × Int × Unit) × Unit) ⊕ (((List Int) × (List Int) × Unit) × Unit)))) {l : List Ins} {i : Nat} {m h : List Int} {op : List (Int × Ins)} (hI : ScanI l i m h op) (hi : i < l.length) (hl : l.length < 1000000) (hr : rightI (l.getD i (0, 0, 0)) = true) :
    camshaftref06_Match.b1 n F l m (op.map (·.1)) (i : Int) = match scanStep (l.getD i (0, 0, 0)) i m h op with
      | some (m', h', op') => F (l, m', op'.map (·.1), ((i + 1 : Nat) : Int))
      | none => some (.inl (([], 7, ()), ())) := by
  have hop := hI.hop
  unfold camshaftref06_Match.b1
  have e1 : decide ((i : Int) < (l.length : Int)) = true := by simp [hi]
  rw [if_pos e1, if_pos (by rw [hI.hm]; exact in_ix hi), Int.toNat_natCast, ref_j0 n hi (by simp; omega), Option.bind_some]
  simp only
  rw [if_pos (in_ix hi)]
  simp only [Int.toNat_natCast]
  generalize hx : l.getD i (0, 0, 0) = x at *
  unfold scanStep
  simp only
  by_cases ho : x.1 = 21 ∨ x.1 = 23
  · rw [if_pos ho, if_pos ho]
    have hc : camshaftref06_closer.f n (x.1, (x.2.1, x.2.2)) = some false := by
      unfold camshaftref06_closer.f
      rcases ho with h | h <;> simp [h]
    rw [hc]
    simp only [Option.bind_some, Bool.false_eq_true, if_false, next_ix (show i < 1000000 by omega), List.map_append, List.map_cons, List.map_nil]
  · rw [if_neg ho, if_neg ho]
    by_cases hc : x.1 = 22 ∨ x.1 = 24
    · have hcl : camshaftref06_closer.f n (x.1, (x.2.1, x.2.2)) = some true := by
        unfold camshaftref06_closer.f
        rcases hc with h | h <;> simp [h]
      rw [if_pos hc, hcl, Option.bind_some, if_pos rfl, List.length_map]
      by_cases h0 : op.length = 0
      · have e0 : ((op.length : Int) == 0) = true := by simp [h0]
        rw [if_pos e0, if_pos h0]
      · have e0 : ¬ ((op.length : Int) == 0) = true := by simp only [beq_iff_eq]; omega
        rw [if_neg e0, if_neg h0, last_ix (by omega) (by omega), if_pos (in_ix (by omega))]
        have hg : (op.map (·.1)).getD (op.length - 1) 0 = (op.getD (op.length - 1) (0, 0, 0, 0)).1 := getD_map (fun e : Int × Ins => e.1) op _ (0, 0, 0, 0)
        simp only [Int.toNat_natCast, hg]
        have hmem : op.getD (op.length - 1) (0, 0, 0, 0) ∈ op := last_mem (by omega)
        obtain ⟨k, k1, k2, k3, k4, k5⟩ := hI.at_ _ hmem
        generalize op.getD (op.length - 1) (0, 0, 0, 0) = e at *
        obtain ⟨e1', e2'⟩ := e
        simp only at k2 k4
        subst k2
        subst k4
        simp only [Int.toNat_natCast]
        rw [if_pos (in_ix k3), if_pos (in_ix hi)]
        have hcs := ref_closes n (l.getD k (0, 0, 0)) x k5 hc hr
        have hcs' : camshaftref06_closes.f n ((l.getD k (0, 0, 0)).1, ((l.getD k (0, 0, 0)).2.1, (l.getD k (0, 0, 0)).2.2)) (x.1, (x.2.1, x.2.2)) = some (decide (ends (l.getD k (0, 0, 0)) = x)) := hcs
        rw [hcs', Option.bind_some]
        by_cases heq : ends (l.getD k (0, 0, 0)) = x
        · have hd : (!decide (ends (l.getD k (0, 0, 0)) = x)) = false := by rw [decide_eq_true heq]; rfl
          rw [hd, if_neg (by simp), if_pos (in_ix (by omega)), if_pos (by rw [List.length_set, hI.hm]; exact in_ix hi), if_pos (in_ix (by omega)), if_pos (by rw [List.length_set, List.length_set, hI.hm]; exact in_ix k3), if_pos (by simp), if_pos heq, Nat.sub_zero, next_ix (by omega)]
          simp only [List.map_take]
        · have hd : (!decide (ends (l.getD k (0, 0, 0)) = x)) = true := by rw [decide_eq_false heq]; rfl
          rw [hd, if_pos rfl, if_neg heq]
    · have hcl : camshaftref06_closer.f n (x.1, (x.2.1, x.2.2)) = some false := by
        unfold camshaftref06_closer.f
        have h1 : ¬ x.1 = 22 := fun h => hc (.inl h)
        have h2 : ¬ x.1 = 24 := fun h => hc (.inr h)
        simp [h1, h2]
      rw [if_neg hc, hcl]
      simp only [Option.bind_some, Bool.false_eq_true, if_false, next_ix (show i < 1000000 by omega)]
theorem ref_loop (n : Nat) {l : List Ins} (hl : l.length < 1000000) (hr : l.all rightI = true) : ∀ (f i : Nat) {m h : List Int} {op : List (Int × Ins)}, ScanI l i m h op → i ≤ l.length → l.length < f + i →
    it (fun F (x : (List (Int × (Int × Int))) × (List Int) × (List Int) × Int) => camshaftref06_Match.b1 n F x.1 x.2.1 x.2.2.1 x.2.2.2) f (l, m, op.map (·.1), (i : Int)) = match scanS l (l.length - i) i m h op with
      | some (m', h', op') => some (.inr ((m', op'.map (·.1), ()), ()))
      | none => some (.inl (([], 7, ()), ()))
  | 0, i, m, h, op, hI, hi, hf => by omega
  | f + 1, i, m, h, op, hI, hi, hf => by
    have ih := fun {m h : List Int} {op : List (Int × Ins)} => ref_loop n hl hr f (i + 1) (m := m) (h := h) (op := op)
    show camshaftref06_Match.b1 n (it _ f) l m (op.map (·.1)) (i : Int) = _
    generalize it (fun F (x : (List (Int × (Int × Int))) × (List Int) × (List Int) × Int) => camshaftref06_Match.b1 n F x.1 x.2.1 x.2.2.1 x.2.2.2) f = F at ih ⊢
    rcases Nat.lt_or_ge i l.length with hlt | hge
    · have hx : rightI (l.getD i (0, 0, 0)) = true := by
        rw [getD_in hlt]
        exact List.all_eq_true.1 hr _ (List.getElem_mem hlt)
      rw [ref_step n F hI hlt hl hx, show l.length - i = (l.length - (i + 1)) + 1 by omega]
      simp only [scanS]
      cases hs : scanStep (l.getD i (0, 0, 0)) i m h op with
      | none => rfl
      | some p =>
        obtain ⟨m', h', op'⟩ := p
        exact ih (hI.step hlt hs) (by omega) (by omega)
    · have : i = l.length := by omega
      subst this
      unfold camshaftref06_Match.b1
      have e1 : ¬ decide ((l.length : Int) < (l.length : Int)) = true := by simp
      rw [if_neg e1]
      simp [scanS]
theorem ref_match_is (n : Nat) (l : List Ins) (hi : InR l) (hl : l.length < n) (hn : n < 1000000) : camshaftref06_Match.f n l = some ((scanI l).1, (scanI l).2.2) := by
  unfold camshaftref06_Match.f
  rw [ref_right_is n l hi hl (by omega), Option.bind_some]
  unfold scanI
  cases hr : rowI l
  · simp
  · have c : (decide (0 ≤ (l.length : Int)) && ((l.length : Int) == (l.length : Int)) && decide ((l.length : Int) * (8 : Int) ≤ 140737488355328) && decide (1 ≤ 8)) = true := by
      simp
      omega
    have hall : l.all rightI = true := by
      unfold rowI at hr
      rw [Bool.and_eq_true] at hr
      exact hr.1
    simp only [Bool.not_true, Bool.false_eq_true, if_false, c, if_true, Int.toNat_natCast]
    have h0 := ref_loop n (by omega) hall n 0 (ScanI.start l) (Nat.zero_le _) (by omega)
    unfold camshaftref06_Match.b1.l
    have z : ((0 : Nat) : Int) = 0 := rfl
    rw [z, List.map_nil] at h0
    rw [h0, Nat.sub_zero]
    cases scanS l l.length 0 (List.replicate l.length 0) (List.replicate l.length 0) [] with
    | none => rfl
    | some p =>
      obtain ⟨m, h, op⟩ := p
      simp only [Option.bind_some, Sum.elim_inr, List.length_map]
      by_cases ho : 0 < op.length
      · have : decide ((op.length : Int) > 0) = true := decide_eq_true (by omega)
        rw [if_pos this, if_pos ho]
      · have : ¬ decide ((op.length : Int) > 0) = true := by simp only [decide_eq_true_eq]; omega
        rw [if_neg this, if_neg ho]
end Go.Proofs.Dk
