/- A part of the proofs: What the functions of the program do, read off their text. -/
import Derived.Test.YtofeifhecboinaaGreatMB3
import Derived.Laws.BitsLemmas
import Derived.Laws.BitsAllLaws
set_option linter.unusedVariables false
set_option linter.unusedSimpArgs false
noncomputable section
namespace Go.Proofs.Dk
open Go Go.IntKind
set_option maxRecDepth 100000
variable (n : Nat)
def Du (v24 : cR) (v25 : (List Int)) (v26 : Int) (v27 : Bool) (v28 v29 v30 v31 : Int) : Option ((jm ⊕ Bw)) := if (v29 == 23) then (if (decide (0 ≤ v28) && decide (v28 < (v24.length : Int))) then (if ((v24.getD v28.toNat (0, (0, 0))).1 == 24) then (some (.inl ((true, ()), ((v29, v30, v31, ()), ())))) else ((gq n v25 v28 v26).bind fun y32 => (if y32 then (if (decide (0 ≤ v28) && decide (v28 < (v24.length : Int))) then (if ((v24.getD v28.toNat (0, (0, 0))).1 == 21) then (some (.inl ((true, ()), ((v29, v30, v31, ()), ())))) else (if (decide (0 ≤ v28) && decide (v28 < (v24.length : Int))) then (if ((v24.getD v28.toNat (0, (0, 0))).1 == 23) then (if (decide (0 ≤ v28) && decide (v28 < (v24.length : Int))) then (if (decide ((v24.getD v28.toNat (0, (0, 0))).2.1 ≥ v30)) then (some (.inl ((true, ()), ((v29, v30, v31, ()), ())))) else (some (.inr ((v24, v25, v26, v27, v28, ()), ((v29, v30, v31, ()), ()))))) else none) else (some (.inr ((v24, v25, v26, v27, v28, ()), ((v29, v30, v31, ()), ()))))) else none)) else none) else (some (.inr ((v24, v25, v26, v27, v28, ()), ((v29, v30, v31, ()), ()))))))) else none) else (some (.inr ((v24, v25, v26, v27, v28, ()), ((v29, v30, v31, ()), ()))))
def tp : Loop := ⟨⟨cX 97 0 [(0, .val dI), (1, .val d6), (2, .val cQ), (7, .obj 0), (8, .val .bool), (9, .val cQ)], [fa]⟩, [(.ret, ⟨cX 97 0 [(6, .val .bool)], [fa]⟩), (.norm, ⟨cX 97 0 [(0, .val dI), (1, .val d6), (2, .val cQ), (7, .obj 0), (8, .val .bool), (9, .val cQ)], [fa]⟩)], EL, fun x => ((dp v_) x, (dA u_) x.2.2.2.2.2, ()), fun (x : Bw) => (nU j_) x.1 ((dA k_) x.2.1), (jm ⊕ Bw), fun y => y, fun y => y, (eX (dZ q_)) (Du n)⟩
def Dv (F : EL → Option ((jm ⊕ jm))) (v8 : cR) (v9 : (List Int)) (v10 : Int) (v11 : Bool) (v12 v13 v14 v15 : Int) : Option ((jm ⊕ jm)) := if (decide (v12 < v10)) then ((Du n v8 v9 v10 v11 v12 v13 v14 v15).bind fun y16 => ((Sum.elim (fun (z17 : jm) => (some (.inl ((z17.1.1, ()), ((z17.2.1.1, z17.2.1.2.1, z17.2.1.2.2.1, ()), ()))))) (fun (z18 : Bw) => (if z18.1.2.2.2.1 then (F (z18.1.1, z18.1.2.1, z18.1.2.2.1, true, (wrap .i64 (z18.1.2.2.2.2.1 + 1)), z18.2.1.1, z18.2.1.2.1, z18.2.1.2.2.1)) else (if (decide (0 ≤ z18.1.2.2.2.2.1) && decide (z18.1.2.2.2.2.1 < (z18.1.1.length : Int))) then (if ((z18.1.1.getD z18.1.2.2.2.2.1.toNat (0, (0, 0))).1 == 23) then (if (decide (0 ≤ z18.1.2.2.2.2.1) && decide (z18.1.2.2.2.2.1 < (z18.1.1.length : Int))) then (if ((z18.1.1.getD z18.1.2.2.2.2.1.toNat (0, (0, 0))).2.1 == z18.2.1.2.1) then ((gq n z18.1.2.1 z18.1.2.2.2.2.1 z18.1.2.2.1).bind fun y19 => (F (z18.1.1, z18.1.2.1, z18.1.2.2.1, y19, (wrap .i64 (z18.1.2.2.2.2.1 + 1)), z18.2.1.1, z18.2.1.2.1, z18.2.1.2.2.1))) else (F (z18.1.1, z18.1.2.1, z18.1.2.2.1, false, (wrap .i64 (z18.1.2.2.2.2.1 + 1)), z18.2.1.1, z18.2.1.2.1, z18.2.1.2.2.1))) else none) else (F (z18.1.1, z18.1.2.1, z18.1.2.2.1, false, (wrap .i64 (z18.1.2.2.2.2.1 + 1)), z18.2.1.1, z18.2.1.2.1, z18.2.1.2.2.1))) else none)))) y16)) else (some (.inr ((v11, ()), ((v13, v14, v15, ()), ()))))
def zv : EL → Option ((jm ⊕ jm)) := it (fun F => (eX (dZ q_)) (Dv n F)) n
def zw : Loop := ⟨⟨cX 97 0 [(0, .val dI), (1, .val d6), (2, .val cQ), (7, .obj 0), (8, .val .bool), (9, .val cQ)], [fa]⟩, [(.ret, ⟨cX 97 0 [(6, .val .bool)], [fa]⟩), (.exit 0, ⟨cX 97 0 [(7, .obj 0), (8, .val .bool)], [fa]⟩)], EL, fun x => ((dp v_) x, (dA u_) x.2.2.2.2.2, ()), fun (x : Bw) => (nU j_) x.1 ((dA k_) x.2.1), (jm ⊕ jm), fun y => y, fun y => y, zv n⟩
def GQ (a0 : cR) (a1 : (List Int)) (a2 : Int) : Option Bool := if (decide (0 ≤ a2) && decide (a2 < (a0.length : Int))) then ((zv n (a0, a1, a2, false, 0, (a0.getD a2.toNat (0, (0, 0))).1, (a0.getD a2.toNat (0, (0, 0))).2.1, (a0.getD a2.toNat (0, (0, 0))).2.2)).bind fun y1 => ((Sum.elim (fun (z2 : jm) => (some z2.1.1)) (fun (z3 : jm) => (if (z3.2.1.1 == 17) then (some (!z3.1.1)) else (if (z3.2.1.1 == 18) then (some (!z3.1.1)) else (some false))))) y1)) else none
def Dx : FS := ⟨⟨[.val dI, .val d6, .val cQ], []⟩, ⟨[.val .bool], []⟩, Bool, fun y => ((y, ()), ()), fun o => o.1.1, fun x => GQ n x.1.1 x.1.2.1 x.1.2.2.1⟩
theorem GR : ∀ x, fE (Mw n) 14 111 0 1000009 (tp n) x = (tp n).fn x := fun x => by kernel_rfl
def tq : Cx := Cx.addLoop (Mw n) 111 1000009 (tp n)
theorem GS : Good (tq n) := eu (P0 n) 14 0 (by kernel_rfl) (GR n) (fun _ => rfl) (fun _ => rfl) rfl
theorem GT : ∀ F x, dy (tq n) 14 111 0 4 (zw n) F x = (eX (dZ q_)) (Dv n F) x := fun F x => by kernel_rfl
def tr : Cx := Cx.addLoop (tq n) 111 4 (zw n)
theorem GU : Good (tr n) := Good.loop (GS n) 14 0 (by kernel_rfl) (GT n) n (fun _ => rfl) (fun _ => rfl) (fun _ => rfl) rfl
theorem Mx : cY (tr n) 14 111 0 (Dx n) := fun x => by kernel_rfl
def My : Cx := (Cx.bare (tr n)).addSpec 111 (Dx n)
theorem P1 : Good (My n) := Good.fn (GU n) 14 0 (Mx n) (fun _ => rfl) rfl
def Dy (F : qH → Option (sD)) (v6 : cR) (v7 v8 : (List Int)) (v9 : Int) : Option (sD) := if (decide (v9 < (v6.length : Int))) then ((GQ n v6 v7 v9).bind fun y10 => (if y10 then (some (.inl (([], 11, ()), ()))) else (if (decide (0 ≤ v9) && decide (v9 < (v6.length : Int))) then (if ((v6.getD v9.toNat (0, (0, 0))).1 == 23) then (if (decide (0 ≤ v9) && decide (v9 < (v6.length : Int))) then (if (decide ((v8.length + 1) * 8 ≤ 140737488355328) && decide (1 ≤ 8)) then (F (v6, v7, (v8 ++ [(v6.getD v9.toNat (0, (0, 0))).2.1]), (wrap .i64 (v9 + 1)))) else none) else none) else (F (v6, v7, v8, (wrap .i64 (v9 + 1))))) else none))) else (some (.inr ((v8, ()), ())))
def zx : qH → Option (sD) := it (fun F => (dZ q_) (Dy n F)) n
def zy : Loop := ⟨⟨cX 44 0 [(0, .val dI), (5, .val d6), (7, .row 3 cQ), (8, .val cQ)], []⟩, [(.ret, ⟨cX 44 0 [(2, .row 3 cQ), (3, .val cQ)], []⟩), (.exit 0, ⟨cX 44 0 [(7, .row 3 cQ)], []⟩)], qH, fun x => ((dA (U_ u_)) x, ()), fun (x : EM) => (dA (U_ k_)) x.1, sD, fun y => y, fun y => y, zx n⟩
def Mz (a0 : cR) : Option mM := (EW n a0).bind fun y1 => (if (y1 != 0) then (some ([], y1)) else ((AE n a0).bind fun y2 => ((zx n (a0, y2.1, [], 0)).bind fun y3 => ((Sum.elim (fun (z4 : sy) => (some (z4.1.1, z4.1.2.1))) (fun (z5 : (jl × Unit)) => (some (z5.1.1, 0)))) y3))))
def Dz : FS := ⟨⟨[.val dI], []⟩, ⟨[.val d6, .val cQ], []⟩, mM, fun y => ((U_ u_) y, ()), fun o => (o.1.1, o.1.2.1), fun x => Mz n x.1.1⟩
theorem GV : ∀ F x, dy (My n) 14 54 0 7 (zy n) F x = (dZ q_) (Dy n F) x := fun F x => by kernel_rfl
def ts : Cx := Cx.addLoop (My n) 54 7 (zy n)
theorem GW : Good (ts n) := Good.loop (P1 n) 14 0 (by kernel_rfl) (GV n) n (fun _ => rfl) (fun _ => rfl) (fun _ => rfl) rfl
theorem MA : cY (ts n) 14 54 0 (Dz n) := fun x => by kernel_rfl
def MB : Cx := (Cx.bare (ts n)).addSpec 54 (Dz n)
theorem P2 : Good (MB n) := Good.fn (GW n) 14 0 (MA n) (fun _ => rfl) rfl
def fy (a0 : fB) : Option ByteArray := (xq n (a0.1, (a0.2.1, a0.2.2))).bind fun y1 => (if (!y1) then (some (ByteArray.mk #[])) else (if (decide (0 ≤ (wrap .i64 (a0.1 - 1))) && decide ((wrap .i64 (a0.1 - 1)) < 25)) then (some ([(ByteArray.mk #[]), (ByteArray.mk #[32]), (ByteArray.mk #[32]), (ByteArray.mk #[32, 32]), (ByteArray.mk #[105, 105]), (ByteArray.mk #[105]), (ByteArray.mk #[98]), (ByteArray.mk #[98, 98]), (ByteArray.mk #[98, 98]), (ByteArray.mk #[98]), (ByteArray.mk #[]), (ByteArray.mk #[105]), (ByteArray.mk #[]), (ByteArray.mk #[105]), (ByteArray.mk #[]), (ByteArray.mk #[105]), (ByteArray.mk #[]), (ByteArray.mk #[105]), (ByteArray.mk #[]), (ByteArray.mk #[98]), (ByteArray.mk #[]), (ByteArray.mk #[]), (ByteArray.mk #[]), (ByteArray.mk #[]), (ByteArray.mk #[])].getD ((wrap .i64 (a0.1 - 1))).toNat ByteArray.empty)) else none))
def jA : FS := ⟨⟨[.val f6], []⟩, ⟨[.val .str], []⟩, ByteArray, fun y => ((y, ()), ()), fun o => o.1.1, fun x => fy n x.1.1⟩
theorem pO : cY (MB n) 14 112 0 (jA n) := fun x => by kernel_rfl
def MC : Cx := (Cx.bare (MB n)).addSpec 112 (jA n)
theorem P3 : Good (MC n) := Good.fn (P2 n) 14 0 (pO n) (fun _ => rfl) rfl
def DA (n : Nat) (F : (ByteArray × ByteArray × Int) → Option (gB)) (v1 v2 : ByteArray) (v3 : Int) : Option (gB) := if (decide (v3 < (v2.size : Int))) then (if (decide (0 ≤ v3) && decide (v3 < (v2.size : Int))) then (if ((bt v2 v3) != 32) then (if (decide (0 ≤ v3) && decide (v3 < (v2.size : Int))) then (if (decide (0 ≤ v3) && decide (v3 < (v1.size : Int))) then (if ((bt v2 v3) != (bt v1 v3)) then (some (.inl ((false, ()), ()))) else (F (v1, v2, (wrap .i64 (v3 + 1))))) else none) else none) else (F (v1, v2, (wrap .i64 (v3 + 1))))) else none) else (some (.inr ((), ())))
def zA : (ByteArray × ByteArray × Int) → Option (gB) := it (fun F => (C_ q_) (DA n F)) n
def zB : Loop := ⟨⟨cX 30 0 [(0, .val .str), (1, .val .str), (5, .val cQ)], []⟩, [(.ret, ⟨cX 30 0 [(4, .val .bool)], []⟩), (.exit 0, ⟨cX 30 0 [], []⟩)], (ByteArray × ByteArray × Int), fun x => ((dA u_) x, ()), fun (x : ((ByteArray × ByteArray × Int × Unit) × Unit)) => (x.1.1, x.1.2.1, x.1.2.2.1), gB, fun y => y, fun y => y, zA n⟩
def BP (a0 : ByteArray) (a1 : ByteArray) : Option Bool := if ((a0.size : Int) != (a1.size : Int)) then (some false) else ((zA n (a0, a1, 0)).bind fun y4 => ((Sum.elim (fun (z5 : (iA × Unit)) => (some z5.1.1)) (fun (z6 : o9) => (some true))) y4))
def DB : FS := ⟨⟨[.val .str, .val .str], []⟩, ⟨[.val .bool], []⟩, Bool, fun y => ((y, ()), ()), fun o => o.1.1, fun x => BP n x.1.1 x.1.2.1⟩
theorem GX : ∀ F x, dy (MC n) 14 113 0 4 (zB n) F x = (C_ q_) (DA n F) x := fun F x => by kernel_rfl
def tu : Cx := Cx.addLoop (MC n) 113 4 (zB n)
theorem GY : Good (tu n) := Good.loop (P3 n) 14 0 (by kernel_rfl) (GX n) n (fun _ => rfl) (fun _ => rfl) (fun _ => rfl) rfl
theorem MD : cY (tu n) 14 113 0 (DB n) := fun x => by kernel_rfl
def ME : Cx := (Cx.bare (tu n)).addSpec 113 (DB n)
theorem P4 : Good (ME n) := Good.fn (GY n) 14 0 (MD n) (fun _ => rfl) rfl
def kp (a0 : fB) (a1 : ByteArray) : Option ByteArray := (xq n (a0.1, (a0.2.1, a0.2.2))).bind fun y1 => (if (!y1) then (some (ByteArray.mk #[])) else ((fy n (a0.1, (a0.2.1, a0.2.2))).bind fun y2 => ((BP n a1 y2).bind fun y3 => (if (!y3) then (some (ByteArray.mk #[])) else (if (a0.1 == 1) then (some (ByteArray.mk #[105])) else (if (a0.1 == 6) then (some (ByteArray.mk #[105])) else (if (a0.1 == 10) then (some (ByteArray.mk #[105])) else (if (a0.1 == 11) then (some (ByteArray.mk #[105])) else (if (a0.1 == 13) then (some (ByteArray.mk #[105])) else (if (a0.1 == 15) then (some (ByteArray.mk #[105])) else (if (a0.1 == 17) then (some (ByteArray.mk #[105])) else (if (a0.1 == 3) then (if decide (a1.size + a1.size ≤ 140737488351232) then (some (a1 ++ a1)) else none) else (if (a0.1 == 4) then (if (decide (0 ≤ 1) && decide (1 ≤ (a1.size : Int))) then (if (decide (0 ≤ 1) && decide (1 ≤ (a1.size : Int))) then (if decide ((a1.extract 1 a1.size).size + (a1.extract 0 1).size ≤ 140737488351232) then (some ((a1.extract 1 a1.size) ++ (a1.extract 0 1))) else none) else none) else none) else (if (a0.1 == 5) then (if (decide (a0.2.1 ≥ 11)) then (some (ByteArray.mk #[98])) else (some (ByteArray.mk #[105]))) else (if (a0.1 == 7) then (some (ByteArray.mk #[98])) else (if (a0.1 == 8) then (some (ByteArray.mk #[98])) else (if (a0.1 == 9) then (some (ByteArray.mk #[98])) else (some (ByteArray.mk #[])))))))))))))))))))
def jB : FS := ⟨⟨[.val f6, .val .str], []⟩, ⟨[.val .str], []⟩, ByteArray, fun y => ((y, ()), ()), fun o => o.1.1, fun x => kp n x.1.1 x.1.2.1⟩
theorem pP : cY (ME n) 14 114 0 (jB n) := fun x => by kernel_rfl
def MF : Cx := (Cx.bare (ME n)).addSpec 114 (jB n)
theorem P5 : Good (MF n) := Good.fn (P4 n) 14 0 (pP n) (fun _ => rfl) rfl
def kq (n : Nat) (a0 : cR) (a1 : Int) : Option (List Int) := if (decide (0 ≤ a1) && decide (a1 < (a0.length : Int))) then (if ((a0.getD a1.toNat (0, (0, 0))).1 == 19) then (if (decide (0 ≤ a1) && decide (a1 < (a0.length : Int))) then (some [(wrap .i64 ((wrap .i64 (a1 + 1)) + (a0.getD a1.toNat (0, (0, 0))).2.1))]) else none) else (if ((a0.getD a1.toNat (0, (0, 0))).1 == 20) then (if (decide (0 ≤ a1) && decide (a1 < (a0.length : Int))) then (some [(wrap .i64 (a1 + 1)), (wrap .i64 ((wrap .i64 (a1 + 1)) + (a0.getD a1.toNat (0, (0, 0))).2.1))]) else none) else (if ((a0.getD a1.toNat (0, (0, 0))).1 == 25) then (some []) else (some [(wrap .i64 (a1 + 1))])))) else none
def jC : FS := ⟨⟨[.val dI, .val cQ], []⟩, ⟨[.val d6], []⟩, (List Int), fun y => ((y, ()), ()), fun o => o.1.1, fun x => kq n x.1.1 x.1.2.1⟩
theorem pQ : cY (MF n) 14 115 0 (jC n) := fun x => by kernel_rfl
def MG : Cx := (Cx.bare (MF n)).addSpec 115 (jC n)
theorem P6 : Good (MG n) := Good.fn (P5 n) 14 0 (pQ n) (fun _ => rfl) rfl
def GZ (n : Nat) (v20 : cR) (v21 : (List Int)) (v22 : (List ByteArray)) (v23 v24 : (List Bool)) (v25 : Int) : Option (((vn × Unit) ⊕ yf)) := if (decide (0 ≤ v25) && decide (v25 < (v24.length : Int))) then (if (v24.getD v25.toNat false) then (some (.inl (([], 10, ()), ()))) else (if (decide (0 ≤ v25) && decide (v25 < (v20.length : Int))) then (if ((v20.getD v25.toNat (0, (0, 0))).1 == 22) then (if (decide (0 ≤ v25) && decide (v25 < (v22.length : Int))) then (if (decide (0 ≤ v25) && decide (v25 < (v21.length : Int))) then (if (decide (0 ≤ (v21.getD v25.toNat 0)) && decide ((v21.getD v25.toNat 0) < (v22.length : Int))) then (if (!((v22.getD v25.toNat ByteArray.empty).toList == (v22.getD ((v21.getD v25.toNat 0)).toNat ByteArray.empty).toList)) then (some (.inl (([], 10, ()), ()))) else (some (.inr ((v20, v21, v22, v23, v24, v25, ()), ())))) else none) else none) else none) else (some (.inr ((v20, v21, v22, v23, v24, v25, ()), ())))) else none)) else none
def vQ : Loop := ⟨⟨cX 174 0 [(0, .val dI), (5, .val d6), (7, .row 9 .str), (8, .row 4 .bool), (9, .row 4 .bool), (10, .val cQ)], []⟩, [(.ret, ⟨cX 174 0 [(2, .row 9 .str), (3, .val cQ)], []⟩), (.norm, ⟨cX 174 0 [(0, .val dI), (5, .val d6), (7, .row 9 .str), (8, .row 4 .bool), (9, .row 4 .bool), (10, .val cQ)], []⟩)], sx, fun x => ((dp (U_ u_)) x, ()), fun (x : yf) => (dp (U_ k_)) x.1, ((vn × Unit) ⊕ yf), fun y => y, fun y => y, (eX q_) (GZ n)⟩
def G0 (n : Nat) (F : Ip → Option (sx)) (v28 : cR) (v29 : (List Int)) (v30 : (List ByteArray)) (v31 v32 : (List Bool)) (v33 : Int) (v34 : ByteArray) (v35 : (List Int)) (v36 : Int) : Option (sx) := if (decide (v36 < (v35.length : Int))) then (if (decide (0 ≤ v36) && decide (v36 < (v35.length : Int))) then (if (decide (0 ≤ v36) && decide (v36 < (v35.length : Int))) then (if (decide (0 ≤ (v35.getD v36.toNat 0)) && decide ((v35.getD v36.toNat 0) < (v32.length : Int))) then (if (v32.getD ((v35.getD v36.toNat 0)).toNat false) then (if (decide (0 ≤ (v35.getD v36.toNat 0)) && decide ((v35.getD v36.toNat 0) < (v32.length : Int))) then (if (decide (0 ≤ v36) && decide (v36 < (v35.length : Int))) then (if (decide (0 ≤ (v35.getD v36.toNat 0)) && decide ((v35.getD v36.toNat 0) < (v31.length : Int))) then (if (decide (0 ≤ v36) && decide (v36 < (v35.length : Int))) then (if (decide (0 ≤ (v35.getD v36.toNat 0)) && decide ((v35.getD v36.toNat 0) < (v30.length : Int))) then (F (v28, v29, (v30.set ((v35.getD v36.toNat 0)).toNat v34), (v31.set ((v35.getD v36.toNat 0)).toNat true), (v32.set ((v35.getD v36.toNat 0)).toNat true), v33, v34, v35, (wrap .i64 (v36 + 1)))) else none) else none) else none) else none) else none) else (if (decide (0 ≤ v36) && decide (v36 < (v35.length : Int))) then (if (decide (0 ≤ (v35.getD v36.toNat 0)) && decide ((v35.getD v36.toNat 0) < (v31.length : Int))) then (if (v31.getD ((v35.getD v36.toNat 0)).toNat false) then (if (decide (0 ≤ v36) && decide (v36 < (v35.length : Int))) then (if (decide (0 ≤ (v35.getD v36.toNat 0)) && decide ((v35.getD v36.toNat 0) < (v30.length : Int))) then (if (decide (0 ≤ (v35.getD v36.toNat 0)) && decide ((v35.getD v36.toNat 0) < (v32.length : Int))) then (if (decide (0 ≤ v36) && decide (v36 < (v35.length : Int))) then (if (decide (0 ≤ (v35.getD v36.toNat 0)) && decide ((v35.getD v36.toNat 0) < (v31.length : Int))) then (if (decide (0 ≤ v36) && decide (v36 < (v35.length : Int))) then (if (decide (0 ≤ (v35.getD v36.toNat 0)) && decide ((v35.getD v36.toNat 0) < (v30.length : Int))) then (F (v28, v29, (v30.set ((v35.getD v36.toNat 0)).toNat v34), (v31.set ((v35.getD v36.toNat 0)).toNat true), (v32.set ((v35.getD v36.toNat 0)).toNat (!((v30.getD ((v35.getD v36.toNat 0)).toNat ByteArray.empty).toList == v34.toList))), v33, v34, v35, (wrap .i64 (v36 + 1)))) else none) else none) else none) else none) else none) else none) else none) else (if (decide (0 ≤ (v35.getD v36.toNat 0)) && decide ((v35.getD v36.toNat 0) < (v32.length : Int))) then (if (decide (0 ≤ v36) && decide (v36 < (v35.length : Int))) then (if (decide (0 ≤ (v35.getD v36.toNat 0)) && decide ((v35.getD v36.toNat 0) < (v31.length : Int))) then (if (decide (0 ≤ v36) && decide (v36 < (v35.length : Int))) then (if (decide (0 ≤ (v35.getD v36.toNat 0)) && decide ((v35.getD v36.toNat 0) < (v30.length : Int))) then (F (v28, v29, (v30.set ((v35.getD v36.toNat 0)).toNat v34), (v31.set ((v35.getD v36.toNat 0)).toNat true), (v32.set ((v35.getD v36.toNat 0)).toNat false), v33, v34, v35, (wrap .i64 (v36 + 1)))) else none) else none) else none) else none) else none)) else none) else none)) else none) else none) else none) else (some (v28, v29, v30, v31, v32, v33))
def BQ : Ip → Option (sx) := it (fun F => (eX (dZ (C_ q_))) (G0 n F)) n
def BS : Loop := ⟨⟨cX 174 0 [(0, .val dI), (5, .val d6), (7, .row 9 .str), (8, .row 4 .bool), (9, .row 4 .bool), (10, .val cQ), (13, .val .str), (14, .val d6), (15, .val cQ)], []⟩, [(.exit 2, ⟨cX 174 0 [(0, .val dI), (5, .val d6), (7, .row 9 .str), (8, .row 4 .bool), (9, .row 4 .bool), (10, .val cQ)], []⟩)], Ip, fun x => ((du u_) x, ()), fun (x : ((cR × (List Int) × (List ByteArray) × (List Bool) × (List Bool) × Int × ByteArray × (List Int) × Int × Unit) × Unit)) => (du k_) x.1, sx, fun y => ((dp (U_ u_)) y, ()), fun (o : yf) => (dp (U_ k_)) o.1, BQ n⟩
def G1 (F : sx → Option (EN)) (v8 : cR) (v9 : (List Int)) (v10 : (List ByteArray)) (v11 v12 : (List Bool)) (v13 : Int) : Option (EN) := if (decide (v13 < (v8.length : Int))) then (if (decide (0 ≤ v13) && decide (v13 < (v11.length : Int))) then (if (!(v11.getD v13.toNat false)) then (some (.inl (([], 8, ()), ()))) else ((GZ n v8 v9 v10 v11 v12 v13).bind fun y14 => ((Sum.elim (fun (z15 : (vn × Unit)) => (some (.inl ((z15.1.1, z15.1.2.1, ()), ())))) (fun (z16 : yf) => (if (decide (0 ≤ z16.1.2.2.2.2.2.1) && decide (z16.1.2.2.2.2.2.1 < (z16.1.2.2.1.length : Int))) then (if (decide (0 ≤ z16.1.2.2.2.2.2.1) && decide (z16.1.2.2.2.2.2.1 < (z16.1.1.length : Int))) then ((fy n ((z16.1.1.getD z16.1.2.2.2.2.2.1.toNat (0, (0, 0))).1, ((z16.1.1.getD z16.1.2.2.2.2.2.1.toNat (0, (0, 0))).2.1, (z16.1.1.getD z16.1.2.2.2.2.2.1.toNat (0, (0, 0))).2.2))).bind fun y17 => (if (decide ((wrap .i64 ((((z16.1.2.2.1.getD z16.1.2.2.2.2.2.1.toNat ByteArray.empty).size : Nat) : Int) - (y17.size : Int))) < 0)) then (some (.inl (([], 9, ()), ()))) else (if (decide (0 ≤ z16.1.2.2.2.2.2.1) && decide (z16.1.2.2.2.2.2.1 < (z16.1.2.2.1.length : Int))) then (if (decide (0 ≤ (wrap .i64 ((((z16.1.2.2.1.getD z16.1.2.2.2.2.2.1.toNat ByteArray.empty).size : Nat) : Int) - (y17.size : Int)))) && decide ((wrap .i64 ((((z16.1.2.2.1.getD z16.1.2.2.2.2.2.1.toNat ByteArray.empty).size : Nat) : Int) - (y17.size : Int))) ≤ (((z16.1.2.2.1.getD z16.1.2.2.2.2.2.1.toNat ByteArray.empty).size : Nat) : Int))) then (if (decide (0 ≤ z16.1.2.2.2.2.2.1) && decide (z16.1.2.2.2.2.2.1 < (z16.1.1.length : Int))) then ((fy n ((z16.1.1.getD z16.1.2.2.2.2.2.1.toNat (0, (0, 0))).1, ((z16.1.1.getD z16.1.2.2.2.2.2.1.toNat (0, (0, 0))).2.1, (z16.1.1.getD z16.1.2.2.2.2.2.1.toNat (0, (0, 0))).2.2))).bind fun y18 => ((BP n ((z16.1.2.2.1.getD z16.1.2.2.2.2.2.1.toNat ByteArray.empty).extract ((wrap .i64 ((((z16.1.2.2.1.getD z16.1.2.2.2.2.2.1.toNat ByteArray.empty).size : Nat) : Int) - (y17.size : Int)))).toNat (z16.1.2.2.1.getD z16.1.2.2.2.2.2.1.toNat ByteArray.empty).size) y18).bind fun y19 => (if (!y19) then (some (.inl (([], 10, ()), ()))) else (if (decide (0 ≤ z16.1.2.2.2.2.2.1) && decide (z16.1.2.2.2.2.2.1 < (z16.1.2.2.1.length : Int))) then (if (decide (0 ≤ (wrap .i64 ((((z16.1.2.2.1.getD z16.1.2.2.2.2.2.1.toNat ByteArray.empty).size : Nat) : Int) - (y17.size : Int)))) && decide ((wrap .i64 ((((z16.1.2.2.1.getD z16.1.2.2.2.2.2.1.toNat ByteArray.empty).size : Nat) : Int) - (y17.size : Int))) ≤ (((z16.1.2.2.1.getD z16.1.2.2.2.2.2.1.toNat ByteArray.empty).size : Nat) : Int))) then (if (decide (0 ≤ z16.1.2.2.2.2.2.1) && decide (z16.1.2.2.2.2.2.1 < (z16.1.1.length : Int))) then ((kp n ((z16.1.1.getD z16.1.2.2.2.2.2.1.toNat (0, (0, 0))).1, ((z16.1.1.getD z16.1.2.2.2.2.2.1.toNat (0, (0, 0))).2.1, (z16.1.1.getD z16.1.2.2.2.2.2.1.toNat (0, (0, 0))).2.2)) ((z16.1.2.2.1.getD z16.1.2.2.2.2.2.1.toNat ByteArray.empty).extract ((wrap .i64 ((((z16.1.2.2.1.getD z16.1.2.2.2.2.2.1.toNat ByteArray.empty).size : Nat) : Int) - (y17.size : Int)))).toNat (z16.1.2.2.1.getD z16.1.2.2.2.2.2.1.toNat ByteArray.empty).size)).bind fun y20 => (if decide (((z16.1.2.2.1.getD z16.1.2.2.2.2.2.1.toNat ByteArray.empty).extract 0 ((wrap .i64 ((((z16.1.2.2.1.getD z16.1.2.2.2.2.2.1.toNat ByteArray.empty).size : Nat) : Int) - (y17.size : Int)))).toNat).size + y20.size ≤ 140737488351232) then (if (decide ((((((z16.1.2.2.1.getD z16.1.2.2.2.2.2.1.toNat ByteArray.empty).extract 0 ((wrap .i64 ((((z16.1.2.2.1.getD z16.1.2.2.2.2.2.1.toNat ByteArray.empty).size : Nat) : Int) - (y17.size : Int)))).toNat) ++ y20).size : Nat) : Int) > 16)) then (some (.inl (([], 9, ()), ()))) else ((kq n z16.1.1 z16.1.2.2.2.2.2.1).bind fun y21 => ((BQ n (z16.1.1, z16.1.2.1, z16.1.2.2.1, z16.1.2.2.2.1, z16.1.2.2.2.2.1, z16.1.2.2.2.2.2.1, (((z16.1.2.2.1.getD z16.1.2.2.2.2.2.1.toNat ByteArray.empty).extract 0 ((wrap .i64 ((((z16.1.2.2.1.getD z16.1.2.2.2.2.2.1.toNat ByteArray.empty).size : Nat) : Int) - (y17.size : Int)))).toNat) ++ y20), y21, 0)).bind fun y22 => (F (y22.1, y22.2.1, y22.2.2.1, y22.2.2.2.1, y22.2.2.2.2.1, (wrap .i64 (y22.2.2.2.2.2 + 1))))))) else none)) else none) else none) else none)))) else none) else none) else none))) else none) else none))) y14))) else none) else (some (.inr ((v10, ()), ())))
def BT : sx → Option (EN) := it (fun F => (eX q_) (G1 n F)) n
def BU : Loop := ⟨⟨cX 174 0 [(0, .val dI), (5, .val d6), (7, .row 9 .str), (8, .row 4 .bool), (9, .row 4 .bool), (10, .val cQ)], []⟩, [(.ret, ⟨cX 174 0 [(2, .row 9 .str), (3, .val cQ)], []⟩), (.exit 0, ⟨cX 174 0 [(7, .row 9 .str)], []⟩)], sx, fun x => ((dp (U_ u_)) x, ()), fun (x : yf) => (dp (U_ k_)) x.1, EN, fun y => y, fun y => y, BT n⟩
def NI (a0 : cR) : Option ((List ByteArray) × Int) := (EW n a0).bind fun y1 => (if (y1 != 0) then (some ([], y1)) else ((AE n a0).bind fun y2 => (if (decide (0 ≤ (a0.length : Int)) && ((a0.length : Int) == (a0.length : Int)) && decide ((a0.length : Int) * (16 : Int) ≤ 140737488355328) && decide (1 ≤ 16)) then (if (decide (0 ≤ (a0.length : Int)) && ((a0.length : Int) == (a0.length : Int)) && decide ((a0.length : Int) * (1 : Int) ≤ 140737488355328) && decide (1 ≤ 1)) then (if (decide (0 ≤ (a0.length : Int)) && ((a0.length : Int) == (a0.length : Int)) && decide ((a0.length : Int) * (1 : Int) ≤ 140737488355328) && decide (1 ≤ 1)) then (if (decide (0 ≤ 0) && decide (0 < (((List.replicate ((a0.length : Int)).toNat false).length : Nat) : Int))) then ((BT n (a0, y2.1, (List.replicate ((a0.length : Int)).toNat ByteArray.empty), ((List.replicate ((a0.length : Int)).toNat false).set 0 true), (List.replicate ((a0.length : Int)).toNat false), 0)).bind fun y3 => ((Sum.elim (fun (z4 : (vn × Unit)) => (some (z4.1.1, z4.1.2.1))) (fun (z5 : (((List ByteArray) × Unit) × Unit)) => (some (z5.1.1, 0)))) y3)) else none) else none) else none) else none)))
def G2 : FS := ⟨⟨[.val dI], []⟩, ⟨[.val (.sl .str), .val cQ], []⟩, ((List ByteArray) × Int), fun y => ((U_ u_) y, ()), fun o => (o.1.1, o.1.2.1), fun x => NI n x.1.1⟩
theorem IU : ∀ x, fE (MG n) 14 55 0 1000016 (vQ n) x = (vQ n).fn x := fun x => by kernel_rfl
def vR : Cx := Cx.addLoop (MG n) 55 1000016 (vQ n)
theorem IV : Good (vR n) := eu (P6 n) 14 0 (by kernel_rfl) (IU n) (fun _ => rfl) (fun _ => rfl) rfl
theorem IW : ∀ F x, dy (vR n) 14 55 0 27 (BS n) F x = (eX (dZ (C_ q_))) (G0 n F) x := fun F x => by kernel_rfl
def vS : Cx := Cx.addLoop (vR n) 55 27 (BS n)
theorem IX : Good (vS n) := Good.loop (IV n) 14 0 (by kernel_rfl) (IW n) n (fun _ => rfl) (fun _ => rfl) (fun _ => rfl) rfl
theorem IY : ∀ F x, dy (vS n) 14 55 0 10 (BU n) F x = (eX q_) (G1 n F) x := fun F x => by kernel_rfl
def vT : Cx := Cx.addLoop (vS n) 55 10 (BU n)
theorem IZ : Good (vT n) := Good.loop (IX n) 14 0 (by kernel_rfl) (IY n) n (fun _ => rfl) (fun _ => rfl) (fun _ => rfl) rfl
theorem NJ : cY (vT n) 14 55 0 (G2 n) := fun x => by kernel_rfl
def MH : Cx := (Cx.bare (vT n)).addSpec 55 (G2 n)
theorem P7 : Good (MH n) := Good.fn (IZ n) 14 0 (NJ n) (fun _ => rfl) rfl
def fu (n : Nat) (v1 v2 v3 v4 v5 v6 v7 v8 : Int) (v9 : (List Int)) (v10 : cR) (v11 : (List Int)) (v12 : Bool) (v13 : Int) (v14 v15 v16 v17 v18 : (List Int)) (v19 : (List Bool)) (v20 : (List Int)) (v21 v22 v23 : Int) : Option Int := if (decide (v8 < 0)) then (some (-1)) else (some (wrap .i64 ((wrap .i64 (v8 + v6)) + v4)))
def gH : FS := ⟨⟨[.obj 0], [Br, ii]⟩, ⟨[.val cQ], []⟩, Int, fun y => ((y, ()), ()), fun o => o.1.1, fun (x : BA) => fu n x.2.1.1 x.2.1.2.1 x.2.1.2.2.1 x.2.1.2.2.2.1 x.2.1.2.2.2.2.1 x.2.1.2.2.2.2.2.1 x.2.1.2.2.2.2.2.2.1 x.2.1.2.2.2.2.2.2.2.1 x.2.1.2.2.2.2.2.2.2.2.1 x.2.2.1.1 x.2.2.1.2.1 x.2.2.1.2.2.1 x.2.2.1.2.2.2.1 x.2.2.1.2.2.2.2.1 x.2.2.1.2.2.2.2.2.1 x.2.2.1.2.2.2.2.2.2.1 x.2.2.1.2.2.2.2.2.2.2.1 x.2.2.1.2.2.2.2.2.2.2.2.1 x.2.2.1.2.2.2.2.2.2.2.2.2.1 x.2.2.1.2.2.2.2.2.2.2.2.2.2.1 x.2.2.1.2.2.2.2.2.2.2.2.2.2.2.1 x.2.2.1.2.2.2.2.2.2.2.2.2.2.2.2.1 x.2.2.1.2.2.2.2.2.2.2.2.2.2.2.2.2.1⟩
theorem mz : nh (MH n) 65 0 (gH n) := fun x => by kernel_rfl
def MI : Cx := (Cx.bare (MH n)).addQ 65 (gH n)
theorem P8 : Good (MI n) := jW (P7 n) 0 (mz n) (fun _ => rfl) rfl rfl
def fL (v1 v2 v3 v4 v5 v6 v7 v8 : Int) (v9 : (List Int)) (v10 : cR) (v11 : (List Int)) (v12 : Bool) (v13 : Int) (v14 v15 v16 v17 v18 : (List Int)) (v19 : (List Bool)) (v20 : (List Int)) (v21 v22 v23 : Int) : Option Lc := (fu n v1 v2 v3 v4 v5 v6 v7 v8 v9 v10 v11 v12 v13 v14 v15 v16 v17 v18 v19 v20 v21 v22 v23).bind fun y24 => (some ((v7 == y24), v1, v2, v3, v4, v5, v6, v7, v8, v9, v10, v11, v12, v13, v14, v15, v16, v17, v18, v19, v20, v21, v22, v23))
def im : FS := ⟨⟨[.obj 0], [Br, ii]⟩, ⟨[.val .bool], [Br, ii]⟩, Lc, fun y => ((y.1, ()), (du v_) y.2, (du (dp (U_ u_))) y.2.2.2.2.2.2.2.2.2.2, ()), fun (o : (iA × (Bs × mg × Unit))) => (o.1.1, ((ig j_) o.2.1 ((du (dp (U_ k_))) o.2.2.1))), fun (x : BA) => fL n x.2.1.1 x.2.1.2.1 x.2.1.2.2.1 x.2.1.2.2.2.1 x.2.1.2.2.2.2.1 x.2.1.2.2.2.2.2.1 x.2.1.2.2.2.2.2.2.1 x.2.1.2.2.2.2.2.2.2.1 x.2.1.2.2.2.2.2.2.2.2.1 x.2.2.1.1 x.2.2.1.2.1 x.2.2.1.2.2.1 x.2.2.1.2.2.2.1 x.2.2.1.2.2.2.2.1 x.2.2.1.2.2.2.2.2.1 x.2.2.1.2.2.2.2.2.2.1 x.2.2.1.2.2.2.2.2.2.2.1 x.2.2.1.2.2.2.2.2.2.2.2.1 x.2.2.1.2.2.2.2.2.2.2.2.2.1 x.2.2.1.2.2.2.2.2.2.2.2.2.2.1 x.2.2.1.2.2.2.2.2.2.2.2.2.2.2.1 x.2.2.1.2.2.2.2.2.2.2.2.2.2.2.2.1 x.2.2.1.2.2.2.2.2.2.2.2.2.2.2.2.2.1⟩
theorem ni : cY (MI n) 14 20 0 (im n) := fun x => by kernel_rfl
def MJ : Cx := (Cx.bare (MI n)).addSpec 20 (im n)
theorem P9 : Good (MJ n) := Good.fn (P8 n) 14 0 (ni n) (fun _ => rfl) rfl
def gw (n : Nat) (v1 : (List Int)) (v2 : cR) (v3 : (List Int)) (v4 : Bool) (v5 : Int) (v6 v7 v8 v9 v10 : (List Int)) (v11 : (List Bool)) (v12 : (List Int)) (v13 v14 v15 : Int) : Option EF := if v4 then (some (16, v2, v3, v4, v5, v6, v7, v8, v9, v10, v11, v12, v13, v14, v15)) else (some (0, v2, v3, true, 0, [], [0, 0, 0, 0, 0, 0, 0, 0], v8, v1, [0, 0, 0, 0, 0, 0, 0, 0, 0, 0, 0, 0, 0, 0, 0, 0], [false, false, false, false, false, false, false, false, false, false, false, false, false, false, false, false], [], 0, 0, 0))
def gj : FS := ⟨⟨[.obj 0, .val jt], [ii]⟩, ⟨[.val cQ], [ii]⟩, EF, fun y => ((y.1, ()), (du (dp (U_ u_))) y.2, ()), fun (o : (iB × (mg × Unit))) => (o.1.1, ((du (dp (U_ k_))) o.2.1)), fun (x : (jl × (mg × Unit))) => gw n x.1.1 x.2.1.1 x.2.1.2.1 x.2.1.2.2.1 x.2.1.2.2.2.1 x.2.1.2.2.2.2.1 x.2.1.2.2.2.2.2.1 x.2.1.2.2.2.2.2.2.1 x.2.1.2.2.2.2.2.2.2.1 x.2.1.2.2.2.2.2.2.2.2.1 x.2.1.2.2.2.2.2.2.2.2.2.1 x.2.1.2.2.2.2.2.2.2.2.2.2.1 x.2.1.2.2.2.2.2.2.2.2.2.2.2.1 x.2.1.2.2.2.2.2.2.2.2.2.2.2.2.1 x.2.1.2.2.2.2.2.2.2.2.2.2.2.2.2.1⟩
theorem lk : cY (MJ n) 14 63 0 (gj n) := fun x => by kernel_rfl
def MK : Cx := (Cx.bare (MJ n)).addSpec 63 (gj n)
theorem Qa : Good (MK n) := Good.fn (P9 n) 14 0 (lk n) (fun _ => rfl) rfl
def fe (n : Nat) (v1 : cR) (v2 : (List Int)) (v3 : Bool) (v4 : Int) (v5 v6 v7 v8 v9 : (List Int)) (v10 : (List Bool)) (v11 : (List Int)) (v12 v13 v14 : Int) : Option EF := if (decide (0 ≤ (wrap .i64 ((v5.length : Int) - 1))) && decide ((wrap .i64 ((v5.length : Int) - 1)) < (v5.length : Int))) then (if (decide (0 ≤ (wrap .i64 ((v5.length : Int) - 1))) && decide ((wrap .i64 ((v5.length : Int) - 1)) ≤ (v5.length : Int))) then (if (decide ((0 + ((v5.drop 0).take (((wrap .i64 ((v5.length : Int) - 1))).toNat - 0)).length) * 8 ≤ 140737488355328) && decide (1 ≤ 8)) then (some ((v5.getD ((wrap .i64 ((v5.length : Int) - 1))).toNat 0), v1, v2, v3, v4, ([] ++ ((v5.drop 0).take (((wrap .i64 ((v5.length : Int) - 1))).toNat - 0))), v6, v7, v8, v9, v10, v11, v12, v13, v14)) else none) else none) else none
def DC : FS := ⟨⟨[.obj 0], [ii]⟩, ⟨[.val cQ], [ii]⟩, EF, fun y => ((y.1, ()), (du (dp (U_ u_))) y.2, ()), fun (o : (iB × (mg × Unit))) => (o.1.1, ((du (dp (U_ k_))) o.2.1)), fun (x : (Unit × (mg × Unit))) => fe n x.2.1.1 x.2.1.2.1 x.2.1.2.2.1 x.2.1.2.2.2.1 x.2.1.2.2.2.2.1 x.2.1.2.2.2.2.2.1 x.2.1.2.2.2.2.2.2.1 x.2.1.2.2.2.2.2.2.2.1 x.2.1.2.2.2.2.2.2.2.2.1 x.2.1.2.2.2.2.2.2.2.2.2.1 x.2.1.2.2.2.2.2.2.2.2.2.2.1 x.2.1.2.2.2.2.2.2.2.2.2.2.2.1 x.2.1.2.2.2.2.2.2.2.2.2.2.2.2.1 x.2.1.2.2.2.2.2.2.2.2.2.2.2.2.2.1⟩
theorem ML : cY (MK n) 14 178 0 (DC n) := fun x => by kernel_rfl
def MM : Cx := (Cx.bare (MK n)).addSpec 178 (DC n)
theorem Qb : Good (MM n) := Good.fn (Qa n) 14 0 (ML n) (fun _ => rfl) rfl
def ji (n : Nat) (a0 : Int) (a1 : Int) : Option (Int × Int × Bool) := if (a1 == 0) then (some (0, 0, true)) else (if (a1 == (-1)) then (some ((wrap .i64 (0 - a0)), 0, false)) else (if (a1 == 0) then none else (some ((wrap .i64 (a0.tdiv a1)), (wrap .i64 (a0 - (wrap .i64 (a1 * (wrap .i64 (a0.tdiv a1)))))), false))))
def iR : FS := ⟨⟨iE, []⟩, ⟨[.val cQ, .val cQ, .val .bool], []⟩, (Int × Int × Bool), fun y => ((dA u_) y, ()), fun o => (o.1.1, o.1.2.1, o.1.2.2.1), fun x => ji n x.1.1 x.1.2.1⟩
theorem oi : cY (MM n) 14 219 0 (iR n) := fun x => by kernel_rfl
def MN : Cx := (Cx.bare (MM n)).addSpec 219 (iR n)
theorem Qc : Good (MN n) := Good.fn (Qb n) 14 0 (oi n) (fun _ => rfl) rfl
def lv (n : Nat) (F : lH → Option (Int)) (v1 v2 v3 : Int) : Option (Int) := if (decide (v3 < v2)) then (F ((wrap .i64 (v1 + v1)), v2, (wrap .i64 (v3 + 1)))) else (some v1)
def kr : lH → Option (Int) := it (fun F => (C_ q_) (lv n F)) n
def ku : Loop := ⟨⟨cX 15 0 [(0, .val cQ), (1, .val cQ), (5, .val cQ)], []⟩, [(.exit 0, ⟨cX 15 0 [(0, .val cQ)], []⟩)], lH, fun x => ((dA u_) x, ()), fun (x : gC) => (x.1.1, x.1.2.1, x.1.2.2.1), Int, fun y => ((y, ()), ()), fun (o : gD) => o.1.1, kr n⟩
def mA (a0 : Int) (a1 : Int) : Option Int := (kr n (a0, a1, 0)).bind fun y4 => (some y4)
def lw : FS := ⟨⟨iE, []⟩, ⟨[.val cQ], []⟩, Int, fun y => ((y, ()), ()), fun o => o.1.1, fun x => mA n x.1.1 x.1.2.1⟩
theorem pR : ∀ F x, dy (MN n) 14 220 0 2 (ku n) F x = (C_ q_) (lv n F) x := fun F x => by kernel_rfl
def gI : Cx := Cx.addLoop (MN n) 220 2 (ku n)
theorem pS : Good (gI n) := Good.loop (Qc n) 14 0 (by kernel_rfl) (pR n) n (fun _ => rfl) (fun _ => rfl) (fun _ => rfl) rfl
theorem tw : cY (gI n) 14 220 0 (lw n) := fun x => by kernel_rfl
def MO : Cx := (Cx.bare (gI n)).addSpec 220 (lw n)
theorem Qd : Good (MO n) := Good.fn (pS n) 14 0 (tw n) (fun _ => rfl) rfl
def DD (n : Nat) (F : lH → Option (Int)) (v1 v2 v3 : Int) : Option (Int) := if (decide (v3 < v2)) then (if (decide ((v1.tmod 2) < 0)) then (F ((wrap .i64 ((wrap .i64 (v1 - 1)).tdiv 2)), v2, (wrap .i64 (v3 + 1)))) else (F ((wrap .i64 ((wrap .i64 (v1 - (v1.tmod 2))).tdiv 2)), v2, (wrap .i64 (v3 + 1))))) else (some v1)
def zC : lH → Option (Int) := it (fun F => (C_ q_) (DD n F)) n
def zD : Loop := ⟨⟨cX 21 0 [(0, .val cQ), (1, .val cQ), (5, .val cQ)], []⟩, [(.exit 0, ⟨cX 21 0 [(0, .val cQ)], []⟩)], lH, fun x => ((dA u_) x, ()), fun (x : gC) => (x.1.1, x.1.2.1, x.1.2.2.1), Int, fun y => ((y, ()), ()), fun (o : gD) => o.1.1, zC n⟩
def G3 (a0 : Int) (a1 : Int) : Option Int := (zC n (a0, a1, 0)).bind fun y4 => (some y4)
def DE : FS := ⟨⟨iE, []⟩, ⟨[.val cQ], []⟩, Int, fun y => ((y, ()), ()), fun o => o.1.1, fun x => G3 n x.1.1 x.1.2.1⟩
theorem G4 : ∀ F x, dy (MO n) 14 221 0 2 (zD n) F x = (C_ q_) (DD n F) x := fun F x => by kernel_rfl
def tx : Cx := Cx.addLoop (MO n) 221 2 (zD n)
theorem G5 : Good (tx n) := Good.loop (Qd n) 14 0 (by kernel_rfl) (G4 n) n (fun _ => rfl) (fun _ => rfl) (fun _ => rfl) rfl
theorem MP : cY (tx n) 14 221 0 (DE n) := fun x => by kernel_rfl
def MQ : Cx := (Cx.bare (tx n)).addSpec 221 (DE n)
theorem Qe : Good (MQ n) := Good.fn (G5 n) 14 0 (MP n) (fun _ => rfl) rfl
def gZ (n : Nat) (a0 : Bool) : Option Int := if a0 then (some 1) else (some 0)
def kv : FS := ⟨⟨[.val .bool], []⟩, ⟨[.val cQ], []⟩, Int, fun y => ((y, ()), ()), fun o => o.1.1, fun x => gZ n x.1.1⟩
theorem qR : cY (MQ n) 14 222 0 (kv n) := fun x => by kernel_rfl
def MT : Cx := (Cx.bare (MQ n)).addSpec 222 (kv n)
theorem Qf : Good (MT n) := Good.fn (Qe n) 14 0 (qR n) (fun _ => rfl) rfl
def fg (a0 : Int) (a1 : Int) (a2 : Int) : Option (Int × Bool) := (ji n a1 a2).bind fun y1 => (if (a0 == 1) then (some ((wrap .i64 (a1 + a2)), false)) else (if (a0 == 2) then (some ((wrap .i64 (a1 - a2)), false)) else (if (a0 == 3) then (some ((wrap .i64 (a1 * a2)), false)) else (if (a0 == 4) then (some (y1.1, y1.2.2)) else (if (a0 == 5) then (some (y1.2.1, y1.2.2)) else (if (a0 == 6) then (some ((bits .and .i64 a1 a2), false)) else (if (a0 == 7) then (some ((bits .or .i64 a1 a2), false)) else (if (a0 == 8) then (some ((bits .xor .i64 a1 a2), false)) else (if (a0 == 9) then ((mA n a1 ((wrap .i64 ((a2.tmod 64) + 64)).tmod 64)).bind fun y2 => (some (y2, false))) else (if (a0 == 10) then ((G3 n a1 ((wrap .i64 ((a2.tmod 64) + 64)).tmod 64)).bind fun y3 => (some (y3, false))) else (if (a0 == 11) then ((gZ n (decide (a1 < a2))).bind fun y4 => (some (y4, false))) else (if (a0 == 12) then ((gZ n (a1 == a2)).bind fun y5 => (some (y5, false))) else (some (0, true))))))))))))))
def lf : FS := ⟨⟨fa, []⟩, ⟨[.val cQ, .val .bool], []⟩, (Int × Bool), fun y => ((U_ u_) y, ()), fun o => (o.1.1, o.1.2.1), fun x => fg n x.1.1 x.1.2.1 x.1.2.2.1⟩
theorem rM : cY (MT n) 14 180 0 (lf n) := fun x => by kernel_rfl
def MU : Cx := (Cx.bare (MT n)).addSpec 180 (lf n)
theorem Qg : Good (MU n) := Good.fn (Qf n) 14 0 (rM n) (fun _ => rfl) rfl
def DF (n : Nat) (F : lH → Option (Int)) (v1 v2 v3 : Int) : Option (Int) := if (decide (v3 < v1)) then (F (v1, (wrap .i64 (2 * v2)), (wrap .i64 (v3 + 1)))) else (some v2)
def zE : lH → Option (Int) := it (fun F => (C_ q_) (DF n F)) n
def zF : Loop := ⟨⟨cX 13 0 [(0, .val cQ), (3, .val cQ), (4, .val cQ)], []⟩, [(.exit 0, ⟨cX 13 0 [(3, .val cQ)], []⟩)], lH, fun x => ((dA u_) x, ()), fun (x : gC) => (x.1.1, x.1.2.1, x.1.2.2.1), Int, fun y => ((y, ()), ()), fun (o : gD) => o.1.1, zE n⟩
def BV (a0 : Int) : Option Int := (zE n (a0, 1, 0)).bind fun y4 => (some y4)
def DG : FS := ⟨⟨[.val cQ], []⟩, ⟨[.val cQ], []⟩, Int, fun y => ((y, ()), ()), fun o => o.1.1, fun x => BV n x.1.1⟩
theorem G6 : ∀ F x, dy (MU n) 14 182 0 3 (zF n) F x = (C_ q_) (DF n F) x := fun F x => by kernel_rfl
def tz : Cx := Cx.addLoop (MU n) 182 3 (zF n)
theorem G7 : Good (tz n) := Good.loop (Qg n) 14 0 (by kernel_rfl) (G6 n) n (fun _ => rfl) (fun _ => rfl) (fun _ => rfl) rfl
theorem MV : cY (tz n) 14 182 0 (DG n) := fun x => by kernel_rfl
def MW : Cx := (Cx.bare (tz n)).addSpec 182 (DG n)
theorem Qh : Good (MW n) := Good.fn (G7 n) 14 0 (MV n) (fun _ => rfl) rfl
def G8 (v57 : Int) (v58 : cR) (v59 : (List Int)) (v60 : Bool) (v61 : Int) (v62 v63 v64 v65 v66 : (List Int)) (v67 : (List Bool)) (v68 : (List Int)) (v69 v70 v71 v72 v73 v74 v75 v76 : Int) : Option ((vq ⊕ vq)) := if (v72 == 19) then (some (.inl (((wrap .i64 ((wrap .i64 (v57 + 1)) + v73)), ()), ((v58, v59, v60, v61, v62, v63, v64, v65, v66, v67, v68, v69, v70, v71, ()), (v72, v73, v74, ()), (0, 0, ()), ())))) else (if (v72 == 20) then ((fe n v58 v59 v60 v61 v62 v63 v64 v65 v66 v67 v68 v69 v70 v71).bind fun y77 => (if (y77.1 == 0) then (some (.inl (((wrap .i64 ((wrap .i64 (v57 + 1)) + v73)), ()), ((y77.2.1, y77.2.2.1, y77.2.2.2.1, y77.2.2.2.2.1, y77.2.2.2.2.2.1, y77.2.2.2.2.2.2.1, y77.2.2.2.2.2.2.2.1, y77.2.2.2.2.2.2.2.2.1, y77.2.2.2.2.2.2.2.2.2.1, y77.2.2.2.2.2.2.2.2.2.2.1, y77.2.2.2.2.2.2.2.2.2.2.2.1, y77.2.2.2.2.2.2.2.2.2.2.2.2.1, y77.2.2.2.2.2.2.2.2.2.2.2.2.2.1, y77.2.2.2.2.2.2.2.2.2.2.2.2.2.2, ()), (v72, v73, v74, ()), (0, 0, ()), ())))) else (some (.inr ((v57, ()), ((y77.2.1, y77.2.2.1, y77.2.2.2.1, y77.2.2.2.2.1, y77.2.2.2.2.2.1, y77.2.2.2.2.2.2.1, y77.2.2.2.2.2.2.2.1, y77.2.2.2.2.2.2.2.2.1, y77.2.2.2.2.2.2.2.2.2.1, y77.2.2.2.2.2.2.2.2.2.2.1, y77.2.2.2.2.2.2.2.2.2.2.2.1, y77.2.2.2.2.2.2.2.2.2.2.2.2.1, y77.2.2.2.2.2.2.2.2.2.2.2.2.2.1, y77.2.2.2.2.2.2.2.2.2.2.2.2.2.2, ()), (v72, v73, v74, ()), (v75, v76, ()), ())))))) else (if (v72 == 21) then (if (decide ((v68.length + 1) * 8 ≤ 140737488355328) && decide (1 ≤ 8)) then (some (.inr ((v57, ()), ((v58, v59, v60, v61, v62, v63, v64, v65, v66, v67, (v68 ++ [v73]), v69, v70, v71, ()), (v72, v73, v74, ()), (v75, v76, ()), ())))) else none) else (if (v72 == 22) then (if (decide (0 ≤ (wrap .i64 ((v68.length : Int) - 1))) && decide ((wrap .i64 ((v68.length : Int) - 1)) < (v68.length : Int))) then (if (decide (0 ≤ (wrap .i64 ((v68.length : Int) - 1))) && decide ((wrap .i64 ((v68.length : Int) - 1)) ≤ (v68.length : Int))) then (if (decide ((0 + ((v68.drop 0).take (((wrap .i64 ((v68.length : Int) - 1))).toNat - 0)).length) * 8 ≤ 140737488355328) && decide (1 ≤ 8)) then (if (decide ((wrap .i64 ((v68.getD ((wrap .i64 ((v68.length : Int) - 1))).toNat 0) - 1)) > 0)) then (if (decide ((([] ++ ((v68.drop 0).take (((wrap .i64 ((v68.length : Int) - 1))).toNat - 0))).length + 1) * 8 ≤ 140737488355328) && decide (1 ≤ 8)) then (if (decide (0 ≤ v57) && decide (v57 < (v59.length : Int))) then (some (.inl (((wrap .i64 ((v59.getD v57.toNat 0) + 1)), ()), ((v58, v59, v60, v61, v62, v63, v64, v65, v66, v67, (([] ++ ((v68.drop 0).take (((wrap .i64 ((v68.length : Int) - 1))).toNat - 0))) ++ [(wrap .i64 ((v68.getD ((wrap .i64 ((v68.length : Int) - 1))).toNat 0) - 1))]), v69, v70, v71, ()), (v72, v73, v74, ()), (0, 0, ()), ())))) else none) else none) else (some (.inl (((wrap .i64 (v57 + 1)), ()), ((v58, v59, v60, v61, v62, v63, v64, v65, v66, v67, ([] ++ ((v68.drop 0).take (((wrap .i64 ((v68.length : Int) - 1))).toNat - 0))), v69, v70, v71, ()), (v72, v73, v74, ()), (0, 0, ()), ()))))) else none) else none) else none) else (if (v72 == 23) then ((BV n v73).bind fun y78 => (some (.inl (((wrap .i64 (v57 + 1)), ()), ((v58, v59, v60, v61, v62, v63, v64, v65, v66, v67, v68, (wrap .i64 (v69 + y78)), v70, v71, ()), (v72, v73, v74, ()), (1, v73, ()), ()))))) else (if (v72 == 24) then ((BV n v73).bind fun y79 => (some (.inl (((wrap .i64 (v57 + 1)), ()), ((v58, v59, v60, v61, v62, v63, v64, v65, v66, v67, v68, (wrap .i64 (v69 - y79)), v70, v71, ()), (v72, v73, v74, ()), (2, v73, ()), ()))))) else (if (v72 == 25) then (some (.inl ((v57, ()), ((v58, v59, false, v61, v62, v63, v64, v65, v66, v67, v68, v69, v70, v71, ()), (v72, v73, v74, ()), (3, 0, ()), ())))) else (some (.inr ((v57, ()), ((v58, v59, v60, v61, v62, v63, v64, v65, v66, v67, v68, v69, v70, v71, ()), (v72, v73, v74, ()), (v75, v76, ()), ()))))))))))
def vU : Loop := ⟨⟨cX 94 0 [(0, .obj 0), (2, .val cQ), (4, .obj 1), (7, .obj 2)], [ii, fa, iE]⟩, [(.ret, ⟨cX 94 0 [(6, .val cQ), (7, .obj 2)], [ii, fa, iE]⟩), (.norm, ⟨cX 94 0 [(2, .val cQ), (7, .obj 2)], [ii, fa, iE]⟩)], (Int × cR × (List Int) × Bool × Int × (List Int) × (List Int) × (List Int) × (List Int) × (List Int) × (List Bool) × (List Int) × Int × Int × Int × Int × Int × Int × Int × Int), fun x => ((x.1, ()), (du (dp (U_ v_))) x.2, (dA v_) x.2.2.2.2.2.2.2.2.2.2.2.2.2.2.2, (U_ u_) x.2.2.2.2.2.2.2.2.2.2.2.2.2.2.2.2.2.2, ()), fun (x : vq) => (x.1.1, ((ig (nU (J_ j_))) x.2.1 ((mS j_) x.2.2.1 ((U_ k_) x.2.2.2.1)))), (vq ⊕ vq), fun y => y, fun y => y, (kS (dZ q_)) (G8 n)⟩
def G9 (v16 : Int) (v17 : cR) (v18 : (List Int)) (v19 : Bool) (v20 : Int) (v21 v22 v23 v24 v25 : (List Int)) (v26 : (List Bool)) (v27 : (List Int)) (v28 v29 v30 : Int) (v31 : (List (List Int))) (v32 v33 v34 v35 v36 : Int) : Option ((vo ⊕ vo)) := if (v34 == 4) then ((fe n v17 v18 v19 v20 v21 v22 v23 v24 v25 v26 v27 v28 v29 v30).bind fun y37 => ((fe n y37.2.1 y37.2.2.1 y37.2.2.2.1 y37.2.2.2.2.1 y37.2.2.2.2.2.1 y37.2.2.2.2.2.2.1 y37.2.2.2.2.2.2.2.1 y37.2.2.2.2.2.2.2.2.1 y37.2.2.2.2.2.2.2.2.2.1 y37.2.2.2.2.2.2.2.2.2.2.1 y37.2.2.2.2.2.2.2.2.2.2.2.1 y37.2.2.2.2.2.2.2.2.2.2.2.2.1 y37.2.2.2.2.2.2.2.2.2.2.2.2.2.1 y37.2.2.2.2.2.2.2.2.2.2.2.2.2.2).bind fun y38 => (if (v34 == 4) then (if (decide ((y38.2.2.2.2.2.1.length + 1) * 8 ≤ 140737488355328) && decide (1 ≤ 8)) then (if (decide (((y38.2.2.2.2.2.1 ++ [y37.1]).length + 1) * 8 ≤ 140737488355328) && decide (1 ≤ 8)) then (some (.inl ((v16, ()), ((y38.2.1, y38.2.2.1, y38.2.2.2.1, y38.2.2.2.2.1, ((y38.2.2.2.2.2.1 ++ [y37.1]) ++ [y38.1]), y38.2.2.2.2.2.2.1, y38.2.2.2.2.2.2.2.1, y38.2.2.2.2.2.2.2.2.1, y38.2.2.2.2.2.2.2.2.2.1, y38.2.2.2.2.2.2.2.2.2.2.1, y38.2.2.2.2.2.2.2.2.2.2.2.1, y38.2.2.2.2.2.2.2.2.2.2.2.2.1, y38.2.2.2.2.2.2.2.2.2.2.2.2.2.1, y38.2.2.2.2.2.2.2.2.2.2.2.2.2.2, ()), (v31, ()), (v32, v33, ()), (v34, v35, v36, ()), ())))) else none) else none) else (if (v34 == 5) then ((fg n v35 y38.1 y37.1).bind fun y39 => (if (decide ((y38.2.2.2.2.2.1.length + 1) * 8 ≤ 140737488355328) && decide (1 ≤ 8)) then (if y39.2 then (some (.inl ((v16, ()), ((y38.2.1, y38.2.2.1, y38.2.2.2.1, y38.2.2.2.2.1, (y38.2.2.2.2.2.1 ++ [y39.1]), y38.2.2.2.2.2.2.1, y38.2.2.2.2.2.2.2.1, y38.2.2.2.2.2.2.2.2.1, y38.2.2.2.2.2.2.2.2.2.1, y38.2.2.2.2.2.2.2.2.2.2.1, y38.2.2.2.2.2.2.2.2.2.2.2.1, y38.2.2.2.2.2.2.2.2.2.2.2.2.1, (wrap .i64 (y38.2.2.2.2.2.2.2.2.2.2.2.2.2.1 + 1)), y38.2.2.2.2.2.2.2.2.2.2.2.2.2.2, ()), (v31, ()), (v32, v33, ()), (v34, v35, v36, ()), ())))) else (some (.inl ((v16, ()), ((y38.2.1, y38.2.2.1, y38.2.2.2.1, y38.2.2.2.2.1, (y38.2.2.2.2.2.1 ++ [y39.1]), y38.2.2.2.2.2.2.1, y38.2.2.2.2.2.2.2.1, y38.2.2.2.2.2.2.2.2.1, y38.2.2.2.2.2.2.2.2.2.1, y38.2.2.2.2.2.2.2.2.2.2.1, y38.2.2.2.2.2.2.2.2.2.2.2.1, y38.2.2.2.2.2.2.2.2.2.2.2.2.1, y38.2.2.2.2.2.2.2.2.2.2.2.2.2.1, y38.2.2.2.2.2.2.2.2.2.2.2.2.2.2, ()), (v31, ()), (v32, v33, ()), (v34, v35, v36, ()), ()))))) else none)) else (if (v34 == 8) then (if (decide ((y38.2.2.2.2.2.1.length + 1) * 8 ≤ 140737488355328) && decide (1 ≤ 8)) then (some (.inl ((v16, ()), ((y38.2.1, y38.2.2.1, y38.2.2.2.1, y38.2.2.2.2.1, (y38.2.2.2.2.2.1 ++ [(if y37.1 < y38.1 then y37.1 else y38.1)]), y38.2.2.2.2.2.2.1, y38.2.2.2.2.2.2.2.1, y38.2.2.2.2.2.2.2.2.1, y38.2.2.2.2.2.2.2.2.2.1, y38.2.2.2.2.2.2.2.2.2.2.1, y38.2.2.2.2.2.2.2.2.2.2.2.1, y38.2.2.2.2.2.2.2.2.2.2.2.2.1, y38.2.2.2.2.2.2.2.2.2.2.2.2.2.1, y38.2.2.2.2.2.2.2.2.2.2.2.2.2.2, ()), (v31, ()), (v32, v33, ()), (v34, v35, v36, ()), ())))) else none) else (if (v34 == 9) then (if (decide ((y38.2.2.2.2.2.1.length + 1) * 8 ≤ 140737488355328) && decide (1 ≤ 8)) then (some (.inl ((v16, ()), ((y38.2.1, y38.2.2.1, y38.2.2.2.1, y38.2.2.2.2.1, (y38.2.2.2.2.2.1 ++ [(if y37.1 > y38.1 then y37.1 else y38.1)]), y38.2.2.2.2.2.2.1, y38.2.2.2.2.2.2.2.1, y38.2.2.2.2.2.2.2.2.1, y38.2.2.2.2.2.2.2.2.2.1, y38.2.2.2.2.2.2.2.2.2.2.1, y38.2.2.2.2.2.2.2.2.2.2.2.1, y38.2.2.2.2.2.2.2.2.2.2.2.2.1, y38.2.2.2.2.2.2.2.2.2.2.2.2.2.1, y38.2.2.2.2.2.2.2.2.2.2.2.2.2.2, ()), (v31, ()), (v32, v33, ()), (v34, v35, v36, ()), ())))) else none) else (some (.inl ((v16, ()), ((y38.2.1, y38.2.2.1, y38.2.2.2.1, y38.2.2.2.2.1, y38.2.2.2.2.2.1, y38.2.2.2.2.2.2.1, y38.2.2.2.2.2.2.2.1, y38.2.2.2.2.2.2.2.2.1, y38.2.2.2.2.2.2.2.2.2.1, y38.2.2.2.2.2.2.2.2.2.2.1, y38.2.2.2.2.2.2.2.2.2.2.2.1, y38.2.2.2.2.2.2.2.2.2.2.2.2.1, y38.2.2.2.2.2.2.2.2.2.2.2.2.2.1, y38.2.2.2.2.2.2.2.2.2.2.2.2.2.2, ()), (v31, ()), (v32, v33, ()), (v34, v35, v36, ()), ())))))))))) else (if (v34 == 5) then ((fe n v17 v18 v19 v20 v21 v22 v23 v24 v25 v26 v27 v28 v29 v30).bind fun y40 => ((fe n y40.2.1 y40.2.2.1 y40.2.2.2.1 y40.2.2.2.2.1 y40.2.2.2.2.2.1 y40.2.2.2.2.2.2.1 y40.2.2.2.2.2.2.2.1 y40.2.2.2.2.2.2.2.2.1 y40.2.2.2.2.2.2.2.2.2.1 y40.2.2.2.2.2.2.2.2.2.2.1 y40.2.2.2.2.2.2.2.2.2.2.2.1 y40.2.2.2.2.2.2.2.2.2.2.2.2.1 y40.2.2.2.2.2.2.2.2.2.2.2.2.2.1 y40.2.2.2.2.2.2.2.2.2.2.2.2.2.2).bind fun y41 => (if (v34 == 4) then (if (decide ((y41.2.2.2.2.2.1.length + 1) * 8 ≤ 140737488355328) && decide (1 ≤ 8)) then (if (decide (((y41.2.2.2.2.2.1 ++ [y40.1]).length + 1) * 8 ≤ 140737488355328) && decide (1 ≤ 8)) then (some (.inl ((v16, ()), ((y41.2.1, y41.2.2.1, y41.2.2.2.1, y41.2.2.2.2.1, ((y41.2.2.2.2.2.1 ++ [y40.1]) ++ [y41.1]), y41.2.2.2.2.2.2.1, y41.2.2.2.2.2.2.2.1, y41.2.2.2.2.2.2.2.2.1, y41.2.2.2.2.2.2.2.2.2.1, y41.2.2.2.2.2.2.2.2.2.2.1, y41.2.2.2.2.2.2.2.2.2.2.2.1, y41.2.2.2.2.2.2.2.2.2.2.2.2.1, y41.2.2.2.2.2.2.2.2.2.2.2.2.2.1, y41.2.2.2.2.2.2.2.2.2.2.2.2.2.2, ()), (v31, ()), (v32, v33, ()), (v34, v35, v36, ()), ())))) else none) else none) else (if (v34 == 5) then ((fg n v35 y41.1 y40.1).bind fun y42 => (if (decide ((y41.2.2.2.2.2.1.length + 1) * 8 ≤ 140737488355328) && decide (1 ≤ 8)) then (if y42.2 then (some (.inl ((v16, ()), ((y41.2.1, y41.2.2.1, y41.2.2.2.1, y41.2.2.2.2.1, (y41.2.2.2.2.2.1 ++ [y42.1]), y41.2.2.2.2.2.2.1, y41.2.2.2.2.2.2.2.1, y41.2.2.2.2.2.2.2.2.1, y41.2.2.2.2.2.2.2.2.2.1, y41.2.2.2.2.2.2.2.2.2.2.1, y41.2.2.2.2.2.2.2.2.2.2.2.1, y41.2.2.2.2.2.2.2.2.2.2.2.2.1, (wrap .i64 (y41.2.2.2.2.2.2.2.2.2.2.2.2.2.1 + 1)), y41.2.2.2.2.2.2.2.2.2.2.2.2.2.2, ()), (v31, ()), (v32, v33, ()), (v34, v35, v36, ()), ())))) else (some (.inl ((v16, ()), ((y41.2.1, y41.2.2.1, y41.2.2.2.1, y41.2.2.2.2.1, (y41.2.2.2.2.2.1 ++ [y42.1]), y41.2.2.2.2.2.2.1, y41.2.2.2.2.2.2.2.1, y41.2.2.2.2.2.2.2.2.1, y41.2.2.2.2.2.2.2.2.2.1, y41.2.2.2.2.2.2.2.2.2.2.1, y41.2.2.2.2.2.2.2.2.2.2.2.1, y41.2.2.2.2.2.2.2.2.2.2.2.2.1, y41.2.2.2.2.2.2.2.2.2.2.2.2.2.1, y41.2.2.2.2.2.2.2.2.2.2.2.2.2.2, ()), (v31, ()), (v32, v33, ()), (v34, v35, v36, ()), ()))))) else none)) else (if (v34 == 8) then (if (decide ((y41.2.2.2.2.2.1.length + 1) * 8 ≤ 140737488355328) && decide (1 ≤ 8)) then (some (.inl ((v16, ()), ((y41.2.1, y41.2.2.1, y41.2.2.2.1, y41.2.2.2.2.1, (y41.2.2.2.2.2.1 ++ [(if y40.1 < y41.1 then y40.1 else y41.1)]), y41.2.2.2.2.2.2.1, y41.2.2.2.2.2.2.2.1, y41.2.2.2.2.2.2.2.2.1, y41.2.2.2.2.2.2.2.2.2.1, y41.2.2.2.2.2.2.2.2.2.2.1, y41.2.2.2.2.2.2.2.2.2.2.2.1, y41.2.2.2.2.2.2.2.2.2.2.2.2.1, y41.2.2.2.2.2.2.2.2.2.2.2.2.2.1, y41.2.2.2.2.2.2.2.2.2.2.2.2.2.2, ()), (v31, ()), (v32, v33, ()), (v34, v35, v36, ()), ())))) else none) else (if (v34 == 9) then (if (decide ((y41.2.2.2.2.2.1.length + 1) * 8 ≤ 140737488355328) && decide (1 ≤ 8)) then (some (.inl ((v16, ()), ((y41.2.1, y41.2.2.1, y41.2.2.2.1, y41.2.2.2.2.1, (y41.2.2.2.2.2.1 ++ [(if y40.1 > y41.1 then y40.1 else y41.1)]), y41.2.2.2.2.2.2.1, y41.2.2.2.2.2.2.2.1, y41.2.2.2.2.2.2.2.2.1, y41.2.2.2.2.2.2.2.2.2.1, y41.2.2.2.2.2.2.2.2.2.2.1, y41.2.2.2.2.2.2.2.2.2.2.2.1, y41.2.2.2.2.2.2.2.2.2.2.2.2.1, y41.2.2.2.2.2.2.2.2.2.2.2.2.2.1, y41.2.2.2.2.2.2.2.2.2.2.2.2.2.2, ()), (v31, ()), (v32, v33, ()), (v34, v35, v36, ()), ())))) else none) else (some (.inl ((v16, ()), ((y41.2.1, y41.2.2.1, y41.2.2.2.1, y41.2.2.2.2.1, y41.2.2.2.2.2.1, y41.2.2.2.2.2.2.1, y41.2.2.2.2.2.2.2.1, y41.2.2.2.2.2.2.2.2.1, y41.2.2.2.2.2.2.2.2.2.1, y41.2.2.2.2.2.2.2.2.2.2.1, y41.2.2.2.2.2.2.2.2.2.2.2.1, y41.2.2.2.2.2.2.2.2.2.2.2.2.1, y41.2.2.2.2.2.2.2.2.2.2.2.2.2.1, y41.2.2.2.2.2.2.2.2.2.2.2.2.2.2, ()), (v31, ()), (v32, v33, ()), (v34, v35, v36, ()), ())))))))))) else (if (v34 == 8) then ((fe n v17 v18 v19 v20 v21 v22 v23 v24 v25 v26 v27 v28 v29 v30).bind fun y43 => ((fe n y43.2.1 y43.2.2.1 y43.2.2.2.1 y43.2.2.2.2.1 y43.2.2.2.2.2.1 y43.2.2.2.2.2.2.1 y43.2.2.2.2.2.2.2.1 y43.2.2.2.2.2.2.2.2.1 y43.2.2.2.2.2.2.2.2.2.1 y43.2.2.2.2.2.2.2.2.2.2.1 y43.2.2.2.2.2.2.2.2.2.2.2.1 y43.2.2.2.2.2.2.2.2.2.2.2.2.1 y43.2.2.2.2.2.2.2.2.2.2.2.2.2.1 y43.2.2.2.2.2.2.2.2.2.2.2.2.2.2).bind fun y44 => (if (v34 == 4) then (if (decide ((y44.2.2.2.2.2.1.length + 1) * 8 ≤ 140737488355328) && decide (1 ≤ 8)) then (if (decide (((y44.2.2.2.2.2.1 ++ [y43.1]).length + 1) * 8 ≤ 140737488355328) && decide (1 ≤ 8)) then (some (.inl ((v16, ()), ((y44.2.1, y44.2.2.1, y44.2.2.2.1, y44.2.2.2.2.1, ((y44.2.2.2.2.2.1 ++ [y43.1]) ++ [y44.1]), y44.2.2.2.2.2.2.1, y44.2.2.2.2.2.2.2.1, y44.2.2.2.2.2.2.2.2.1, y44.2.2.2.2.2.2.2.2.2.1, y44.2.2.2.2.2.2.2.2.2.2.1, y44.2.2.2.2.2.2.2.2.2.2.2.1, y44.2.2.2.2.2.2.2.2.2.2.2.2.1, y44.2.2.2.2.2.2.2.2.2.2.2.2.2.1, y44.2.2.2.2.2.2.2.2.2.2.2.2.2.2, ()), (v31, ()), (v32, v33, ()), (v34, v35, v36, ()), ())))) else none) else none) else (if (v34 == 5) then ((fg n v35 y44.1 y43.1).bind fun y45 => (if (decide ((y44.2.2.2.2.2.1.length + 1) * 8 ≤ 140737488355328) && decide (1 ≤ 8)) then (if y45.2 then (some (.inl ((v16, ()), ((y44.2.1, y44.2.2.1, y44.2.2.2.1, y44.2.2.2.2.1, (y44.2.2.2.2.2.1 ++ [y45.1]), y44.2.2.2.2.2.2.1, y44.2.2.2.2.2.2.2.1, y44.2.2.2.2.2.2.2.2.1, y44.2.2.2.2.2.2.2.2.2.1, y44.2.2.2.2.2.2.2.2.2.2.1, y44.2.2.2.2.2.2.2.2.2.2.2.1, y44.2.2.2.2.2.2.2.2.2.2.2.2.1, (wrap .i64 (y44.2.2.2.2.2.2.2.2.2.2.2.2.2.1 + 1)), y44.2.2.2.2.2.2.2.2.2.2.2.2.2.2, ()), (v31, ()), (v32, v33, ()), (v34, v35, v36, ()), ())))) else (some (.inl ((v16, ()), ((y44.2.1, y44.2.2.1, y44.2.2.2.1, y44.2.2.2.2.1, (y44.2.2.2.2.2.1 ++ [y45.1]), y44.2.2.2.2.2.2.1, y44.2.2.2.2.2.2.2.1, y44.2.2.2.2.2.2.2.2.1, y44.2.2.2.2.2.2.2.2.2.1, y44.2.2.2.2.2.2.2.2.2.2.1, y44.2.2.2.2.2.2.2.2.2.2.2.1, y44.2.2.2.2.2.2.2.2.2.2.2.2.1, y44.2.2.2.2.2.2.2.2.2.2.2.2.2.1, y44.2.2.2.2.2.2.2.2.2.2.2.2.2.2, ()), (v31, ()), (v32, v33, ()), (v34, v35, v36, ()), ()))))) else none)) else (if (v34 == 8) then (if (decide ((y44.2.2.2.2.2.1.length + 1) * 8 ≤ 140737488355328) && decide (1 ≤ 8)) then (some (.inl ((v16, ()), ((y44.2.1, y44.2.2.1, y44.2.2.2.1, y44.2.2.2.2.1, (y44.2.2.2.2.2.1 ++ [(if y43.1 < y44.1 then y43.1 else y44.1)]), y44.2.2.2.2.2.2.1, y44.2.2.2.2.2.2.2.1, y44.2.2.2.2.2.2.2.2.1, y44.2.2.2.2.2.2.2.2.2.1, y44.2.2.2.2.2.2.2.2.2.2.1, y44.2.2.2.2.2.2.2.2.2.2.2.1, y44.2.2.2.2.2.2.2.2.2.2.2.2.1, y44.2.2.2.2.2.2.2.2.2.2.2.2.2.1, y44.2.2.2.2.2.2.2.2.2.2.2.2.2.2, ()), (v31, ()), (v32, v33, ()), (v34, v35, v36, ()), ())))) else none) else (if (v34 == 9) then (if (decide ((y44.2.2.2.2.2.1.length + 1) * 8 ≤ 140737488355328) && decide (1 ≤ 8)) then (some (.inl ((v16, ()), ((y44.2.1, y44.2.2.1, y44.2.2.2.1, y44.2.2.2.2.1, (y44.2.2.2.2.2.1 ++ [(if y43.1 > y44.1 then y43.1 else y44.1)]), y44.2.2.2.2.2.2.1, y44.2.2.2.2.2.2.2.1, y44.2.2.2.2.2.2.2.2.1, y44.2.2.2.2.2.2.2.2.2.1, y44.2.2.2.2.2.2.2.2.2.2.1, y44.2.2.2.2.2.2.2.2.2.2.2.1, y44.2.2.2.2.2.2.2.2.2.2.2.2.1, y44.2.2.2.2.2.2.2.2.2.2.2.2.2.1, y44.2.2.2.2.2.2.2.2.2.2.2.2.2.2, ()), (v31, ()), (v32, v33, ()), (v34, v35, v36, ()), ())))) else none) else (some (.inl ((v16, ()), ((y44.2.1, y44.2.2.1, y44.2.2.2.1, y44.2.2.2.2.1, y44.2.2.2.2.2.1, y44.2.2.2.2.2.2.1, y44.2.2.2.2.2.2.2.1, y44.2.2.2.2.2.2.2.2.1, y44.2.2.2.2.2.2.2.2.2.1, y44.2.2.2.2.2.2.2.2.2.2.1, y44.2.2.2.2.2.2.2.2.2.2.2.1, y44.2.2.2.2.2.2.2.2.2.2.2.2.1, y44.2.2.2.2.2.2.2.2.2.2.2.2.2.1, y44.2.2.2.2.2.2.2.2.2.2.2.2.2.2, ()), (v31, ()), (v32, v33, ()), (v34, v35, v36, ()), ())))))))))) else (if (v34 == 9) then ((fe n v17 v18 v19 v20 v21 v22 v23 v24 v25 v26 v27 v28 v29 v30).bind fun y46 => ((fe n y46.2.1 y46.2.2.1 y46.2.2.2.1 y46.2.2.2.2.1 y46.2.2.2.2.2.1 y46.2.2.2.2.2.2.1 y46.2.2.2.2.2.2.2.1 y46.2.2.2.2.2.2.2.2.1 y46.2.2.2.2.2.2.2.2.2.1 y46.2.2.2.2.2.2.2.2.2.2.1 y46.2.2.2.2.2.2.2.2.2.2.2.1 y46.2.2.2.2.2.2.2.2.2.2.2.2.1 y46.2.2.2.2.2.2.2.2.2.2.2.2.2.1 y46.2.2.2.2.2.2.2.2.2.2.2.2.2.2).bind fun y47 => (if (v34 == 4) then (if (decide ((y47.2.2.2.2.2.1.length + 1) * 8 ≤ 140737488355328) && decide (1 ≤ 8)) then (if (decide (((y47.2.2.2.2.2.1 ++ [y46.1]).length + 1) * 8 ≤ 140737488355328) && decide (1 ≤ 8)) then (some (.inl ((v16, ()), ((y47.2.1, y47.2.2.1, y47.2.2.2.1, y47.2.2.2.2.1, ((y47.2.2.2.2.2.1 ++ [y46.1]) ++ [y47.1]), y47.2.2.2.2.2.2.1, y47.2.2.2.2.2.2.2.1, y47.2.2.2.2.2.2.2.2.1, y47.2.2.2.2.2.2.2.2.2.1, y47.2.2.2.2.2.2.2.2.2.2.1, y47.2.2.2.2.2.2.2.2.2.2.2.1, y47.2.2.2.2.2.2.2.2.2.2.2.2.1, y47.2.2.2.2.2.2.2.2.2.2.2.2.2.1, y47.2.2.2.2.2.2.2.2.2.2.2.2.2.2, ()), (v31, ()), (v32, v33, ()), (v34, v35, v36, ()), ())))) else none) else none) else (if (v34 == 5) then ((fg n v35 y47.1 y46.1).bind fun y48 => (if (decide ((y47.2.2.2.2.2.1.length + 1) * 8 ≤ 140737488355328) && decide (1 ≤ 8)) then (if y48.2 then (some (.inl ((v16, ()), ((y47.2.1, y47.2.2.1, y47.2.2.2.1, y47.2.2.2.2.1, (y47.2.2.2.2.2.1 ++ [y48.1]), y47.2.2.2.2.2.2.1, y47.2.2.2.2.2.2.2.1, y47.2.2.2.2.2.2.2.2.1, y47.2.2.2.2.2.2.2.2.2.1, y47.2.2.2.2.2.2.2.2.2.2.1, y47.2.2.2.2.2.2.2.2.2.2.2.1, y47.2.2.2.2.2.2.2.2.2.2.2.2.1, (wrap .i64 (y47.2.2.2.2.2.2.2.2.2.2.2.2.2.1 + 1)), y47.2.2.2.2.2.2.2.2.2.2.2.2.2.2, ()), (v31, ()), (v32, v33, ()), (v34, v35, v36, ()), ())))) else (some (.inl ((v16, ()), ((y47.2.1, y47.2.2.1, y47.2.2.2.1, y47.2.2.2.2.1, (y47.2.2.2.2.2.1 ++ [y48.1]), y47.2.2.2.2.2.2.1, y47.2.2.2.2.2.2.2.1, y47.2.2.2.2.2.2.2.2.1, y47.2.2.2.2.2.2.2.2.2.1, y47.2.2.2.2.2.2.2.2.2.2.1, y47.2.2.2.2.2.2.2.2.2.2.2.1, y47.2.2.2.2.2.2.2.2.2.2.2.2.1, y47.2.2.2.2.2.2.2.2.2.2.2.2.2.1, y47.2.2.2.2.2.2.2.2.2.2.2.2.2.2, ()), (v31, ()), (v32, v33, ()), (v34, v35, v36, ()), ()))))) else none)) else (if (v34 == 8) then (if (decide ((y47.2.2.2.2.2.1.length + 1) * 8 ≤ 140737488355328) && decide (1 ≤ 8)) then (some (.inl ((v16, ()), ((y47.2.1, y47.2.2.1, y47.2.2.2.1, y47.2.2.2.2.1, (y47.2.2.2.2.2.1 ++ [(if y46.1 < y47.1 then y46.1 else y47.1)]), y47.2.2.2.2.2.2.1, y47.2.2.2.2.2.2.2.1, y47.2.2.2.2.2.2.2.2.1, y47.2.2.2.2.2.2.2.2.2.1, y47.2.2.2.2.2.2.2.2.2.2.1, y47.2.2.2.2.2.2.2.2.2.2.2.1, y47.2.2.2.2.2.2.2.2.2.2.2.2.1, y47.2.2.2.2.2.2.2.2.2.2.2.2.2.1, y47.2.2.2.2.2.2.2.2.2.2.2.2.2.2, ()), (v31, ()), (v32, v33, ()), (v34, v35, v36, ()), ())))) else none) else (if (v34 == 9) then (if (decide ((y47.2.2.2.2.2.1.length + 1) * 8 ≤ 140737488355328) && decide (1 ≤ 8)) then (some (.inl ((v16, ()), ((y47.2.1, y47.2.2.1, y47.2.2.2.1, y47.2.2.2.2.1, (y47.2.2.2.2.2.1 ++ [(if y46.1 > y47.1 then y46.1 else y47.1)]), y47.2.2.2.2.2.2.1, y47.2.2.2.2.2.2.2.1, y47.2.2.2.2.2.2.2.2.1, y47.2.2.2.2.2.2.2.2.2.1, y47.2.2.2.2.2.2.2.2.2.2.1, y47.2.2.2.2.2.2.2.2.2.2.2.1, y47.2.2.2.2.2.2.2.2.2.2.2.2.1, y47.2.2.2.2.2.2.2.2.2.2.2.2.2.1, y47.2.2.2.2.2.2.2.2.2.2.2.2.2.2, ()), (v31, ()), (v32, v33, ()), (v34, v35, v36, ()), ())))) else none) else (some (.inl ((v16, ()), ((y47.2.1, y47.2.2.1, y47.2.2.2.1, y47.2.2.2.2.1, y47.2.2.2.2.2.1, y47.2.2.2.2.2.2.1, y47.2.2.2.2.2.2.2.1, y47.2.2.2.2.2.2.2.2.1, y47.2.2.2.2.2.2.2.2.2.1, y47.2.2.2.2.2.2.2.2.2.2.1, y47.2.2.2.2.2.2.2.2.2.2.2.1, y47.2.2.2.2.2.2.2.2.2.2.2.2.1, y47.2.2.2.2.2.2.2.2.2.2.2.2.2.1, y47.2.2.2.2.2.2.2.2.2.2.2.2.2.2, ()), (v31, ()), (v32, v33, ()), (v34, v35, v36, ()), ())))))))))) else (if (decide (v34 ≤ 10)) then (if (v34 == 1) then (if (decide ((v21.length + 1) * 8 ≤ 140737488355328) && decide (1 ≤ 8)) then (some (.inl ((v16, ()), ((v17, v18, v19, v20, (v21 ++ [v35]), v22, v23, v24, v25, v26, v27, v28, v29, v30, ()), (v31, ()), (v32, v33, ()), (v34, v35, v36, ()), ())))) else none) else (if (v34 == 2) then ((fe n v17 v18 v19 v20 v21 v22 v23 v24 v25 v26 v27 v28 v29 v30).bind fun y49 => (some (.inl ((v16, ()), ((y49.2.1, y49.2.2.1, y49.2.2.2.1, y49.2.2.2.2.1, y49.2.2.2.2.2.1, y49.2.2.2.2.2.2.1, y49.2.2.2.2.2.2.2.1, y49.2.2.2.2.2.2.2.2.1, y49.2.2.2.2.2.2.2.2.2.1, y49.2.2.2.2.2.2.2.2.2.2.1, y49.2.2.2.2.2.2.2.2.2.2.2.1, y49.2.2.2.2.2.2.2.2.2.2.2.2.1, y49.2.2.2.2.2.2.2.2.2.2.2.2.2.1, y49.2.2.2.2.2.2.2.2.2.2.2.2.2.2, ()), (v31, ()), (v32, v33, ()), (v34, v35, v36, ()), ()))))) else (if (v34 == 3) then ((fe n v17 v18 v19 v20 v21 v22 v23 v24 v25 v26 v27 v28 v29 v30).bind fun y50 => (if (decide ((y50.2.2.2.2.2.1.length + 1) * 8 ≤ 140737488355328) && decide (1 ≤ 8)) then (if (decide (((y50.2.2.2.2.2.1 ++ [y50.1]).length + 1) * 8 ≤ 140737488355328) && decide (1 ≤ 8)) then (some (.inl ((v16, ()), ((y50.2.1, y50.2.2.1, y50.2.2.2.1, y50.2.2.2.2.1, ((y50.2.2.2.2.2.1 ++ [y50.1]) ++ [y50.1]), y50.2.2.2.2.2.2.1, y50.2.2.2.2.2.2.2.1, y50.2.2.2.2.2.2.2.2.1, y50.2.2.2.2.2.2.2.2.2.1, y50.2.2.2.2.2.2.2.2.2.2.1, y50.2.2.2.2.2.2.2.2.2.2.2.1, y50.2.2.2.2.2.2.2.2.2.2.2.2.1, y50.2.2.2.2.2.2.2.2.2.2.2.2.2.1, y50.2.2.2.2.2.2.2.2.2.2.2.2.2.2, ()), (v31, ()), (v32, v33, ()), (v34, v35, v36, ()), ())))) else none) else none)) else (if (v34 == 6) then ((fe n v17 v18 v19 v20 v21 v22 v23 v24 v25 v26 v27 v28 v29 v30).bind fun y51 => (if (decide ((y51.2.2.2.2.2.1.length + 1) * 8 ≤ 140737488355328) && decide (1 ≤ 8)) then (some (.inl ((v16, ()), ((y51.2.1, y51.2.2.1, y51.2.2.2.1, y51.2.2.2.2.1, (y51.2.2.2.2.2.1 ++ [(wrap .i64 (0 - y51.1))]), y51.2.2.2.2.2.2.1, y51.2.2.2.2.2.2.2.1, y51.2.2.2.2.2.2.2.2.1, y51.2.2.2.2.2.2.2.2.2.1, y51.2.2.2.2.2.2.2.2.2.2.1, y51.2.2.2.2.2.2.2.2.2.2.2.1, y51.2.2.2.2.2.2.2.2.2.2.2.2.1, y51.2.2.2.2.2.2.2.2.2.2.2.2.2.1, y51.2.2.2.2.2.2.2.2.2.2.2.2.2.2, ()), (v31, ()), (v32, v33, ()), (v34, v35, v36, ()), ())))) else none)) else (if (v34 == 7) then ((fe n v17 v18 v19 v20 v21 v22 v23 v24 v25 v26 v27 v28 v29 v30).bind fun y52 => (if (decide ((y52.2.2.2.2.2.1.length + 1) * 8 ≤ 140737488355328) && decide (1 ≤ 8)) then (some (.inl ((v16, ()), ((y52.2.1, y52.2.2.1, y52.2.2.2.1, y52.2.2.2.2.1, (y52.2.2.2.2.2.1 ++ [(wrap .i64 (1 - y52.1))]), y52.2.2.2.2.2.2.1, y52.2.2.2.2.2.2.2.1, y52.2.2.2.2.2.2.2.2.1, y52.2.2.2.2.2.2.2.2.2.1, y52.2.2.2.2.2.2.2.2.2.2.1, y52.2.2.2.2.2.2.2.2.2.2.2.1, y52.2.2.2.2.2.2.2.2.2.2.2.2.1, y52.2.2.2.2.2.2.2.2.2.2.2.2.2.1, y52.2.2.2.2.2.2.2.2.2.2.2.2.2.2, ()), (v31, ()), (v32, v33, ()), (v34, v35, v36, ()), ())))) else none)) else (some (.inl ((v16, ()), ((v17, v18, v19, v20, v21, v22, v23, v24, v25, v26, v27, v28, v29, v30, ()), (v31, ()), (v32, v33, ()), (v34, v35, v36, ()), ()))))))))) else (if (decide (v34 ≤ 18)) then (if (v34 == 11) then (if (decide (0 ≤ v35) && decide (v35 < 8)) then (if (decide ((v21.length + 1) * 8 ≤ 140737488355328) && decide (1 ≤ 8)) then (some (.inl ((v16, ()), ((v17, v18, v19, v20, (v21 ++ [(v22.getD v35.toNat 0)]), v22, v23, v24, v25, v26, v27, v28, v29, v30, ()), (v31, ()), (v32, v33, ()), (v34, v35, v36, ()), ())))) else none) else none) else (if (v34 == 12) then ((fe n v17 v18 v19 v20 v21 v22 v23 v24 v25 v26 v27 v28 v29 v30).bind fun y53 => (if (decide (0 ≤ v35) && decide (v35 < 8)) then (some (.inl ((v16, ()), ((y53.2.1, y53.2.2.1, y53.2.2.2.1, y53.2.2.2.2.1, y53.2.2.2.2.2.1, (y53.2.2.2.2.2.2.1.set v35.toNat y53.1), y53.2.2.2.2.2.2.2.1, y53.2.2.2.2.2.2.2.2.1, y53.2.2.2.2.2.2.2.2.2.1, y53.2.2.2.2.2.2.2.2.2.2.1, y53.2.2.2.2.2.2.2.2.2.2.2.1, y53.2.2.2.2.2.2.2.2.2.2.2.2.1, y53.2.2.2.2.2.2.2.2.2.2.2.2.2.1, y53.2.2.2.2.2.2.2.2.2.2.2.2.2.2, ()), (v31, ()), (v32, v33, ()), (v34, v35, v36, ()), ())))) else none)) else (if (v34 == 13) then (if (decide (0 ≤ v35) && decide (v35 < 8)) then (if (decide ((v21.length + 1) * 8 ≤ 140737488355328) && decide (1 ≤ 8)) then (some (.inl ((v16, ()), ((v17, v18, v19, v20, (v21 ++ [(v23.getD v35.toNat 0)]), v22, v23, v24, v25, v26, v27, v28, v29, v30, ()), (v31, ()), (v32, v33, ()), (v34, v35, v36, ()), ())))) else none) else none) else (if (v34 == 14) then ((fe n v17 v18 v19 v20 v21 v22 v23 v24 v25 v26 v27 v28 v29 v30).bind fun y54 => (if (decide (0 ≤ v35) && decide (v35 < 8)) then (some (.inl ((v16, ()), ((y54.2.1, y54.2.2.1, y54.2.2.2.1, y54.2.2.2.2.1, y54.2.2.2.2.2.1, y54.2.2.2.2.2.2.1, (y54.2.2.2.2.2.2.2.1.set v35.toNat y54.1), y54.2.2.2.2.2.2.2.2.1, y54.2.2.2.2.2.2.2.2.2.1, y54.2.2.2.2.2.2.2.2.2.2.1, y54.2.2.2.2.2.2.2.2.2.2.2.1, y54.2.2.2.2.2.2.2.2.2.2.2.2.1, y54.2.2.2.2.2.2.2.2.2.2.2.2.2.1, y54.2.2.2.2.2.2.2.2.2.2.2.2.2.2, ()), (v31, ()), (v32, v33, ()), (v34, v35, v36, ()), ())))) else none)) else (if (v34 == 15) then (if (decide (0 ≤ v35) && decide (v35 < 16)) then (if (decide ((v21.length + 1) * 8 ≤ 140737488355328) && decide (1 ≤ 8)) then (some (.inl ((v16, ()), ((v17, v18, v19, v20, (v21 ++ [(v24.getD v35.toNat 0)]), v22, v23, v24, v25, v26, v27, v28, v29, v30, ()), (v31, ()), (v32, v33, ()), (v34, v35, v36, ()), ())))) else none) else none) else (if (v34 == 16) then ((fe n v17 v18 v19 v20 v21 v22 v23 v24 v25 v26 v27 v28 v29 v30).bind fun y55 => (if (decide (0 ≤ v35) && decide (v35 < 16)) then (if (decide (0 ≤ v35) && decide (v35 < 16)) then (some (.inl ((v16, ()), ((y55.2.1, y55.2.2.1, y55.2.2.2.1, y55.2.2.2.2.1, y55.2.2.2.2.2.1, y55.2.2.2.2.2.2.1, y55.2.2.2.2.2.2.2.1, y55.2.2.2.2.2.2.2.2.1, (y55.2.2.2.2.2.2.2.2.2.1.set v35.toNat y55.1), (y55.2.2.2.2.2.2.2.2.2.2.1.set v35.toNat true), y55.2.2.2.2.2.2.2.2.2.2.2.1, y55.2.2.2.2.2.2.2.2.2.2.2.2.1, y55.2.2.2.2.2.2.2.2.2.2.2.2.2.1, y55.2.2.2.2.2.2.2.2.2.2.2.2.2.2, ()), (v31, ()), (v32, v33, ()), (v34, v35, v36, ()), ())))) else none) else none)) else (if (v34 == 17) then (if (decide (0 ≤ v35) && decide (v35 < 8)) then (if (decide (0 ≤ v36) && decide (v36 < 8)) then (if (decide ((v21.length + 1) * 8 ≤ 140737488355328) && decide (1 ≤ 8)) then (some (.inl ((v16, ()), ((v17, v18, v19, v20, (v21 ++ [((v31.getD v35.toNat [0, 0, 0, 0, 0, 0, 0, 0]).getD v36.toNat 0)]), v22, v23, v24, v25, v26, v27, v28, v29, v30, ()), (v31, ()), (v32, v33, ()), (v34, v35, v36, ()), ())))) else none) else none) else none) else (if (v34 == 18) then ((fe n v17 v18 v19 v20 v21 v22 v23 v24 v25 v26 v27 v28 v29 v30).bind fun y56 => (if (decide (0 ≤ v35) && decide (v35 < 8)) then (if (decide (0 ≤ v36) && decide (v36 < 8)) then (some (.inl ((v16, ()), ((y56.2.1, y56.2.2.1, y56.2.2.2.1, y56.2.2.2.2.1, y56.2.2.2.2.2.1, y56.2.2.2.2.2.2.1, y56.2.2.2.2.2.2.2.1, y56.2.2.2.2.2.2.2.2.1, y56.2.2.2.2.2.2.2.2.2.1, y56.2.2.2.2.2.2.2.2.2.2.1, y56.2.2.2.2.2.2.2.2.2.2.2.1, y56.2.2.2.2.2.2.2.2.2.2.2.2.1, y56.2.2.2.2.2.2.2.2.2.2.2.2.2.1, y56.2.2.2.2.2.2.2.2.2.2.2.2.2.2, ()), ((v31.set v35.toNat ((v31.getD v35.toNat [0, 0, 0, 0, 0, 0, 0, 0]).set v36.toNat y56.1)), ()), (v32, v33, ()), (v34, v35, v36, ()), ())))) else none) else none)) else (some (.inl ((v16, ()), ((v17, v18, v19, v20, v21, v22, v23, v24, v25, v26, v27, v28, v29, v30, ()), (v31, ()), (v32, v33, ()), (v34, v35, v36, ()), ())))))))))))) else ((G8 n v16 v17 v18 v19 v20 v21 v22 v23 v24 v25 v26 v27 v28 v29 v30 v34 v35 v36 0 0).bind fun y57 => ((Sum.elim (fun (z58 : vq) => (some (.inr ((0, ()), ((z58.2.1.1, z58.2.1.2.1, z58.2.1.2.2.1, z58.1.1, z58.2.1.2.2.2.2.1, z58.2.1.2.2.2.2.2.1, z58.2.1.2.2.2.2.2.2.1, z58.2.1.2.2.2.2.2.2.2.1, z58.2.1.2.2.2.2.2.2.2.2.1, z58.2.1.2.2.2.2.2.2.2.2.2.1, z58.2.1.2.2.2.2.2.2.2.2.2.2.1, z58.2.1.2.2.2.2.2.2.2.2.2.2.2.1, z58.2.1.2.2.2.2.2.2.2.2.2.2.2.2.1, z58.2.1.2.2.2.2.2.2.2.2.2.2.2.2.2.1, ()), (v31, ()), (z58.2.2.2.1.1, z58.2.2.2.1.2.1, ()), (v34, v35, v36, ()), ()))))) (fun (z59 : vq) => (some (.inr ((0, ()), ((z59.2.1.1, z59.2.1.2.1, z59.2.1.2.2.1, (wrap .i64 (z59.1.1 + 1)), z59.2.1.2.2.2.2.1, z59.2.1.2.2.2.2.2.1, z59.2.1.2.2.2.2.2.2.1, z59.2.1.2.2.2.2.2.2.2.1, z59.2.1.2.2.2.2.2.2.2.2.1, z59.2.1.2.2.2.2.2.2.2.2.2.1, z59.2.1.2.2.2.2.2.2.2.2.2.2.1, z59.2.1.2.2.2.2.2.2.2.2.2.2.2.1, z59.2.1.2.2.2.2.2.2.2.2.2.2.2.2.1, z59.2.1.2.2.2.2.2.2.2.2.2.2.2.2.2.1, ()), (v31, ()), (0, 0, ()), (v34, v35, v36, ()), ())))))) y57)))))))
def vV : Loop := ⟨⟨cX 87 0 [(0, .obj 0), (1, .obj 1), (4, .obj 2), (6, .val cQ), (7, .obj 3)], [ii, [.val oD], iE, fa]⟩, [(.norm, ⟨cX 87 0 [(0, .obj 0), (4, .obj 2), (6, .val cQ)], [ii, [.val oD], iE, fa]⟩), (.ret, ⟨cX 87 0 [(4, .obj 2), (5, .val cQ)], [ii, [.val oD], iE, fa]⟩)], (Int × cR × (List Int) × Bool × Int × (List Int) × (List Int) × (List Int) × (List Int) × (List Int) × (List Bool) × (List Int) × Int × Int × Int × (List (List Int)) × Int × Int × Int × Int × Int), fun x => ((x.1, ()), (du (dp (U_ v_))) x.2, (x.2.2.2.2.2.2.2.2.2.2.2.2.2.2.2.1, ()), (U_ v_) x.2.2.2.2.2.2.2.2.2.2.2.2.2.2.2.2, (dA u_) x.2.2.2.2.2.2.2.2.2.2.2.2.2.2.2.2.2.2, ()), fun (x : vo) => (x.1.1, ((ig (nU (J_ j_))) x.2.1 ((x.2.2.1.1, ((J_ j_) x.2.2.2.1 ((dA k_) x.2.2.2.2.1)))))), (vo ⊕ vo), fun y => y, fun y => y, (kS (dZ (C_ q_))) (G9 n)⟩
def JX (v1 : cR) (v2 : (List Int)) (v3 : Bool) (v4 : Int) (v5 v6 v7 v8 v9 : (List Int)) (v10 : (List Bool)) (v11 : (List Int)) (v12 v13 v14 : Int) (v15 : (List (List Int))) : Option Le := if (!v3) then (some ((0, 0), 16, v1, v2, v3, v4, v5, v6, v7, v8, v9, v10, v11, v12, v13, v14, v15)) else (if (decide (0 ≤ v4) && decide (v4 < (v1.length : Int))) then ((G9 n v4 v1 v2 v3 v4 v5 v6 v7 v8 v9 v10 v11 v12 v13 (wrap .i64 (v14 + 1)) v15 0 0 ((v1.getD v4.toNat (0, (0, 0))).1) ((v1.getD v4.toNat (0, (0, 0))).2.1) ((v1.getD v4.toNat (0, (0, 0))).2.2)).bind fun y16 => ((Sum.elim (fun (z17 : vo) => (some ((0, 0), 0, z17.2.1.1, z17.2.1.2.1, z17.2.1.2.2.1, (wrap .i64 (z17.1.1 + 1)), z17.2.1.2.2.2.2.1, z17.2.1.2.2.2.2.2.1, z17.2.1.2.2.2.2.2.2.1, z17.2.1.2.2.2.2.2.2.2.1, z17.2.1.2.2.2.2.2.2.2.2.1, z17.2.1.2.2.2.2.2.2.2.2.2.1, z17.2.1.2.2.2.2.2.2.2.2.2.2.1, z17.2.1.2.2.2.2.2.2.2.2.2.2.2.1, z17.2.1.2.2.2.2.2.2.2.2.2.2.2.2.1, z17.2.1.2.2.2.2.2.2.2.2.2.2.2.2.2.1, z17.2.2.1.1))) (fun (z18 : vo) => (some ((z18.2.2.2.1.1, z18.2.2.2.1.2.1), z18.1.1, z18.2.1.1, z18.2.1.2.1, z18.2.1.2.2.1, z18.2.1.2.2.2.1, z18.2.1.2.2.2.2.1, z18.2.1.2.2.2.2.2.1, z18.2.1.2.2.2.2.2.2.1, z18.2.1.2.2.2.2.2.2.2.1, z18.2.1.2.2.2.2.2.2.2.2.1, z18.2.1.2.2.2.2.2.2.2.2.2.1, z18.2.1.2.2.2.2.2.2.2.2.2.2.1, z18.2.1.2.2.2.2.2.2.2.2.2.2.2.1, z18.2.1.2.2.2.2.2.2.2.2.2.2.2.2.1, z18.2.1.2.2.2.2.2.2.2.2.2.2.2.2.2.1, z18.2.2.1.1)))) y16)) else none)
def Ha : FS := ⟨⟨[.obj 0, .obj 1], [ii, [.val oD]]⟩, ⟨[.val ki, .val cQ], [ii, [.val oD]]⟩, Le, fun y => ((U_ v_) y, (du (dp (U_ v_))) y.2.2, (y.2.2.2.2.2.2.2.2.2.2.2.2.2.2.2.2, ()), ()), fun (o : ((ed × Int × Unit) × (mg × sv × Unit))) => (J_ j_) o.1 ((ig (nU (J_ j_))) o.2.1 o.2.2.1.1), fun (x : (Unit × (mg × sv × Unit))) => JX n x.2.1.1 x.2.1.2.1 x.2.1.2.2.1 x.2.1.2.2.2.1 x.2.1.2.2.2.2.1 x.2.1.2.2.2.2.2.1 x.2.1.2.2.2.2.2.2.1 x.2.1.2.2.2.2.2.2.2.1 x.2.1.2.2.2.2.2.2.2.2.1 x.2.1.2.2.2.2.2.2.2.2.2.1 x.2.1.2.2.2.2.2.2.2.2.2.2.1 x.2.1.2.2.2.2.2.2.2.2.2.2.2.1 x.2.1.2.2.2.2.2.2.2.2.2.2.2.2.1 x.2.1.2.2.2.2.2.2.2.2.2.2.2.2.2.1 x.2.2.1.1⟩
theorem I5 : ∀ x, fE (MW n) 14 126 0 1000020 (vU n) x = (vU n).fn x := fun x => by kernel_rfl
def vW : Cx := Cx.addLoop (MW n) 126 1000020 (vU n)
theorem I6 : Good (vW n) := eu (Qh n) 14 0 (by kernel_rfl) (I5 n) (fun _ => rfl) (fun _ => rfl) rfl
theorem I7 : ∀ x, fE (vW n) 14 64 0 1000015 (vV n) x = (vV n).fn x := fun x => by kernel_rfl
def vX : Cx := Cx.addLoop (vW n) 64 1000015 (vV n)
theorem I8 : Good (vX n) := eu (I6 n) 14 0 (by kernel_rfl) (I7 n) (fun _ => rfl) (fun _ => rfl) rfl
theorem NK : cY (vX n) 14 64 0 (Ha n) := fun x => by kernel_rfl
def MX : Cx := (Cx.bare (vX n)).addSpec 64 (Ha n)
theorem Qi : Good (MX n) := Good.fn (I8 n) 14 0 (NK n) (fun _ => rfl) rfl
def nj (v1 : (List Int)) (v2 v3 v4 v5 v6 v7 v8 v9 : Int) (v10 : (List Int)) (v11 : (List (List Int))) (v12 : cR) (v13 : (List Int)) (v14 : Bool) (v15 : Int) (v16 v17 v18 v19 v20 : (List Int)) (v21 : (List Bool)) (v22 : (List Int)) (v23 v24 v25 : Int) : Option K7 := (fL n v2 v3 v4 v5 v6 v7 v8 v9 v10 v12 v13 v14 v15 v16 v17 v18 v19 v20 v21 v22 v23 v24 v25).bind fun y26 => (if y26.1 then (some ((0, (0, false)), 16, y26.2.1, y26.2.2.1, y26.2.2.2.1, y26.2.2.2.2.1, y26.2.2.2.2.2.1, y26.2.2.2.2.2.2.1, y26.2.2.2.2.2.2.2.1, y26.2.2.2.2.2.2.2.2.1, y26.2.2.2.2.2.2.2.2.2.1, v11, y26.2.2.2.2.2.2.2.2.2.2.1, y26.2.2.2.2.2.2.2.2.2.2.2.1, y26.2.2.2.2.2.2.2.2.2.2.2.2.1, y26.2.2.2.2.2.2.2.2.2.2.2.2.2.1, y26.2.2.2.2.2.2.2.2.2.2.2.2.2.2.1, y26.2.2.2.2.2.2.2.2.2.2.2.2.2.2.2.1, y26.2.2.2.2.2.2.2.2.2.2.2.2.2.2.2.2.1, y26.2.2.2.2.2.2.2.2.2.2.2.2.2.2.2.2.2.1, y26.2.2.2.2.2.2.2.2.2.2.2.2.2.2.2.2.2.2.1, y26.2.2.2.2.2.2.2.2.2.2.2.2.2.2.2.2.2.2.2.1, y26.2.2.2.2.2.2.2.2.2.2.2.2.2.2.2.2.2.2.2.2.1, y26.2.2.2.2.2.2.2.2.2.2.2.2.2.2.2.2.2.2.2.2.2.1, y26.2.2.2.2.2.2.2.2.2.2.2.2.2.2.2.2.2.2.2.2.2.2.1, y26.2.2.2.2.2.2.2.2.2.2.2.2.2.2.2.2.2.2.2.2.2.2.2)) else (if (decide ((wrap .i64 (y26.2.2.2.2.2.2.2.1 + 1)) < (wrap .i64 (y26.2.2.2.2.1 + y26.2.2.2.2.2.1)))) then (some ((0, (0, false)), 0, y26.2.1, y26.2.2.1, y26.2.2.2.1, y26.2.2.2.2.1, y26.2.2.2.2.2.1, y26.2.2.2.2.2.2.1, (wrap .i64 (y26.2.2.2.2.2.2.2.1 + 1)), y26.2.2.2.2.2.2.2.2.1, y26.2.2.2.2.2.2.2.2.2.1, v11, y26.2.2.2.2.2.2.2.2.2.2.1, y26.2.2.2.2.2.2.2.2.2.2.2.1, y26.2.2.2.2.2.2.2.2.2.2.2.2.1, y26.2.2.2.2.2.2.2.2.2.2.2.2.2.1, y26.2.2.2.2.2.2.2.2.2.2.2.2.2.2.1, y26.2.2.2.2.2.2.2.2.2.2.2.2.2.2.2.1, y26.2.2.2.2.2.2.2.2.2.2.2.2.2.2.2.2.1, y26.2.2.2.2.2.2.2.2.2.2.2.2.2.2.2.2.2.1, y26.2.2.2.2.2.2.2.2.2.2.2.2.2.2.2.2.2.2.1, y26.2.2.2.2.2.2.2.2.2.2.2.2.2.2.2.2.2.2.2.1, y26.2.2.2.2.2.2.2.2.2.2.2.2.2.2.2.2.2.2.2.2.1, y26.2.2.2.2.2.2.2.2.2.2.2.2.2.2.2.2.2.2.2.2.2.1, y26.2.2.2.2.2.2.2.2.2.2.2.2.2.2.2.2.2.2.2.2.2.2.1, y26.2.2.2.2.2.2.2.2.2.2.2.2.2.2.2.2.2.2.2.2.2.2.2)) else (if ((wrap .i64 (y26.2.2.2.2.2.2.2.1 + 1)) == (wrap .i64 (y26.2.2.2.2.1 + y26.2.2.2.2.2.1))) then ((gw n v1 y26.2.2.2.2.2.2.2.2.2.2.1 y26.2.2.2.2.2.2.2.2.2.2.2.1 y26.2.2.2.2.2.2.2.2.2.2.2.2.1 y26.2.2.2.2.2.2.2.2.2.2.2.2.2.1 y26.2.2.2.2.2.2.2.2.2.2.2.2.2.2.1 y26.2.2.2.2.2.2.2.2.2.2.2.2.2.2.2.1 y26.2.2.2.2.2.2.2.2.2.2.2.2.2.2.2.2.1 y26.2.2.2.2.2.2.2.2.2.2.2.2.2.2.2.2.2.1 y26.2.2.2.2.2.2.2.2.2.2.2.2.2.2.2.2.2.2.1 y26.2.2.2.2.2.2.2.2.2.2.2.2.2.2.2.2.2.2.2.1 y26.2.2.2.2.2.2.2.2.2.2.2.2.2.2.2.2.2.2.2.2.1 y26.2.2.2.2.2.2.2.2.2.2.2.2.2.2.2.2.2.2.2.2.2.1 y26.2.2.2.2.2.2.2.2.2.2.2.2.2.2.2.2.2.2.2.2.2.2.1 y26.2.2.2.2.2.2.2.2.2.2.2.2.2.2.2.2.2.2.2.2.2.2.2).bind fun y27 => (some ((1, (0, false)), 0, y26.2.1, y26.2.2.1, y26.2.2.2.1, y26.2.2.2.2.1, y26.2.2.2.2.2.1, y26.2.2.2.2.2.2.1, (wrap .i64 (y26.2.2.2.2.2.2.2.1 + 1)), y26.2.2.2.2.2.2.2.2.1, v1, v11, y27.2.1, y27.2.2.1, y27.2.2.2.1, y27.2.2.2.2.1, y27.2.2.2.2.2.1, y27.2.2.2.2.2.2.1, y27.2.2.2.2.2.2.2.1, y27.2.2.2.2.2.2.2.2.1, y27.2.2.2.2.2.2.2.2.2.1, y27.2.2.2.2.2.2.2.2.2.2.1, y27.2.2.2.2.2.2.2.2.2.2.2.1, y27.2.2.2.2.2.2.2.2.2.2.2.2.1, y27.2.2.2.2.2.2.2.2.2.2.2.2.2.1, y27.2.2.2.2.2.2.2.2.2.2.2.2.2.2))) else (if (decide (y26.2.2.2.2.2.2.2.2.1 < 0)) then ((JX n y26.2.2.2.2.2.2.2.2.2.2.1 y26.2.2.2.2.2.2.2.2.2.2.2.1 y26.2.2.2.2.2.2.2.2.2.2.2.2.1 y26.2.2.2.2.2.2.2.2.2.2.2.2.2.1 y26.2.2.2.2.2.2.2.2.2.2.2.2.2.2.1 y26.2.2.2.2.2.2.2.2.2.2.2.2.2.2.2.1 y26.2.2.2.2.2.2.2.2.2.2.2.2.2.2.2.2.1 y26.2.2.2.2.2.2.2.2.2.2.2.2.2.2.2.2.2.1 y26.2.2.2.2.2.2.2.2.2.2.2.2.2.2.2.2.2.2.1 y26.2.2.2.2.2.2.2.2.2.2.2.2.2.2.2.2.2.2.2.1 y26.2.2.2.2.2.2.2.2.2.2.2.2.2.2.2.2.2.2.2.2.1 y26.2.2.2.2.2.2.2.2.2.2.2.2.2.2.2.2.2.2.2.2.2.1 y26.2.2.2.2.2.2.2.2.2.2.2.2.2.2.2.2.2.2.2.2.2.2.1 y26.2.2.2.2.2.2.2.2.2.2.2.2.2.2.2.2.2.2.2.2.2.2.2 v11).bind fun y28 => (if (y28.1.1 == 3) then (some ((0, (0, false)), 0, y26.2.1, y26.2.2.1, y26.2.2.2.1, y26.2.2.2.2.1, y26.2.2.2.2.2.1, y26.2.2.2.2.2.2.1, (wrap .i64 (y26.2.2.2.2.2.2.2.1 + 1)), (wrap .i64 (y26.2.2.2.2.2.2.2.1 + 1)), y26.2.2.2.2.2.2.2.2.2.1, y28.2.2.2.2.2.2.2.2.2.2.2.2.2.2.2.2, y28.2.2.1, y28.2.2.2.1, y28.2.2.2.2.1, y28.2.2.2.2.2.1, y28.2.2.2.2.2.2.1, y28.2.2.2.2.2.2.2.1, y28.2.2.2.2.2.2.2.2.1, y28.2.2.2.2.2.2.2.2.2.1, y28.2.2.2.2.2.2.2.2.2.2.1, y28.2.2.2.2.2.2.2.2.2.2.2.1, y28.2.2.2.2.2.2.2.2.2.2.2.2.1, y28.2.2.2.2.2.2.2.2.2.2.2.2.2.1, y28.2.2.2.2.2.2.2.2.2.2.2.2.2.2.1, y28.2.2.2.2.2.2.2.2.2.2.2.2.2.2.2.1)) else (if (decide (y28.1.1 > 0)) then (some (((wrap .i64 (y28.1.1 + 1)), (y28.1.2, false)), 0, y26.2.1, y26.2.2.1, y26.2.2.2.1, y26.2.2.2.2.1, y26.2.2.2.2.2.1, y26.2.2.2.2.2.2.1, (wrap .i64 (y26.2.2.2.2.2.2.2.1 + 1)), y26.2.2.2.2.2.2.2.2.1, y26.2.2.2.2.2.2.2.2.2.1, y28.2.2.2.2.2.2.2.2.2.2.2.2.2.2.2.2, y28.2.2.1, y28.2.2.2.1, y28.2.2.2.2.1, y28.2.2.2.2.2.1, y28.2.2.2.2.2.2.1, y28.2.2.2.2.2.2.2.1, y28.2.2.2.2.2.2.2.2.1, y28.2.2.2.2.2.2.2.2.2.1, y28.2.2.2.2.2.2.2.2.2.2.1, y28.2.2.2.2.2.2.2.2.2.2.2.1, y28.2.2.2.2.2.2.2.2.2.2.2.2.1, y28.2.2.2.2.2.2.2.2.2.2.2.2.2.1, y28.2.2.2.2.2.2.2.2.2.2.2.2.2.2.1, y28.2.2.2.2.2.2.2.2.2.2.2.2.2.2.2.1)) else (some ((0, (0, false)), 0, y26.2.1, y26.2.2.1, y26.2.2.2.1, y26.2.2.2.2.1, y26.2.2.2.2.2.1, y26.2.2.2.2.2.2.1, (wrap .i64 (y26.2.2.2.2.2.2.2.1 + 1)), y26.2.2.2.2.2.2.2.2.1, y26.2.2.2.2.2.2.2.2.2.1, y28.2.2.2.2.2.2.2.2.2.2.2.2.2.2.2.2, y28.2.2.1, y28.2.2.2.1, y28.2.2.2.2.1, y28.2.2.2.2.2.1, y28.2.2.2.2.2.2.1, y28.2.2.2.2.2.2.2.1, y28.2.2.2.2.2.2.2.2.1, y28.2.2.2.2.2.2.2.2.2.1, y28.2.2.2.2.2.2.2.2.2.2.1, y28.2.2.2.2.2.2.2.2.2.2.2.1, y28.2.2.2.2.2.2.2.2.2.2.2.2.1, y28.2.2.2.2.2.2.2.2.2.2.2.2.2.1, y28.2.2.2.2.2.2.2.2.2.2.2.2.2.2.1, y28.2.2.2.2.2.2.2.2.2.2.2.2.2.2.2.1))))) else ((fL n y26.2.1 y26.2.2.1 y26.2.2.2.1 y26.2.2.2.2.1 y26.2.2.2.2.2.1 y26.2.2.2.2.2.2.1 (wrap .i64 (y26.2.2.2.2.2.2.2.1 + 1)) y26.2.2.2.2.2.2.2.2.1 y26.2.2.2.2.2.2.2.2.2.1 y26.2.2.2.2.2.2.2.2.2.2.1 y26.2.2.2.2.2.2.2.2.2.2.2.1 y26.2.2.2.2.2.2.2.2.2.2.2.2.1 y26.2.2.2.2.2.2.2.2.2.2.2.2.2.1 y26.2.2.2.2.2.2.2.2.2.2.2.2.2.2.1 y26.2.2.2.2.2.2.2.2.2.2.2.2.2.2.2.1 y26.2.2.2.2.2.2.2.2.2.2.2.2.2.2.2.2.1 y26.2.2.2.2.2.2.2.2.2.2.2.2.2.2.2.2.2.1 y26.2.2.2.2.2.2.2.2.2.2.2.2.2.2.2.2.2.2.1 y26.2.2.2.2.2.2.2.2.2.2.2.2.2.2.2.2.2.2.2.1 y26.2.2.2.2.2.2.2.2.2.2.2.2.2.2.2.2.2.2.2.2.1 y26.2.2.2.2.2.2.2.2.2.2.2.2.2.2.2.2.2.2.2.2.2.1 y26.2.2.2.2.2.2.2.2.2.2.2.2.2.2.2.2.2.2.2.2.2.2.1 y26.2.2.2.2.2.2.2.2.2.2.2.2.2.2.2.2.2.2.2.2.2.2.2).bind fun y29 => (if (y29.2.2.2.2.2.2.2.1 == (wrap .i64 (y29.2.2.2.2.2.2.2.2.1 + y29.2.2.2.2.2.2.1))) then (some ((4, (0, y29.1)), 0, y29.2.1, y29.2.2.1, y29.2.2.2.1, y29.2.2.2.2.1, y29.2.2.2.2.2.1, y29.2.2.2.2.2.2.1, y29.2.2.2.2.2.2.2.1, y29.2.2.2.2.2.2.2.2.1, y29.2.2.2.2.2.2.2.2.2.1, v11, y29.2.2.2.2.2.2.2.2.2.2.1, y29.2.2.2.2.2.2.2.2.2.2.2.1, y29.2.2.2.2.2.2.2.2.2.2.2.2.1, y29.2.2.2.2.2.2.2.2.2.2.2.2.2.1, y29.2.2.2.2.2.2.2.2.2.2.2.2.2.2.1, y29.2.2.2.2.2.2.2.2.2.2.2.2.2.2.2.1, y29.2.2.2.2.2.2.2.2.2.2.2.2.2.2.2.2.1, y29.2.2.2.2.2.2.2.2.2.2.2.2.2.2.2.2.2.1, y29.2.2.2.2.2.2.2.2.2.2.2.2.2.2.2.2.2.2.1, y29.2.2.2.2.2.2.2.2.2.2.2.2.2.2.2.2.2.2.2.1, y29.2.2.2.2.2.2.2.2.2.2.2.2.2.2.2.2.2.2.2.2.1, y29.2.2.2.2.2.2.2.2.2.2.2.2.2.2.2.2.2.2.2.2.2.1, y29.2.2.2.2.2.2.2.2.2.2.2.2.2.2.2.2.2.2.2.2.2.2.1, y29.2.2.2.2.2.2.2.2.2.2.2.2.2.2.2.2.2.2.2.2.2.2.2)) else (some ((0, (0, y29.1)), 0, y29.2.1, y29.2.2.1, y29.2.2.2.1, y29.2.2.2.2.1, y29.2.2.2.2.2.1, y29.2.2.2.2.2.2.1, y29.2.2.2.2.2.2.2.1, y29.2.2.2.2.2.2.2.2.1, y29.2.2.2.2.2.2.2.2.2.1, v11, y29.2.2.2.2.2.2.2.2.2.2.1, y29.2.2.2.2.2.2.2.2.2.2.2.1, y29.2.2.2.2.2.2.2.2.2.2.2.2.1, y29.2.2.2.2.2.2.2.2.2.2.2.2.2.1, y29.2.2.2.2.2.2.2.2.2.2.2.2.2.2.1, y29.2.2.2.2.2.2.2.2.2.2.2.2.2.2.2.1, y29.2.2.2.2.2.2.2.2.2.2.2.2.2.2.2.2.1, y29.2.2.2.2.2.2.2.2.2.2.2.2.2.2.2.2.2.1, y29.2.2.2.2.2.2.2.2.2.2.2.2.2.2.2.2.2.2.1, y29.2.2.2.2.2.2.2.2.2.2.2.2.2.2.2.2.2.2.2.1, y29.2.2.2.2.2.2.2.2.2.2.2.2.2.2.2.2.2.2.2.2.1, y29.2.2.2.2.2.2.2.2.2.2.2.2.2.2.2.2.2.2.2.2.2.1, y29.2.2.2.2.2.2.2.2.2.2.2.2.2.2.2.2.2.2.2.2.2.2.1, y29.2.2.2.2.2.2.2.2.2.2.2.2.2.2.2.2.2.2.2.2.2.2.2))))))))
def ip : FS := ⟨⟨[.obj 0, .obj 1, .val jt], [Oi, [.val oD], ii]⟩, ⟨[.val (.pair cQ (.pair cQ .bool)), .val cQ], [Oi, [.val oD], ii]⟩, K7, fun y => ((U_ v_) y, (du v_) y.2.2, (y.2.2.2.2.2.2.2.2.2.2.2.1, ()), (du (dp (U_ u_))) y.2.2.2.2.2.2.2.2.2.2.2.2, ()), fun (o : (((Int × (Int × Bool)) × Int × Unit) × (Bs × sv × mg × Unit))) => (J_ j_) o.1 ((ig j_) o.2.1 ((o.2.2.1.1, ((du (dp (U_ k_))) o.2.2.2.1)))), fun (x : (jl × (Bs × sv × mg × Unit))) => nj n x.1.1 x.2.1.1 x.2.1.2.1 x.2.1.2.2.1 x.2.1.2.2.2.1 x.2.1.2.2.2.2.1 x.2.1.2.2.2.2.2.1 x.2.1.2.2.2.2.2.2.1 x.2.1.2.2.2.2.2.2.2.1 x.2.1.2.2.2.2.2.2.2.2.1 x.2.2.1.1 x.2.2.2.1.1 x.2.2.2.1.2.1 x.2.2.2.1.2.2.1 x.2.2.2.1.2.2.2.1 x.2.2.2.1.2.2.2.2.1 x.2.2.2.1.2.2.2.2.2.1 x.2.2.2.1.2.2.2.2.2.2.1 x.2.2.2.1.2.2.2.2.2.2.2.1 x.2.2.2.1.2.2.2.2.2.2.2.2.1 x.2.2.2.1.2.2.2.2.2.2.2.2.2.1 x.2.2.2.1.2.2.2.2.2.2.2.2.2.2.1 x.2.2.2.1.2.2.2.2.2.2.2.2.2.2.2.1 x.2.2.2.1.2.2.2.2.2.2.2.2.2.2.2.2.1 x.2.2.2.1.2.2.2.2.2.2.2.2.2.2.2.2.2.1⟩
theorem nk : cY (MX n) 14 18 0 (ip n) := fun x => by kernel_rfl
def MY : Cx := (Cx.bare (MX n)).addSpec 18 (ip n)
theorem Qj : Good (MY n) := Good.fn (Qi n) 14 0 (nk n) (fun _ => rfl) rfl
def mB (v1 v2 v3 v4 v5 v6 v7 v8 : Int) (v9 : (List Int)) (v10 : cR) (v11 : (List Int)) (v12 : Bool) (v13 : Int) (v14 v15 v16 v17 v18 : (List Int)) (v19 : (List Bool)) (v20 : (List Int)) (v21 v22 v23 : Int) : Option Bool := (fu n v1 v2 v3 v4 v5 v6 v7 v8 v9 v10 v11 v12 v13 v14 v15 v16 v17 v18 v19 v20 v21 v22 v23).bind fun y24 => (some (v7 == y24))
def gJ : FS := ⟨⟨[.obj 0], [Br, ii]⟩, ⟨[.val .bool], []⟩, Bool, fun y => ((y, ()), ()), fun o => o.1.1, fun (x : BA) => mB n x.2.1.1 x.2.1.2.1 x.2.1.2.2.1 x.2.1.2.2.2.1 x.2.1.2.2.2.2.1 x.2.1.2.2.2.2.2.1 x.2.1.2.2.2.2.2.2.1 x.2.1.2.2.2.2.2.2.2.1 x.2.1.2.2.2.2.2.2.2.2.1 x.2.2.1.1 x.2.2.1.2.1 x.2.2.1.2.2.1 x.2.2.1.2.2.2.1 x.2.2.1.2.2.2.2.1 x.2.2.1.2.2.2.2.2.1 x.2.2.1.2.2.2.2.2.2.1 x.2.2.1.2.2.2.2.2.2.2.1 x.2.2.1.2.2.2.2.2.2.2.2.1 x.2.2.1.2.2.2.2.2.2.2.2.2.1 x.2.2.1.2.2.2.2.2.2.2.2.2.2.1 x.2.2.1.2.2.2.2.2.2.2.2.2.2.2.1 x.2.2.1.2.2.2.2.2.2.2.2.2.2.2.2.1 x.2.2.1.2.2.2.2.2.2.2.2.2.2.2.2.2.1⟩
theorem mC : nh (MY n) 20 0 (gJ n) := fun x => by kernel_rfl
def MZ : Cx := (Cx.bare (MY n)).addQ 20 (gJ n)
theorem Qk : Good (MZ n) := jW (Qj n) 0 (mC n) (fun _ => rfl) rfl rfl
def mD (n : Nat) (v1 v2 v3 v4 v5 v6 v7 v8 : Int) (v9 : (List Int)) (v10 : cR) (v11 : (List Int)) (v12 : Bool) (v13 : Int) (v14 v15 v16 v17 v18 : (List Int)) (v19 : (List Bool)) (v20 : (List Int)) (v21 v22 v23 : Int) : Option Int := if (decide (v7 < (wrap .i64 (v4 + v5)))) then (some 0) else (some v21)
def gK : FS := ⟨⟨[.obj 0], [Br, ii]⟩, ⟨[.val cQ], []⟩, Int, fun y => ((y, ()), ()), fun o => o.1.1, fun (x : BA) => mD n x.2.1.1 x.2.1.2.1 x.2.1.2.2.1 x.2.1.2.2.2.1 x.2.1.2.2.2.2.1 x.2.1.2.2.2.2.2.1 x.2.1.2.2.2.2.2.2.1 x.2.1.2.2.2.2.2.2.2.1 x.2.1.2.2.2.2.2.2.2.2.1 x.2.2.1.1 x.2.2.1.2.1 x.2.2.1.2.2.1 x.2.2.1.2.2.2.1 x.2.2.1.2.2.2.2.1 x.2.2.1.2.2.2.2.2.1 x.2.2.1.2.2.2.2.2.2.1 x.2.2.1.2.2.2.2.2.2.2.1 x.2.2.1.2.2.2.2.2.2.2.2.1 x.2.2.1.2.2.2.2.2.2.2.2.2.1 x.2.2.1.2.2.2.2.2.2.2.2.2.2.1 x.2.2.1.2.2.2.2.2.2.2.2.2.2.2.1 x.2.2.1.2.2.2.2.2.2.2.2.2.2.2.2.1 x.2.2.1.2.2.2.2.2.2.2.2.2.2.2.2.2.1⟩
theorem mE : nh (MZ n) 23 0 (gK n) := fun x => by kernel_rfl
def M0 : Cx := (Cx.bare (MZ n)).addQ 23 (gK n)
theorem Ql : Good (M0 n) := jW (Qk n) 0 (mE n) (fun _ => rfl) rfl rfl
def DH (n : Nat) (F : lH → Option (Int)) (v3 v4 v5 : Int) : Option (Int) := if (decide (v5 < v4)) then (if (decide ((v3.tmod 2) < 0)) then (F ((wrap .i64 ((wrap .i64 (v3 - 1)).tdiv 2)), v4, (wrap .i64 (v5 + 1)))) else (F ((wrap .i64 ((wrap .i64 (v3 - (v3.tmod 2))).tdiv 2)), v4, (wrap .i64 (v5 + 1))))) else (some v3)
def zG : lH → Option (Int) := it (fun F => (C_ q_) (DH n F)) n
def zH : Loop := ⟨⟨cX 23 0 [(0, .val cQ), (1, .val cQ), (5, .val cQ)], []⟩, [(.exit 0, ⟨cX 23 0 [(0, .val cQ)], []⟩)], lH, fun x => ((dA u_) x, ()), fun (x : gC) => (x.1.1, x.1.2.1, x.1.2.2.1), Int, fun y => ((y, ()), ()), fun (o : gD) => o.1.1, zG n⟩
def Hc (a0 : Int) (a1 : Int) : Option Bool := (zG n (a0, a1, 0)).bind fun y1 => (some ((y1.tmod 2) != 0))
def DI : FS := ⟨⟨iE, []⟩, ⟨[.val .bool], []⟩, Bool, fun y => ((y, ()), ()), fun o => o.1.1, fun x => Hc n x.1.1 x.1.2.1⟩
theorem Hd : ∀ F x, dy (M0 n) 14 127 0 2 (zH n) F x = (C_ q_) (DH n F) x := fun F x => by kernel_rfl
def tA : Cx := Cx.addLoop (M0 n) 127 2 (zH n)
theorem He : Good (tA n) := Good.loop (Ql n) 14 0 (by kernel_rfl) (Hd n) n (fun _ => rfl) (fun _ => rfl) (fun _ => rfl) rfl
theorem M1 : cY (tA n) 14 127 0 (DI n) := fun x => by kernel_rfl
def M2 : Cx := (Cx.bare (tA n)).addSpec 127 (DI n)
theorem Qm : Good (M2 n) := Good.fn (He n) 14 0 (M1 n) (fun _ => rfl) rfl
def DJ (F : (Int × (List Int) × Int × Int) → Option (Int)) (v1 : Int) (v2 : (List Int)) (v3 v4 : Int) : Option (Int) := if (decide (v4 < (v2.length : Int))) then (if (decide (v4 < 64)) then ((Hc n v1 v4).bind fun y5 => (if y5 then (if (decide (0 ≤ v4) && decide (v4 < (v2.length : Int))) then (F (v1, v2, (if (v2.getD v4.toNat 0) > v3 then (v2.getD v4.toNat 0) else v3), (wrap .i64 (v4 + 1)))) else none) else (F (v1, v2, v3, (wrap .i64 (v4 + 1)))))) else (some v3)) else (some v3)
def zI : (Int × (List Int) × Int × Int) → Option (Int) := it (fun F => (dZ q_) (DJ n F)) n
def zJ : Loop := ⟨⟨cX 30 0 [(1, .val cQ), (2, .val d6), (7, .val cQ), (8, .val cQ)], []⟩, [(.exit 0, ⟨cX 30 0 [(7, .val cQ)], []⟩)], (Int × (List Int) × Int × Int), fun x => ((dA (U_ u_)) x, ()), fun (x : ((Int × (List Int) × Int × Int × Unit) × Unit)) => (dA (U_ k_)) x.1, Int, fun y => ((y, ()), ()), fun (o : gD) => o.1.1, zI n⟩
def M3 (a0 : Int) (a1 : Int) (a2 : (List Int)) : Option Int := (zI n (a1, a2, a0, 0)).bind fun y6 => (some y6)
def DK : FS := ⟨⟨[.val cQ, .val cQ, .val d6], []⟩, ⟨[.val cQ], []⟩, Int, fun y => ((y, ()), ()), fun o => o.1.1, fun x => M3 n x.1.1 x.1.2.1 x.1.2.2.1⟩
theorem Hf : ∀ F x, dy (M2 n) 14 67 0 3 (zJ n) F x = (dZ q_) (DJ n F) x := fun F x => by kernel_rfl
def tB : Cx := Cx.addLoop (M2 n) 67 3 (zJ n)
theorem Hg : Good (tB n) := Good.loop (Qm n) 14 0 (by kernel_rfl) (Hf n) n (fun _ => rfl) (fun _ => rfl) (fun _ => rfl) rfl
theorem M4 : cY (tB n) 14 67 0 (DK n) := fun x => by kernel_rfl
def M5 : Cx := (Cx.bare (tB n)).addSpec 67 (DK n)
theorem Qn : Good (M5 n) := Good.fn (Hg n) 14 0 (M4 n) (fun _ => rfl) rfl
def Hh (n : Nat) (F : Im → Option (yd)) (v15 : (List ed)) (v16 : Int) (v17 : cR) (v18 : (List Int)) (v19 : Bool) (v20 : Int) (v21 v22 v23 v24 v25 : (List Int)) (v26 : (List Bool)) (v27 : (List Int)) (v28 v29 v30 : Int) : Option (yd) := if (decide (v16 < 16)) then (if (decide (0 ≤ v16) && decide (v16 < 16)) then (if (v26.getD v16.toNat false) then (if (decide (0 ≤ v16) && decide (v16 < 16)) then (if (decide ((v15.length + 1) * 16 ≤ 140737488355328) && decide (1 ≤ 16)) then (F ((v15 ++ [(v16, (v25.getD v16.toNat 0))]), (wrap .i64 (v16 + 1)), v17, v18, v19, v20, v21, v22, v23, v24, v25, v26, v27, v28, v29, v30)) else none) else none) else (F (v15, (wrap .i64 (v16 + 1)), v17, v18, v19, v20, v21, v22, v23, v24, v25, v26, v27, v28, v29, v30))) else none) else (some (v15, v17, v18, v19, v20, v21, v22, v23, v24, v25, v26, v27, v28, v29, v30))
def BW : Im → Option (yd) := it (fun F => (su (eX (dZ q_))) (Hh n F)) n
def BX : Loop := ⟨⟨cX 27 0 [(0, .obj 0), (3, .row 117 ki), (4, .val cQ)], [ii]⟩, [(.exit 0, ⟨cX 27 0 [(3, .row 117 ki)], [ii]⟩)], Im, fun x => ((U_ v_) x, (du (dp (U_ u_))) x.2.2, ()), fun (x : (((List ed) × Int × Unit) × (mg × Unit))) => (J_ j_) x.1 ((du (dp (U_ k_))) x.2.1), yd, fun y => ((y.1, ()), (du (dp (U_ u_))) y.2, ()), fun (o : (vr × (mg × Unit))) => (o.1.1, ((du (dp (U_ k_))) o.2.1)), BW n⟩
def JY (v1 : cR) (v2 : (List Int)) (v3 : Bool) (v4 : Int) (v5 v6 v7 v8 v9 : (List Int)) (v10 : (List Bool)) (v11 : (List Int)) (v12 v13 v14 : Int) : Option yd := (BW n ([], 0, v1, v2, v3, v4, v5, v6, v7, v8, v9, v10, v11, v12, v13, v14)).bind fun y15 => (some (y15.1, y15.2.1, y15.2.2.1, y15.2.2.2.1, y15.2.2.2.2.1, y15.2.2.2.2.2.1, y15.2.2.2.2.2.2.1, y15.2.2.2.2.2.2.2.1, y15.2.2.2.2.2.2.2.2.1, y15.2.2.2.2.2.2.2.2.2.1, y15.2.2.2.2.2.2.2.2.2.2.1, y15.2.2.2.2.2.2.2.2.2.2.2.1, y15.2.2.2.2.2.2.2.2.2.2.2.2.1, y15.2.2.2.2.2.2.2.2.2.2.2.2.2.1, y15.2.2.2.2.2.2.2.2.2.2.2.2.2.2))
def Hi : FS := ⟨⟨[.obj 0], [ii]⟩, ⟨[.val (.sl ki)], [ii]⟩, yd, fun y => ((y.1, ()), (du (dp (U_ u_))) y.2, ()), fun (o : (vr × (mg × Unit))) => (o.1.1, ((du (dp (U_ k_))) o.2.1)), fun (x : (Unit × (mg × Unit))) => JY n x.2.1.1 x.2.1.2.1 x.2.1.2.2.1 x.2.1.2.2.2.1 x.2.1.2.2.2.2.1 x.2.1.2.2.2.2.2.1 x.2.1.2.2.2.2.2.2.1 x.2.1.2.2.2.2.2.2.2.1 x.2.1.2.2.2.2.2.2.2.2.1 x.2.1.2.2.2.2.2.2.2.2.2.1 x.2.1.2.2.2.2.2.2.2.2.2.2.1 x.2.1.2.2.2.2.2.2.2.2.2.2.2.1 x.2.1.2.2.2.2.2.2.2.2.2.2.2.2.1 x.2.1.2.2.2.2.2.2.2.2.2.2.2.2.2.1⟩
theorem I9 : ∀ F x, dy (M5 n) 14 69 0 3 (BX n) F x = (su (eX (dZ q_))) (Hh n F) x := fun F x => by kernel_rfl
def vY : Cx := Cx.addLoop (M5 n) 69 3 (BX n)
theorem Ja : Good (vY n) := Good.loop (Qn n) 14 0 (by kernel_rfl) (I9 n) n (fun _ => rfl) (fun _ => rfl) (fun _ => rfl) rfl
theorem NL : cY (vY n) 14 69 0 (Hi n) := fun x => by kernel_rfl
def M6 : Cx := (Cx.bare (vY n)).addSpec 69 (Hi n)
theorem Qo : Good (M6 n) := Good.fn (Ja n) 14 0 (NL n) (fun _ => rfl) rfl
def nl (v1 v2 v3 v4 v5 v6 v7 v8 : Int) (v9 : (List Int)) (v10 : cR) (v11 : (List Int)) (v12 : Bool) (v13 : Int) (v14 v15 v16 v17 v18 : (List Int)) (v19 : (List Bool)) (v20 : (List Int)) (v21 v22 v23 : Int) : Option K9 := if (decide (v8 < 0)) then (some ([], v1, v2, v3, v4, v5, v6, v7, v8, v9, v10, v11, v12, v13, v14, v15, v16, v17, v18, v19, v20, v21, v22, v23)) else (if (decide (v7 < (wrap .i64 (v8 + v6)))) then (some ([], v1, v2, v3, v4, v5, v6, v7, v8, v9, v10, v11, v12, v13, v14, v15, v16, v17, v18, v19, v20, v21, v22, v23)) else ((JY n v10 v11 v12 v13 v14 v15 v16 v17 v18 v19 v20 v21 v22 v23).bind fun y24 => (some (y24.1, v1, v2, v3, v4, v5, v6, v7, v8, v9, y24.2.1, y24.2.2.1, y24.2.2.2.1, y24.2.2.2.2.1, y24.2.2.2.2.2.1, y24.2.2.2.2.2.2.1, y24.2.2.2.2.2.2.2.1, y24.2.2.2.2.2.2.2.2.1, y24.2.2.2.2.2.2.2.2.2.1, y24.2.2.2.2.2.2.2.2.2.2.1, y24.2.2.2.2.2.2.2.2.2.2.2.1, y24.2.2.2.2.2.2.2.2.2.2.2.2.1, y24.2.2.2.2.2.2.2.2.2.2.2.2.2.1, y24.2.2.2.2.2.2.2.2.2.2.2.2.2.2))))
def iq : FS := ⟨⟨[.obj 0], [Br, ii]⟩, ⟨[.val (.sl ki)], [Br, ii]⟩, K9, fun y => ((y.1, ()), (du v_) y.2, (du (dp (U_ u_))) y.2.2.2.2.2.2.2.2.2.2, ()), fun (o : (vr × (Bs × mg × Unit))) => (o.1.1, ((ig j_) o.2.1 ((du (dp (U_ k_))) o.2.2.1))), fun (x : BA) => nl n x.2.1.1 x.2.1.2.1 x.2.1.2.2.1 x.2.1.2.2.2.1 x.2.1.2.2.2.2.1 x.2.1.2.2.2.2.2.1 x.2.1.2.2.2.2.2.2.1 x.2.1.2.2.2.2.2.2.2.1 x.2.1.2.2.2.2.2.2.2.2.1 x.2.2.1.1 x.2.2.1.2.1 x.2.2.1.2.2.1 x.2.2.1.2.2.2.1 x.2.2.1.2.2.2.2.1 x.2.2.1.2.2.2.2.2.1 x.2.2.1.2.2.2.2.2.2.1 x.2.2.1.2.2.2.2.2.2.2.1 x.2.2.1.2.2.2.2.2.2.2.2.1 x.2.2.1.2.2.2.2.2.2.2.2.2.1 x.2.2.1.2.2.2.2.2.2.2.2.2.2.1 x.2.2.1.2.2.2.2.2.2.2.2.2.2.2.1 x.2.2.1.2.2.2.2.2.2.2.2.2.2.2.2.1 x.2.2.1.2.2.2.2.2.2.2.2.2.2.2.2.2.1⟩
theorem np : cY (M6 n) 14 30 0 (iq n) := fun x => by kernel_rfl
def M7 : Cx := (Cx.bare (M6 n)).addSpec 30 (iq n)
theorem Qp : Good (M7 n) := Good.fn (Qo n) 14 0 (np n) (fun _ => rfl) rfl
def eY (n : Nat) (a0 : Int) (a1 : Int) : Option Int := some (if 1048577 < (wrap .i64 (a0 + a1)) then 1048577 else (wrap .i64 (a0 + a1)))
def uW : FS := ⟨⟨iE, []⟩, ⟨[.val cQ], []⟩, Int, fun y => ((y, ()), ()), fun o => o.1.1, fun x => eY n x.1.1 x.1.2.1⟩
theorem EX : cY (M7 n) 14 129 0 (uW n) := fun x => by kernel_rfl
def M8 : Cx := (Cx.bare (M7 n)).addSpec 129 (uW n)
theorem Qq : Good (M8 n) := Good.fn (Qp n) 14 0 (EX n) (fun _ => rfl) rfl
def eO (n : Nat) (a0 : Int) (a1 : Int) : Option Int := some (if a1 > a0 then a1 else a0)
def tC : FS := ⟨⟨iE, []⟩, ⟨[.val cQ], []⟩, Int, fun y => ((y, ()), ()), fun o => o.1.1, fun x => eO n x.1.1 x.1.2.1⟩
theorem CO : cY (M8 n) 14 71 0 (tC n) := fun x => by kernel_rfl
def M9 : Cx := (Cx.bare (M8 n)).addSpec 71 (tC n)
theorem Qr : Good (M9 n) := Good.fn (Qq n) 14 0 (CO n) (fun _ => rfl) rfl
def Kq0.r0 : FS := ⟨⟨[.agf (.pair dI d6) 71, .val cQ, .val cQ], []⟩, ⟨[.val cQ], []⟩, Int, fun y => ((y, ()), ()), fun o => o.1.1, fun _ => none⟩
def um (W : gv → Option Int) : Cx := (Cx.bare (M9 n)).addSpec 130 (Kq0.r0.with W)
def eZ (W : gv → Option Int) (a0 : (cR × (List Int))) (a1 : Int) : Option Int := if (decide (0 ≤ a1) && decide (a1 < (a0.2.length : Int))) then ((W (((a0.1, a0.2), (wrap .i64 (a1 + 1)), (a0.2.getD a1.toNat 0), ()), ())).bind fun y1 => ((eY n y1 1).bind fun y2 => (if (y2 == 1048577) then (some 1048577) else (if (decide (0 ≤ a1) && decide (a1 < (a0.1.length : Int))) then (some (if 1048577 < (wrap .i64 (1 + (wrap .i64 ((a0.1.getD a1.toNat (0, (0, 0))).2.1 * y2)))) then 1048577 else (wrap .i64 (1 + (wrap .i64 ((a0.1.getD a1.toNat (0, (0, 0))).2.1 * y2)))))) else none)))) else none
def iF (W : gv → Option Int) : FS := ⟨⟨[.agf (.pair dI d6) 71, .val cQ], []⟩, ⟨[.val cQ], []⟩, Int, fun y => ((y, ()), ()), fun o => o.1.1, fun x => eZ n W x.1.1 x.1.2.1⟩
theorem n4 (W : gv → Option Int) : cY (um n W) 14 184 0 (iF n W) := fun x => by kernel_rfl
def fY (W : gv → Option Int) : Cx := (Cx.bare (um n W)).addSpec 184 (iF n W)
theorem n5 (W : gv → Option Int) (h : Good (um n W)) : Good (fY n W) := Good.fn (h) 14 0 (n4 n W) (fun _ => rfl) rfl
def pT (n : Nat) (W : gv → Option Int) (F : Iu → Option (sA)) (v6 v7 v8 : Int) (v9 : cR) (v10 : (List Int)) (v11 : Int) (v12 : (List Int)) : Option (sA) := if (decide (v8 < v7)) then (if (decide (0 ≤ (wrap .i64 (v8 + 1))) && decide ((wrap .i64 (v8 + 1)) < (v12.length : Int))) then (F (v6, v7, (wrap .i64 (v8 + 1)), v9, v10, v11, (v12.set ((wrap .i64 (v8 + 1))).toNat (-1)))) else none) else (some (v6, v9, v10, v11, v12))
def vZ (W : gv → Option Int) : Iu → Option (sA) := it (fun F x => pT n W F x.1 x.2.1 x.2.2.1 x.2.2.2.1 x.2.2.2.2.1 x.2.2.2.2.2.1 x.2.2.2.2.2.2) n
def BY (W : gv → Option Int) : Loop := ⟨⟨cX 106 0 [(2, .val cQ), (3, .obj 0), (4, .obj 1), (7, .obj 2), (20, .val cQ), (21, .val cQ)], [Db, [.val cQ], [.row 3 cQ]]⟩, [(.exit 0, ⟨cX 106 0 [(2, .val cQ), (3, .obj 0), (4, .obj 1), (7, .obj 2)], [Db, [.val cQ], [.row 3 cQ]]⟩)], Iu, fun x => ((dA v_) x, (U_ v_) x.2.2.2, (x.2.2.2.2.2.1, ()), (x.2.2.2.2.2.2, ()), ()), fun (x : (oF × yi)) => (mS j_) x.1 ((J_ j_) x.2.1 ((x.2.2.1.1, x.2.2.2.1.1))), sA, fun y => ((y.1, ()), (U_ v_) y.2, (y.2.2.2.1, ()), (y.2.2.2.2, ()), ()), fun (o : (iB × yi)) => (o.1.1, o.2.1.1, o.2.1.2.1, o.2.2.1.1, o.2.2.2.1.1), vZ n W⟩
def xr (W : gv → Option Int) (v13 v14 : Int) (v15 : cR) (v16 : (List Int)) (v17 : Int) (v18 : (List Int)) : Option (yh) := if (decide (0 ≤ (wrap .i64 (v14 - v17))) && decide ((wrap .i64 (v14 - v17)) < (v18.length : Int))) then (if ((v18.getD ((wrap .i64 (v14 - v17))).toNat 0) == (-1)) then (some (v13, v14, v15, v16, v17, v18)) else (if (decide (0 ≤ v14) && decide (v14 < (v15.length : Int))) then (if ((v15.getD v14.toNat (0, (0, 0))).1 == 21) then (if (decide (0 ≤ v14) && decide (v14 < (v16.length : Int))) then ((eZ n W (v15, v16) v14).bind fun y19 => ((eY n (v18.getD ((wrap .i64 (v14 - v17))).toNat 0) y19).bind fun y20 => (if (decide (0 ≤ (wrap .i64 ((wrap .i64 ((v16.getD v14.toNat 0) + 1)) - v17))) && decide ((wrap .i64 ((wrap .i64 ((v16.getD v14.toNat 0) + 1)) - v17)) < (v18.length : Int))) then (if ((v18.getD ((wrap .i64 ((wrap .i64 ((v16.getD v14.toNat 0) + 1)) - v17))).toNat 0) != (-1)) then ((eO n (v18.getD ((wrap .i64 ((wrap .i64 ((v16.getD v14.toNat 0) + 1)) - v17))).toNat 0) y20).bind fun y21 => (if (decide (0 ≤ (wrap .i64 ((wrap .i64 ((v16.getD v14.toNat 0) + 1)) - v17))) && decide ((wrap .i64 ((wrap .i64 ((v16.getD v14.toNat 0) + 1)) - v17)) < (v18.length : Int))) then (some (v13, v14, v15, v16, v17, (v18.set ((wrap .i64 ((wrap .i64 ((v16.getD v14.toNat 0) + 1)) - v17))).toNat y21))) else none)) else (if (decide (0 ≤ (wrap .i64 ((wrap .i64 ((v16.getD v14.toNat 0) + 1)) - v17))) && decide ((wrap .i64 ((wrap .i64 ((v16.getD v14.toNat 0) + 1)) - v17)) < (v18.length : Int))) then (some (v13, v14, v15, v16, v17, (v18.set ((wrap .i64 ((wrap .i64 ((v16.getD v14.toNat 0) + 1)) - v17))).toNat y20))) else none)) else none))) else none) else (if ((v15.getD v14.toNat (0, (0, 0))).1 == 19) then ((eY n (v18.getD ((wrap .i64 (v14 - v17))).toNat 0) 1).bind fun y22 => (if (decide (0 ≤ (wrap .i64 ((wrap .i64 ((wrap .i64 (v14 + 1)) + (v15.getD v14.toNat (0, (0, 0))).2.1)) - v17))) && decide ((wrap .i64 ((wrap .i64 ((wrap .i64 (v14 + 1)) + (v15.getD v14.toNat (0, (0, 0))).2.1)) - v17)) < (v18.length : Int))) then (if ((v18.getD ((wrap .i64 ((wrap .i64 ((wrap .i64 (v14 + 1)) + (v15.getD v14.toNat (0, (0, 0))).2.1)) - v17))).toNat 0) != (-1)) then ((eO n (v18.getD ((wrap .i64 ((wrap .i64 ((wrap .i64 (v14 + 1)) + (v15.getD v14.toNat (0, (0, 0))).2.1)) - v17))).toNat 0) y22).bind fun y23 => (if (decide (0 ≤ (wrap .i64 ((wrap .i64 ((wrap .i64 (v14 + 1)) + (v15.getD v14.toNat (0, (0, 0))).2.1)) - v17))) && decide ((wrap .i64 ((wrap .i64 ((wrap .i64 (v14 + 1)) + (v15.getD v14.toNat (0, (0, 0))).2.1)) - v17)) < (v18.length : Int))) then (some (v13, v14, v15, v16, v17, (v18.set ((wrap .i64 ((wrap .i64 ((wrap .i64 (v14 + 1)) + (v15.getD v14.toNat (0, (0, 0))).2.1)) - v17))).toNat y23))) else none)) else (if (decide (0 ≤ (wrap .i64 ((wrap .i64 ((wrap .i64 (v14 + 1)) + (v15.getD v14.toNat (0, (0, 0))).2.1)) - v17))) && decide ((wrap .i64 ((wrap .i64 ((wrap .i64 (v14 + 1)) + (v15.getD v14.toNat (0, (0, 0))).2.1)) - v17)) < (v18.length : Int))) then (some (v13, v14, v15, v16, v17, (v18.set ((wrap .i64 ((wrap .i64 ((wrap .i64 (v14 + 1)) + (v15.getD v14.toNat (0, (0, 0))).2.1)) - v17))).toNat y22))) else none)) else none)) else (if ((v15.getD v14.toNat (0, (0, 0))).1 == 20) then ((eY n (v18.getD ((wrap .i64 (v14 - v17))).toNat 0) 1).bind fun y24 => (if (decide (0 ≤ (wrap .i64 ((wrap .i64 ((wrap .i64 (v14 + 1)) + (v15.getD v14.toNat (0, (0, 0))).2.1)) - v17))) && decide ((wrap .i64 ((wrap .i64 ((wrap .i64 (v14 + 1)) + (v15.getD v14.toNat (0, (0, 0))).2.1)) - v17)) < (v18.length : Int))) then (if ((v18.getD ((wrap .i64 ((wrap .i64 ((wrap .i64 (v14 + 1)) + (v15.getD v14.toNat (0, (0, 0))).2.1)) - v17))).toNat 0) != (-1)) then ((eO n (v18.getD ((wrap .i64 ((wrap .i64 ((wrap .i64 (v14 + 1)) + (v15.getD v14.toNat (0, (0, 0))).2.1)) - v17))).toNat 0) y24).bind fun y25 => (if (decide (0 ≤ (wrap .i64 ((wrap .i64 ((wrap .i64 (v14 + 1)) + (v15.getD v14.toNat (0, (0, 0))).2.1)) - v17))) && decide ((wrap .i64 ((wrap .i64 ((wrap .i64 (v14 + 1)) + (v15.getD v14.toNat (0, (0, 0))).2.1)) - v17)) < (v18.length : Int))) then ((eY n (v18.getD ((wrap .i64 (v14 - v17))).toNat 0) 1).bind fun y26 => (if (decide (0 ≤ (wrap .i64 ((wrap .i64 (v14 + 1)) - v17))) && decide ((wrap .i64 ((wrap .i64 (v14 + 1)) - v17)) < (((v18.set ((wrap .i64 ((wrap .i64 ((wrap .i64 (v14 + 1)) + (v15.getD v14.toNat (0, (0, 0))).2.1)) - v17))).toNat y25).length : Nat) : Int))) then (if (((v18.set ((wrap .i64 ((wrap .i64 ((wrap .i64 (v14 + 1)) + (v15.getD v14.toNat (0, (0, 0))).2.1)) - v17))).toNat y25).getD ((wrap .i64 ((wrap .i64 (v14 + 1)) - v17))).toNat 0) != (-1)) then ((eO n ((v18.set ((wrap .i64 ((wrap .i64 ((wrap .i64 (v14 + 1)) + (v15.getD v14.toNat (0, (0, 0))).2.1)) - v17))).toNat y25).getD ((wrap .i64 ((wrap .i64 (v14 + 1)) - v17))).toNat 0) y26).bind fun y27 => (if (decide (0 ≤ (wrap .i64 ((wrap .i64 (v14 + 1)) - v17))) && decide ((wrap .i64 ((wrap .i64 (v14 + 1)) - v17)) < (((v18.set ((wrap .i64 ((wrap .i64 ((wrap .i64 (v14 + 1)) + (v15.getD v14.toNat (0, (0, 0))).2.1)) - v17))).toNat y25).length : Nat) : Int))) then (some (v13, v14, v15, v16, v17, ((v18.set ((wrap .i64 ((wrap .i64 ((wrap .i64 (v14 + 1)) + (v15.getD v14.toNat (0, (0, 0))).2.1)) - v17))).toNat y25).set ((wrap .i64 ((wrap .i64 (v14 + 1)) - v17))).toNat y27))) else none)) else (if (decide (0 ≤ (wrap .i64 ((wrap .i64 (v14 + 1)) - v17))) && decide ((wrap .i64 ((wrap .i64 (v14 + 1)) - v17)) < (((v18.set ((wrap .i64 ((wrap .i64 ((wrap .i64 (v14 + 1)) + (v15.getD v14.toNat (0, (0, 0))).2.1)) - v17))).toNat y25).length : Nat) : Int))) then (some (v13, v14, v15, v16, v17, ((v18.set ((wrap .i64 ((wrap .i64 ((wrap .i64 (v14 + 1)) + (v15.getD v14.toNat (0, (0, 0))).2.1)) - v17))).toNat y25).set ((wrap .i64 ((wrap .i64 (v14 + 1)) - v17))).toNat y26))) else none)) else none)) else none)) else (if (decide (0 ≤ (wrap .i64 ((wrap .i64 ((wrap .i64 (v14 + 1)) + (v15.getD v14.toNat (0, (0, 0))).2.1)) - v17))) && decide ((wrap .i64 ((wrap .i64 ((wrap .i64 (v14 + 1)) + (v15.getD v14.toNat (0, (0, 0))).2.1)) - v17)) < (v18.length : Int))) then ((eY n (v18.getD ((wrap .i64 (v14 - v17))).toNat 0) 1).bind fun y28 => (if (decide (0 ≤ (wrap .i64 ((wrap .i64 (v14 + 1)) - v17))) && decide ((wrap .i64 ((wrap .i64 (v14 + 1)) - v17)) < (((v18.set ((wrap .i64 ((wrap .i64 ((wrap .i64 (v14 + 1)) + (v15.getD v14.toNat (0, (0, 0))).2.1)) - v17))).toNat y24).length : Nat) : Int))) then (if (((v18.set ((wrap .i64 ((wrap .i64 ((wrap .i64 (v14 + 1)) + (v15.getD v14.toNat (0, (0, 0))).2.1)) - v17))).toNat y24).getD ((wrap .i64 ((wrap .i64 (v14 + 1)) - v17))).toNat 0) != (-1)) then ((eO n ((v18.set ((wrap .i64 ((wrap .i64 ((wrap .i64 (v14 + 1)) + (v15.getD v14.toNat (0, (0, 0))).2.1)) - v17))).toNat y24).getD ((wrap .i64 ((wrap .i64 (v14 + 1)) - v17))).toNat 0) y28).bind fun y29 => (if (decide (0 ≤ (wrap .i64 ((wrap .i64 (v14 + 1)) - v17))) && decide ((wrap .i64 ((wrap .i64 (v14 + 1)) - v17)) < (((v18.set ((wrap .i64 ((wrap .i64 ((wrap .i64 (v14 + 1)) + (v15.getD v14.toNat (0, (0, 0))).2.1)) - v17))).toNat y24).length : Nat) : Int))) then (some (v13, v14, v15, v16, v17, ((v18.set ((wrap .i64 ((wrap .i64 ((wrap .i64 (v14 + 1)) + (v15.getD v14.toNat (0, (0, 0))).2.1)) - v17))).toNat y24).set ((wrap .i64 ((wrap .i64 (v14 + 1)) - v17))).toNat y29))) else none)) else (if (decide (0 ≤ (wrap .i64 ((wrap .i64 (v14 + 1)) - v17))) && decide ((wrap .i64 ((wrap .i64 (v14 + 1)) - v17)) < (((v18.set ((wrap .i64 ((wrap .i64 ((wrap .i64 (v14 + 1)) + (v15.getD v14.toNat (0, (0, 0))).2.1)) - v17))).toNat y24).length : Nat) : Int))) then (some (v13, v14, v15, v16, v17, ((v18.set ((wrap .i64 ((wrap .i64 ((wrap .i64 (v14 + 1)) + (v15.getD v14.toNat (0, (0, 0))).2.1)) - v17))).toNat y24).set ((wrap .i64 ((wrap .i64 (v14 + 1)) - v17))).toNat y28))) else none)) else none)) else none)) else none)) else ((eY n (v18.getD ((wrap .i64 (v14 - v17))).toNat 0) 1).bind fun y30 => (if (decide (0 ≤ (wrap .i64 ((wrap .i64 (v14 + 1)) - v17))) && decide ((wrap .i64 ((wrap .i64 (v14 + 1)) - v17)) < (v18.length : Int))) then (if ((v18.getD ((wrap .i64 ((wrap .i64 (v14 + 1)) - v17))).toNat 0) != (-1)) then ((eO n (v18.getD ((wrap .i64 ((wrap .i64 (v14 + 1)) - v17))).toNat 0) y30).bind fun y31 => (if (decide (0 ≤ (wrap .i64 ((wrap .i64 (v14 + 1)) - v17))) && decide ((wrap .i64 ((wrap .i64 (v14 + 1)) - v17)) < (v18.length : Int))) then (some (v13, v14, v15, v16, v17, (v18.set ((wrap .i64 ((wrap .i64 (v14 + 1)) - v17))).toNat y31))) else none)) else (if (decide (0 ≤ (wrap .i64 ((wrap .i64 (v14 + 1)) - v17))) && decide ((wrap .i64 ((wrap .i64 (v14 + 1)) - v17)) < (v18.length : Int))) then (some (v13, v14, v15, v16, v17, (v18.set ((wrap .i64 ((wrap .i64 (v14 + 1)) - v17))).toNat y30))) else none)) else none))))) else none)) else none
def wa (W : gv → Option Int) : Loop := ⟨⟨cX 106 0 [(2, .val cQ), (3, .obj 0), (4, .obj 1), (7, .obj 2), (9, .clo 183 [2, 1, 0]), (10, .val cQ)], [Db, [.val cQ], [.row 3 cQ]]⟩, [(.norm, ⟨cX 106 0 [(2, .val cQ), (3, .obj 0), (4, .obj 1), (7, .obj 2), (9, .clo 183 [2, 1, 0]), (10, .val cQ)], [Db, [.val cQ], [.row 3 cQ]]⟩)], yh, fun x => ((U_ v_) x, (U_ v_) x.2.2, (x.2.2.2.2.1, ()), (x.2.2.2.2.2, ()), ()), fun (x : ((Int × Int × Unit) × yi)) => (J_ j_) x.1 ((J_ j_) x.2.1 ((x.2.2.1.1, x.2.2.2.1.1))), yh, fun y => ((U_ v_) y, (U_ v_) y.2.2, (y.2.2.2.2.1, ()), (y.2.2.2.2.2, ()), ()), fun (o : ((Int × Int × Unit) × yi)) => (J_ j_) o.1 ((J_ j_) o.2.1 ((o.2.2.1.1, o.2.2.2.1.1))), fun x => xr n W x.1 x.2.1 x.2.2.1 x.2.2.2.1 x.2.2.2.2.1 x.2.2.2.2.2⟩
def pU (W : gv → Option Int) (F : yh → Option (sA)) (v7 v8 : Int) (v9 : cR) (v10 : (List Int)) (v11 : Int) (v12 : (List Int)) : Option (sA) := if (decide (v8 < v7)) then ((xr n W v7 v8 v9 v10 v11 v12).bind fun y13 => (F (y13.1, (wrap .i64 (y13.2.1 + 1)), y13.2.2.1, y13.2.2.2.1, y13.2.2.2.2.1, y13.2.2.2.2.2))) else (some (v7, v9, v10, v11, v12))
def wb (W : gv → Option Int) : yh → Option (sA) := it (fun F x => pU n W F x.1 x.2.1 x.2.2.1 x.2.2.2.1 x.2.2.2.2.1 x.2.2.2.2.2) n
def BZ (W : gv → Option Int) : Loop := ⟨⟨cX 106 0 [(2, .val cQ), (3, .obj 0), (4, .obj 1), (7, .obj 2), (9, .clo 183 [2, 1, 0]), (10, .val cQ)], [Db, [.val cQ], [.row 3 cQ]]⟩, [(.exit 2, ⟨cX 106 0 [(2, .val cQ), (4, .obj 1), (7, .obj 2)], [Db, [.val cQ], [.row 3 cQ]]⟩)], yh, fun x => ((U_ v_) x, (U_ v_) x.2.2, (x.2.2.2.2.1, ()), (x.2.2.2.2.2, ()), ()), fun (x : ((Int × Int × Unit) × yi)) => (J_ j_) x.1 ((J_ j_) x.2.1 ((x.2.2.1.1, x.2.2.2.1.1))), sA, fun y => ((y.1, ()), (U_ v_) y.2, (y.2.2.2.1, ()), (y.2.2.2.2, ()), ()), fun (o : (iB × yi)) => (o.1.1, o.2.1.1, o.2.1.2.1, o.2.2.1.1, o.2.2.2.1.1), wb n W⟩
theorem Jb (W : gv → Option Int) : ∀ F x, dy (fY n W) 14 130 0 3 (BY n W) F x = pT n W F x.1 x.2.1 x.2.2.1 x.2.2.2.1 x.2.2.2.2.1 x.2.2.2.2.2.1 x.2.2.2.2.2.2 := fun F x => by kernel_rfl
def wc (W : gv → Option Int) : Cx := Cx.addLoop (fY n W) 130 3 (BY n W)
theorem Jc (W : gv → Option Int) (h : Good (um n W)) : Good (wc n W) := Good.loop (n5 n W h) 14 0 (by kernel_rfl) (Jb n W) n (fun _ => rfl) (fun _ => rfl) (fun _ => rfl) rfl
theorem Jd (W : gv → Option Int) : ∀ x, fE (wc n W) 14 130 0 1000010 (wa n W) x = (wa n W).fn x := fun x => by kernel_rfl
def we (W : gv → Option Int) : Cx := Cx.addLoop (wc n W) 130 1000010 (wa n W)
theorem Je (W : gv → Option Int) (h : Good (um n W)) : Good (we n W) := eu (Jc n W h) 14 0 (by kernel_rfl) (Jd n W) (fun _ => rfl) (fun _ => rfl) rfl
theorem Jf (W : gv → Option Int) : ∀ F x, dy (we n W) 14 130 0 9 (BZ n W) F x = pU n W F x.1 x.2.1 x.2.2.1 x.2.2.2.1 x.2.2.2.2.1 x.2.2.2.2.2 := fun F x => by kernel_rfl
def wg (W : gv → Option Int) : Cx := Cx.addLoop (we n W) 130 9 (BZ n W)
theorem Jg (W : gv → Option Int) (h : Good (um n W)) : Good (wg n W) := Good.loop (Je n W h) 14 0 (by kernel_rfl) (Jf n W) n (fun _ => rfl) (fun _ => rfl) (fun _ => rfl) rfl
def qS (W : gv → Option Int) (a0 : (cR × (List Int))) (a1 : Int) (a2 : Int) : Option Int := if (decide (0 ≤ (wrap .i64 ((wrap .i64 (a2 - a1)) + 1))) && ((wrap .i64 ((wrap .i64 (a2 - a1)) + 1)) == (wrap .i64 ((wrap .i64 (a2 - a1)) + 1))) && decide ((wrap .i64 ((wrap .i64 (a2 - a1)) + 1)) * (8 : Int) ≤ 140737488355328) && decide (1 ≤ 8)) then (if (decide (0 ≤ 1) && decide (1 ≤ (((List.replicate ((wrap .i64 ((wrap .i64 (a2 - a1)) + 1))).toNat (0 : Int)).length : Nat) : Int))) then ((vZ n W (a2, ((((List.replicate ((wrap .i64 ((wrap .i64 (a2 - a1)) + 1))).toNat (0 : Int)).length - 1) : Nat) : Int), 0, a0.1, a0.2, a1, (List.replicate ((wrap .i64 ((wrap .i64 (a2 - a1)) + 1))).toNat (0 : Int)))).bind fun y1 => ((wb n W (y1.1, y1.2.2.2.1, y1.2.1, y1.2.2.1, y1.2.2.2.1, y1.2.2.2.2)).bind fun y2 => (if (decide (0 ≤ (wrap .i64 (y2.1 - y2.2.2.2.1))) && decide ((wrap .i64 (y2.1 - y2.2.2.2.1)) < (y2.2.2.2.2.length : Int))) then (some (y2.2.2.2.2.getD ((wrap .i64 (y2.1 - y2.2.2.2.1))).toNat (0 : Int))) else none))) else none) else none
def EY (a0 : (cR × (List Int))) (a1 : Int) (a2 : Int) : Option Int := it (fun (W : gv → Option Int) x => qS n W x.1.1 x.1.2.1 x.1.2.2.1) n ((a0, a1, a2, ()), ())
def B0 : FS := ⟨⟨[.agf (.pair dI d6) 71, .val cQ, .val cQ], []⟩, ⟨[.val cQ], []⟩, Int, fun y => ((y, ()), ()), fun o => o.1.1, fun x => EY n x.1.1 x.1.2.1 x.1.2.2.1⟩
theorem NM (W : gv → Option Int) : cY (wg n W) 14 130 0 ((B0 n).with ((fun (W : gv → Option Int) x => qS n W x.1.1 x.1.2.1 x.1.2.2.1) W)) := fun x => by kernel_rfl
def Na : Cx := (Cx.bare (M9 n)).addSpec 130 (B0 n)
theorem Qs : Good (Na n) := EA (S := B0 n) (step := (fun (W : gv → Option Int) x => qS n W x.1.1 x.1.2.1 x.1.2.2.1)) (Qr n) (fun x => n) (fun W => wg n W) (fun W h => Jg n W h) (fun _ => rfl) 14 0 (fun W => NM n W) (fun _ => rfl) rfl (fun _ => rfl)
def iG (a0 : cR) : Option ed := (px n a0).bind fun y1 => (if (y1.2 != 0) then (if (y1.2 != 0) then (some (0, y1.2)) else none) else ((qJ n a0).bind fun y2 => (if (y2.2 != 0) then (if (y2.2 != 0) then (some (0, y2.2)) else none) else ((gF n a0).bind fun y3 => (if (y3.2 != 0) then (some (0, y3.2)) else ((EY n (a0, y3.1) 0 (wrap .i64 ((a0.length : Int) - 1))).bind fun y4 => ((eY n y4 1).bind fun y5 => (if (y5 == 1048577) then (some (0, 4)) else (some (y5, 0))))))))))
def n6 : FS := ⟨⟨[.val dI, .clo 71 []], []⟩, ⟨iE, []⟩, ed, fun y => ((U_ u_) y, ()), fun o => (o.1.1, o.1.2.1), fun x => iG n x.1.1⟩
theorem xt : cY (Na n) 14 70 0 (n6 n) := fun x => by kernel_rfl
def Nb : Cx := (Cx.bare (Na n)).addSpec 70 (n6 n)
theorem Qt : Good (Nb n) := Good.fn (Qs n) 14 0 (xt n) (fun _ => rfl) rfl
def gL (a0 : cR) : Option ed := (iG n a0).bind fun y1 => (some (y1.1, y1.2))
def rH : FS := ⟨⟨[.val dI], []⟩, ⟨iE, []⟩, ed, fun y => ((U_ u_) y, ()), fun o => (o.1.1, o.1.2.1), fun x => gL n x.1.1⟩
theorem B4 : cY (Nb n) 14 31 0 (rH n) := fun x => by kernel_rfl
def Nc : Cx := (Cx.bare (Nb n)).addSpec 31 (rH n)
theorem Qu : Good (Nc n) := Good.fn (Qt n) 14 0 (B4 n) (fun _ => rfl) rfl
def tD (n : Nat) (v1 : cR) (v2 v3 : (List Int)) (v4 : Bool) (v5 : Int) (v6 v7 v8 v9 : (List Int)) (v10 : Int) (v11 : (List Int)) (v12 v13 v14 : Int) : Option ze := some (v14, v1, v2, v3, v4, v5, v6, v7, v8, v9, v10, v11, v12, v13, v14)
def lx : FS := ⟨⟨[.obj 0], [ef]⟩, ⟨[.val cQ], [ef]⟩, ze, fun y => ((y.1, ()), (du (dp (U_ u_))) y.2, ()), fun (o : (iB × iQ)) => (o.1.1, ((du (dp (U_ k_))) o.2.1)), fun (x : (Unit × iQ)) => tD n x.2.1.1 x.2.1.2.1 x.2.1.2.2.1 x.2.1.2.2.2.1 x.2.1.2.2.2.2.1 x.2.1.2.2.2.2.2.1 x.2.1.2.2.2.2.2.2.1 x.2.1.2.2.2.2.2.2.2.1 x.2.1.2.2.2.2.2.2.2.2.1 x.2.1.2.2.2.2.2.2.2.2.2.1 x.2.1.2.2.2.2.2.2.2.2.2.2.1 x.2.1.2.2.2.2.2.2.2.2.2.2.2.1 x.2.1.2.2.2.2.2.2.2.2.2.2.2.2.1 x.2.1.2.2.2.2.2.2.2.2.2.2.2.2.2.1⟩
theorem tE : cY (Nc n) 14 32 0 (lx n) := fun x => by kernel_rfl
def Nd : Cx := (Cx.bare (Nc n)).addSpec 32 (lx n)
theorem Qv : Good (Nd n) := Good.fn (Qu n) 14 0 (tE n) (fun _ => rfl) rfl
def fj (n : Nat) (F : (cR × Int × Int) → Option (gB)) (v1 : cR) (v2 v3 : Int) : Option (gB) := if (decide (v3 < v2)) then (if (decide (0 ≤ v3) && decide (v3 < (v1.length : Int))) then (if ((v1.getD v3.toNat (0, (0, 0))).1 == 19) then (if (decide ((v1.getD v3.toNat (0, (0, 0))).2.1 > 0)) then (some (.inl ((false, ()), ()))) else (F (v1, v2, (wrap .i64 (v3 + 1))))) else (if ((v1.getD v3.toNat (0, (0, 0))).1 == 20) then (if (decide ((v1.getD v3.toNat (0, (0, 0))).2.1 > 0)) then (some (.inl ((false, ()), ()))) else (F (v1, v2, (wrap .i64 (v3 + 1))))) else (F (v1, v2, (wrap .i64 (v3 + 1)))))) else none) else (some (.inr ((), ())))
def iS : (cR × Int × Int) → Option (gB) := it (fun F => (C_ q_) (fj n F)) n
def mF : Loop := ⟨⟨cX 25 0 [(5, .val dI), (6, .val cQ), (7, .val cQ)], []⟩, [(.ret, ⟨cX 25 0 [(2, .val .bool)], []⟩), (.exit 0, ⟨cX 25 0 [], []⟩)], (cR × Int × Int), fun x => ((dA u_) x, ()), fun (x : ((cR × Int × Int × Unit) × Unit)) => (x.1.1, x.1.2.1, x.1.2.2.1), gB, fun y => y, fun y => y, iS n⟩
def iH (a0 : cR) : Option Bool := (iS n (a0, (a0.length : Int), 0)).bind fun y4 => ((Sum.elim (fun (z5 : (iA × Unit)) => (some z5.1.1)) (fun (z6 : o9) => (some true))) y4)
def n7 : FS := ⟨⟨[.val dI], []⟩, ⟨[.val .bool], []⟩, Bool, fun y => ((y, ()), ()), fun o => o.1.1, fun x => iH n x.1.1⟩
theorem tF : ∀ F x, dy (Nd n) 14 33 0 2 (mF n) F x = (C_ q_) (fj n F) x := fun F x => by kernel_rfl
def iT : Cx := Cx.addLoop (Nd n) 33 2 (mF n)
theorem tG : Good (iT n) := Good.loop (Qv n) 14 0 (by kernel_rfl) (tF n) n (fun _ => rfl) (fun _ => rfl) (fun _ => rfl) rfl
theorem xu : cY (iT n) 14 33 0 (n7 n) := fun x => by kernel_rfl
def Jh : Cx := (Cx.bare (iT n)).addSpec 33 (n7 n)
theorem On : Good (Jh n) := Good.fn (tG n) 14 0 (xu n) (fun _ => rfl) rfl
def eC (n : Nat) (v1 : cR) (v2 v3 : (List Int)) (v4 : Bool) (v5 : Int) (v6 v7 v8 v9 : (List Int)) (v10 : Int) (v11 : (List Int)) (v12 v13 v14 : Int) : Option Lg := some (v3, v1, v2, v3, v4, v5, v6, v7, v8, v9, v10, v11, v12, v13, v14)
def jD : FS := ⟨⟨[.obj 0], [ef]⟩, ⟨[.val uR], [ef]⟩, Lg, fun y => ((y.1, ()), (du (dp (U_ u_))) y.2, ()), fun (o : (jl × iQ)) => (o.1.1, ((du (dp (U_ k_))) o.2.1)), fun (x : (Unit × iQ)) => eC n x.2.1.1 x.2.1.2.1 x.2.1.2.2.1 x.2.1.2.2.2.1 x.2.1.2.2.2.2.1 x.2.1.2.2.2.2.2.1 x.2.1.2.2.2.2.2.2.1 x.2.1.2.2.2.2.2.2.2.1 x.2.1.2.2.2.2.2.2.2.2.1 x.2.1.2.2.2.2.2.2.2.2.2.1 x.2.1.2.2.2.2.2.2.2.2.2.2.1 x.2.1.2.2.2.2.2.2.2.2.2.2.2.1 x.2.1.2.2.2.2.2.2.2.2.2.2.2.2.1 x.2.1.2.2.2.2.2.2.2.2.2.2.2.2.2.1⟩
theorem pV : cY (Jh n) 14 34 0 (jD n) := fun x => by kernel_rfl
def Ji : Cx := (Cx.bare (Jh n)).addSpec 34 (jD n)
theorem Oo : Good (Ji n) := Good.fn (On n) 14 0 (pV n) (fun _ => rfl) rfl
def Hj (n : Nat) (F : oE → Option (oE)) (v21 v22 v23 v24 v25 v26 v27 v28 v29 : Int) (v30 v31 : (List Int)) (v32 : cR) (v33 v34 : (List Int)) (v35 : Bool) (v36 : Int) (v37 v38 v39 v40 : (List Int)) (v41 : Int) (v42 : (List Int)) (v43 v44 v45 : Int) : Option (oE) := if (v28 == 0) then (if (decide (v27 < 5)) then (if (decide (0 ≤ (wrap .i64 (v27 + 1))) && decide ((wrap .i64 (v27 + 1)) < 6)) then (F (v21, v22, v23, v24, v25, v26, (wrap .i64 (v27 + 1)), (v31.getD ((wrap .i64 (v27 + 1))).toNat 0), v29, v30, v31, v32, v33, v34, v35, v36, v37, v38, v39, v40, v41, v42, v43, v44, v45)) else none) else (some (v21, v22, v23, v24, v25, v26, v27, v28, v29, v30, v31, v32, v33, v34, v35, v36, v37, v38, v39, v40, v41, v42, v43, v44, v45))) else (some (v21, v22, v23, v24, v25, v26, v27, v28, v29, v30, v31, v32, v33, v34, v35, v36, v37, v38, v39, v40, v41, v42, v43, v44, v45))
def wi : oE → Option (oE) := it (fun F => (kS (eX (dZ (C_ q_)))) (Hj n F)) n
def B5 : Loop := ⟨⟨cX 52 0 [(0, .obj 0), (2, .obj 1)], [rn, [.val (.arr 6 cQ)], ef]⟩, [(.exit 0, ⟨cX 52 0 [], [rn, [.val (.arr 6 cQ)], ef]⟩)], oE, fun x => ((), (du (U_ v_)) x, (x.2.2.2.2.2.2.2.2.2.2.1, ()), (du (dp (U_ u_))) x.2.2.2.2.2.2.2.2.2.2.2, ()), fun (x : EQ) => (ig (J_ j_)) x.2.1 ((x.2.2.1.1, ((du (dp (U_ k_))) x.2.2.2.1))), oE, fun y => ((), (du (U_ v_)) y, (y.2.2.2.2.2.2.2.2.2.2.1, ()), (du (dp (U_ u_))) y.2.2.2.2.2.2.2.2.2.2.2, ()), fun (o : EQ) => (ig (J_ j_)) o.2.1 ((o.2.2.1.1, ((du (dp (U_ k_))) o.2.2.2.1))), wi n⟩
def xv (F : Ii → Option (ES)) (v82 v83 v84 : Int) (v85 : Bool) (v86 v87 v88 v89 : Int) (v90 : (List Int)) (v91 : cR) (v92 v93 : (List Int)) (v94 : Bool) (v95 : Int) (v96 v97 v98 v99 : (List Int)) (v100 : Int) (v101 : (List Int)) (v102 v103 v104 v105 v106 v107 v108 v109 v110 v111 v112 v113 : Int) (v114 v115 : (List Int)) : Option (ES) := if (decide (v86 < (wrap .i64 (v82 + 400)))) then ((fi n v105 v106 v107 v108 v109 v110 v111 v112 v113 v114 v91 v92 v93 v94 v95 v96 v97 v98 v99 v100 v101 v102 v103 v104).bind fun y116 => (if (!y116.1) then ((s9 n v90 y116.2.1 y116.2.2.1 y116.2.2.2.1 y116.2.2.2.2.1 y116.2.2.2.2.2.1 y116.2.2.2.2.2.2.1 y116.2.2.2.2.2.2.2.1 y116.2.2.2.2.2.2.2.2.1 y116.2.2.2.2.2.2.2.2.2.1 y116.2.2.2.2.2.2.2.2.2.2.1 ([[0, 0, 0, 0, 0, 0, 0, 0], [0, 0, 0, 0, 0, 0, 0, 0], [0, 0, 0, 0, 0, 0, 0, 0], [0, 0, 0, 0, 0, 0, 0, 0], [0, 0, 0, 0, 0, 0, 0, 0], [0, 0, 0, 0, 0, 0, 0, 0], [0, 0, 0, 0, 0, 0, 0, 0], [0, 0, 0, 0, 0, 0, 0, 0]]) y116.2.2.2.2.2.2.2.2.2.2.2.1 y116.2.2.2.2.2.2.2.2.2.2.2.2.1 y116.2.2.2.2.2.2.2.2.2.2.2.2.2.1 y116.2.2.2.2.2.2.2.2.2.2.2.2.2.2.1 y116.2.2.2.2.2.2.2.2.2.2.2.2.2.2.2.1 y116.2.2.2.2.2.2.2.2.2.2.2.2.2.2.2.2.1 y116.2.2.2.2.2.2.2.2.2.2.2.2.2.2.2.2.2.1 y116.2.2.2.2.2.2.2.2.2.2.2.2.2.2.2.2.2.2.1 y116.2.2.2.2.2.2.2.2.2.2.2.2.2.2.2.2.2.2.2.1 y116.2.2.2.2.2.2.2.2.2.2.2.2.2.2.2.2.2.2.2.2.1 y116.2.2.2.2.2.2.2.2.2.2.2.2.2.2.2.2.2.2.2.2.2.1 y116.2.2.2.2.2.2.2.2.2.2.2.2.2.2.2.2.2.2.2.2.2.2.1 y116.2.2.2.2.2.2.2.2.2.2.2.2.2.2.2.2.2.2.2.2.2.2.2.1 y116.2.2.2.2.2.2.2.2.2.2.2.2.2.2.2.2.2.2.2.2.2.2.2.2).bind fun y117 => (if v85 then (if (y117.1.1 != 1) then ((eC n y117.2.2.2.2.2.2.2.2.2.2.2.2.2.1 y117.2.2.2.2.2.2.2.2.2.2.2.2.2.2.1 y117.2.2.2.2.2.2.2.2.2.2.2.2.2.2.2.1 y117.2.2.2.2.2.2.2.2.2.2.2.2.2.2.2.2.1 y117.2.2.2.2.2.2.2.2.2.2.2.2.2.2.2.2.2.1 y117.2.2.2.2.2.2.2.2.2.2.2.2.2.2.2.2.2.2.1 y117.2.2.2.2.2.2.2.2.2.2.2.2.2.2.2.2.2.2.2.1 y117.2.2.2.2.2.2.2.2.2.2.2.2.2.2.2.2.2.2.2.2.1 y117.2.2.2.2.2.2.2.2.2.2.2.2.2.2.2.2.2.2.2.2.2.1 y117.2.2.2.2.2.2.2.2.2.2.2.2.2.2.2.2.2.2.2.2.2.2.1 y117.2.2.2.2.2.2.2.2.2.2.2.2.2.2.2.2.2.2.2.2.2.2.2.1 y117.2.2.2.2.2.2.2.2.2.2.2.2.2.2.2.2.2.2.2.2.2.2.2.2.1 y117.2.2.2.2.2.2.2.2.2.2.2.2.2.2.2.2.2.2.2.2.2.2.2.2.2.1 y117.2.2.2.2.2.2.2.2.2.2.2.2.2.2.2.2.2.2.2.2.2.2.2.2.2.2).bind fun y118 => (if (!(Sh.eqT uR y118.1 v115)) then (some (.inl ((false, ()), ((v87, v88, v89, ()), (v90, ()), (y118.2.1, y118.2.2.1, y118.2.2.2.1, y118.2.2.2.2.1, y118.2.2.2.2.2.1, y118.2.2.2.2.2.2.1, y118.2.2.2.2.2.2.2.1, y118.2.2.2.2.2.2.2.2.1, y118.2.2.2.2.2.2.2.2.2.1, y118.2.2.2.2.2.2.2.2.2.2.1, y118.2.2.2.2.2.2.2.2.2.2.2.1, y118.2.2.2.2.2.2.2.2.2.2.2.2.1, y118.2.2.2.2.2.2.2.2.2.2.2.2.2.1, y118.2.2.2.2.2.2.2.2.2.2.2.2.2.2, ()), (y117.2.2.1, y117.2.2.2.1, y117.2.2.2.2.1, y117.2.2.2.2.2.1, y117.2.2.2.2.2.2.1, y117.2.2.2.2.2.2.2.1, y117.2.2.2.2.2.2.2.2.1, y117.2.2.2.2.2.2.2.2.2.1, y117.2.2.2.2.2.2.2.2.2.2.1, y117.2.2.2.2.2.2.2.2.2.2.2.1, ()), (v115, ()), ())))) else (F (v82, v83, v84, (y117.1.1 != 1), (wrap .i64 (v86 + 1)), v87, v88, v89, v90, y118.2.1, y118.2.2.1, y118.2.2.2.1, y118.2.2.2.2.1, y118.2.2.2.2.2.1, y118.2.2.2.2.2.2.1, y118.2.2.2.2.2.2.2.1, y118.2.2.2.2.2.2.2.2.1, y118.2.2.2.2.2.2.2.2.2.1, y118.2.2.2.2.2.2.2.2.2.2.1, y118.2.2.2.2.2.2.2.2.2.2.2.1, y118.2.2.2.2.2.2.2.2.2.2.2.2.1, y118.2.2.2.2.2.2.2.2.2.2.2.2.2.1, y118.2.2.2.2.2.2.2.2.2.2.2.2.2.2, y117.2.2.1, y117.2.2.2.1, y117.2.2.2.2.1, y117.2.2.2.2.2.1, y117.2.2.2.2.2.2.1, y117.2.2.2.2.2.2.2.1, y117.2.2.2.2.2.2.2.2.1, y117.2.2.2.2.2.2.2.2.2.1, y117.2.2.2.2.2.2.2.2.2.2.1, y117.2.2.2.2.2.2.2.2.2.2.2.1, v115)))) else (F (v82, v83, v84, (y117.1.1 != 1), (wrap .i64 (v86 + 1)), v87, v88, v89, v90, y117.2.2.2.2.2.2.2.2.2.2.2.2.2.1, y117.2.2.2.2.2.2.2.2.2.2.2.2.2.2.1, y117.2.2.2.2.2.2.2.2.2.2.2.2.2.2.2.1, y117.2.2.2.2.2.2.2.2.2.2.2.2.2.2.2.2.1, y117.2.2.2.2.2.2.2.2.2.2.2.2.2.2.2.2.2.1, y117.2.2.2.2.2.2.2.2.2.2.2.2.2.2.2.2.2.2.1, y117.2.2.2.2.2.2.2.2.2.2.2.2.2.2.2.2.2.2.2.1, y117.2.2.2.2.2.2.2.2.2.2.2.2.2.2.2.2.2.2.2.2.1, y117.2.2.2.2.2.2.2.2.2.2.2.2.2.2.2.2.2.2.2.2.2.1, y117.2.2.2.2.2.2.2.2.2.2.2.2.2.2.2.2.2.2.2.2.2.2.1, y117.2.2.2.2.2.2.2.2.2.2.2.2.2.2.2.2.2.2.2.2.2.2.2.1, y117.2.2.2.2.2.2.2.2.2.2.2.2.2.2.2.2.2.2.2.2.2.2.2.2.1, y117.2.2.2.2.2.2.2.2.2.2.2.2.2.2.2.2.2.2.2.2.2.2.2.2.2.1, y117.2.2.2.2.2.2.2.2.2.2.2.2.2.2.2.2.2.2.2.2.2.2.2.2.2.2, y117.2.2.1, y117.2.2.2.1, y117.2.2.2.2.1, y117.2.2.2.2.2.1, y117.2.2.2.2.2.2.1, y117.2.2.2.2.2.2.2.1, y117.2.2.2.2.2.2.2.2.1, y117.2.2.2.2.2.2.2.2.2.1, y117.2.2.2.2.2.2.2.2.2.2.1, y117.2.2.2.2.2.2.2.2.2.2.2.1, v115))) else (F (v82, v83, v84, false, (wrap .i64 (v86 + 1)), v87, v88, v89, v90, y117.2.2.2.2.2.2.2.2.2.2.2.2.2.1, y117.2.2.2.2.2.2.2.2.2.2.2.2.2.2.1, y117.2.2.2.2.2.2.2.2.2.2.2.2.2.2.2.1, y117.2.2.2.2.2.2.2.2.2.2.2.2.2.2.2.2.1, y117.2.2.2.2.2.2.2.2.2.2.2.2.2.2.2.2.2.1, y117.2.2.2.2.2.2.2.2.2.2.2.2.2.2.2.2.2.2.1, y117.2.2.2.2.2.2.2.2.2.2.2.2.2.2.2.2.2.2.2.1, y117.2.2.2.2.2.2.2.2.2.2.2.2.2.2.2.2.2.2.2.2.1, y117.2.2.2.2.2.2.2.2.2.2.2.2.2.2.2.2.2.2.2.2.2.1, y117.2.2.2.2.2.2.2.2.2.2.2.2.2.2.2.2.2.2.2.2.2.2.1, y117.2.2.2.2.2.2.2.2.2.2.2.2.2.2.2.2.2.2.2.2.2.2.2.1, y117.2.2.2.2.2.2.2.2.2.2.2.2.2.2.2.2.2.2.2.2.2.2.2.2.1, y117.2.2.2.2.2.2.2.2.2.2.2.2.2.2.2.2.2.2.2.2.2.2.2.2.2.1, y117.2.2.2.2.2.2.2.2.2.2.2.2.2.2.2.2.2.2.2.2.2.2.2.2.2.2, y117.2.2.1, y117.2.2.2.1, y117.2.2.2.2.1, y117.2.2.2.2.2.1, y117.2.2.2.2.2.2.1, y117.2.2.2.2.2.2.2.1, y117.2.2.2.2.2.2.2.2.1, y117.2.2.2.2.2.2.2.2.2.1, y117.2.2.2.2.2.2.2.2.2.2.1, y117.2.2.2.2.2.2.2.2.2.2.2.1, v115)))) else (some (.inr ((v82, v83, v84, ()), ((v87, v88, v89, ()), (v90, ()), (y116.2.2.2.2.2.2.2.2.2.2.2.1, y116.2.2.2.2.2.2.2.2.2.2.2.2.1, y116.2.2.2.2.2.2.2.2.2.2.2.2.2.1, y116.2.2.2.2.2.2.2.2.2.2.2.2.2.2.1, y116.2.2.2.2.2.2.2.2.2.2.2.2.2.2.2.1, y116.2.2.2.2.2.2.2.2.2.2.2.2.2.2.2.2.1, y116.2.2.2.2.2.2.2.2.2.2.2.2.2.2.2.2.2.1, y116.2.2.2.2.2.2.2.2.2.2.2.2.2.2.2.2.2.2.1, y116.2.2.2.2.2.2.2.2.2.2.2.2.2.2.2.2.2.2.2.1, y116.2.2.2.2.2.2.2.2.2.2.2.2.2.2.2.2.2.2.2.2.1, y116.2.2.2.2.2.2.2.2.2.2.2.2.2.2.2.2.2.2.2.2.2.1, y116.2.2.2.2.2.2.2.2.2.2.2.2.2.2.2.2.2.2.2.2.2.2.1, y116.2.2.2.2.2.2.2.2.2.2.2.2.2.2.2.2.2.2.2.2.2.2.2.1, y116.2.2.2.2.2.2.2.2.2.2.2.2.2.2.2.2.2.2.2.2.2.2.2.2, ()), (y116.2.1, y116.2.2.1, y116.2.2.2.1, y116.2.2.2.2.1, y116.2.2.2.2.2.1, y116.2.2.2.2.2.2.1, y116.2.2.2.2.2.2.2.1, y116.2.2.2.2.2.2.2.2.1, y116.2.2.2.2.2.2.2.2.2.1, y116.2.2.2.2.2.2.2.2.2.2.1, ()), (v115, ()), ())))))) else (some (.inr ((v82, v83, v84, ()), ((v87, v88, v89, ()), (v90, ()), (v91, v92, v93, v94, v95, v96, v97, v98, v99, v100, v101, v102, v103, v104, ()), (v105, v106, v107, v108, v109, v110, v111, v112, v113, v114, ()), (v115, ()), ()))))
def qT : Ii → Option (ES) := it (fun F => (kS (kS q_)) (xv n F)) n
def B6 : Loop := ⟨⟨cX 126 0 [(4, .obj 0), (5, .obj 1), (7, .obj 2), (9, .val cQ), (11, .val cQ), (12, .val cQ), (13, .obj 3), (15, .obj 4), (16, .val .bool), (17, .val cQ)], [fa, [.val jt], ef, rn, [.val uR]]⟩, [(.ret, ⟨cX 126 0 [(6, .val .bool)], [fa, [.val jt], ef, rn, [.val uR]]⟩), (.exit 2, ⟨cX 126 0 [(4, .obj 0), (5, .obj 1), (7, .obj 2), (9, .val cQ), (11, .val cQ), (12, .val cQ), (13, .obj 3)], [fa, [.val jt], ef, rn, [.val uR]]⟩)], Ii, fun x => ((dp v_) x, (dA v_) x.2.2.2.2.2, (x.2.2.2.2.2.2.2.2.1, ()), (du (dp (U_ v_))) x.2.2.2.2.2.2.2.2.2, (du (U_ v_)) x.2.2.2.2.2.2.2.2.2.2.2.2.2.2.2.2.2.2.2.2.2.2.2, (x.2.2.2.2.2.2.2.2.2.2.2.2.2.2.2.2.2.2.2.2.2.2.2.2.2.2.2.2.2.2.2.2.2, ()), ()), fun (x : ((Int × Int × Int × Bool × Int × Unit) × Bt)) => (nU j_) x.1 ((mS j_) x.2.1 ((x.2.2.1.1, ((ig (nU (J_ j_))) x.2.2.2.1 ((ig (J_ j_)) x.2.2.2.2.1 x.2.2.2.2.2.1.1))))), ES, fun y => y, fun y => y, qT n⟩
def pW (F : Ik → Option (ER)) (v98 v99 v100 v101 v102 v103 : Int) (v104 : (List Int)) (v105 : cR) (v106 v107 : (List Int)) (v108 : Bool) (v109 : Int) (v110 v111 v112 v113 : (List Int)) (v114 : Int) (v115 : (List Int)) (v116 v117 v118 : Int) : Option (ER) := if (decide (v100 < 2)) then (if (!(decide ((v105.length : Int) > 0))) then (if (v100 == 0) then (some (.inl ((false, ()), ((v101, v102, v103, ()), (v104, ()), (v105, v106, v107, v108, v109, v110, v111, v112, v113, v114, v115, v116, v117, v118, ()), ())))) else (some (.inl ((false, ()), ((v101, v102, v103, ()), (v104, ()), (v105, v106, v107, v108, v109, v110, v111, v112, v113, v114, v115, v116, v117, v118, ()), ()))))) else (if (decide (0 = 0) && decide (0 = 0) && decide (v110.length * 8 ≤ 140737488355328) && decide (1 ≤ 8)) then (if (decide (0 = 0) && decide (0 = 0) && decide (v115.length * 8 ≤ 140737488355328) && decide (1 ≤ 8)) then ((fJ n v105 v106 v107 v108 v109 v110 v111 v112 v113 v114 v115 v116 v117 v118).bind fun y119 => (if y119.1 then (if (v100 == 0) then (some (.inl ((false, ()), ((v101, v102, v103, ()), (v104, ()), (y119.2.1, y119.2.2.1, y119.2.2.2.1, y119.2.2.2.2.1, y119.2.2.2.2.2.1, y119.2.2.2.2.2.2.1, y119.2.2.2.2.2.2.2.1, y119.2.2.2.2.2.2.2.2.1, y119.2.2.2.2.2.2.2.2.2.1, y119.2.2.2.2.2.2.2.2.2.2.1, y119.2.2.2.2.2.2.2.2.2.2.2.1, y119.2.2.2.2.2.2.2.2.2.2.2.2.1, y119.2.2.2.2.2.2.2.2.2.2.2.2.2.1, y119.2.2.2.2.2.2.2.2.2.2.2.2.2.2, ()), ())))) else (some (.inl ((false, ()), ((v101, v102, v103, ()), (v104, ()), (y119.2.1, y119.2.2.1, y119.2.2.2.1, y119.2.2.2.2.1, y119.2.2.2.2.2.1, y119.2.2.2.2.2.2.1, y119.2.2.2.2.2.2.2.1, y119.2.2.2.2.2.2.2.2.1, y119.2.2.2.2.2.2.2.2.2.1, y119.2.2.2.2.2.2.2.2.2.2.1, y119.2.2.2.2.2.2.2.2.2.2.2.1, y119.2.2.2.2.2.2.2.2.2.2.2.2.1, y119.2.2.2.2.2.2.2.2.2.2.2.2.2.1, y119.2.2.2.2.2.2.2.2.2.2.2.2.2.2, ()), ()))))) else ((gg n (v101, (v102, v103))).bind fun y120 => (if (!y120) then (if (v100 == 0) then ((gX n ).bind fun y121 => (some (.inl ((y121, ()), ((v101, v102, v103, ()), (v104, ()), (y119.2.1, y119.2.2.1, y119.2.2.2.1, y119.2.2.2.2.1, y119.2.2.2.2.2.1, y119.2.2.2.2.2.2.1, y119.2.2.2.2.2.2.2.1, y119.2.2.2.2.2.2.2.2.1, y119.2.2.2.2.2.2.2.2.2.1, y119.2.2.2.2.2.2.2.2.2.2.1, y119.2.2.2.2.2.2.2.2.2.2.2.1, y119.2.2.2.2.2.2.2.2.2.2.2.2.1, y119.2.2.2.2.2.2.2.2.2.2.2.2.2.1, y119.2.2.2.2.2.2.2.2.2.2.2.2.2.2, ()), ()))))) else (some (.inl ((false, ()), ((v101, v102, v103, ()), (v104, ()), (y119.2.1, y119.2.2.1, y119.2.2.2.1, y119.2.2.2.2.1, y119.2.2.2.2.2.1, y119.2.2.2.2.2.2.1, y119.2.2.2.2.2.2.2.1, y119.2.2.2.2.2.2.2.2.1, y119.2.2.2.2.2.2.2.2.2.1, y119.2.2.2.2.2.2.2.2.2.2.1, y119.2.2.2.2.2.2.2.2.2.2.2.1, y119.2.2.2.2.2.2.2.2.2.2.2.2.1, y119.2.2.2.2.2.2.2.2.2.2.2.2.2.1, y119.2.2.2.2.2.2.2.2.2.2.2.2.2.2, ()), ()))))) else ((wi n (0, 1, 0, v101, v102, v103, 0, v101, 0, [0, 0, 0, 0, 0, 0, 0, 0, 0, 0, 0, 0, 0, 0, 0, 0], [v101, v102, 1, v103, v101, 1], y119.2.1, y119.2.2.1, y119.2.2.2.1, y119.2.2.2.2.1, y119.2.2.2.2.2.1, y119.2.2.2.2.2.2.1, y119.2.2.2.2.2.2.2.1, y119.2.2.2.2.2.2.2.2.1, y119.2.2.2.2.2.2.2.2.2.1, y119.2.2.2.2.2.2.2.2.2.2.1, y119.2.2.2.2.2.2.2.2.2.2.2.1, y119.2.2.2.2.2.2.2.2.2.2.2.2.1, y119.2.2.2.2.2.2.2.2.2.2.2.2.2.1, y119.2.2.2.2.2.2.2.2.2.2.2.2.2.2)).bind fun y122 => ((eC n y122.2.2.2.2.2.2.2.2.2.2.2.1 y122.2.2.2.2.2.2.2.2.2.2.2.2.1 y122.2.2.2.2.2.2.2.2.2.2.2.2.2.1 y122.2.2.2.2.2.2.2.2.2.2.2.2.2.2.1 y122.2.2.2.2.2.2.2.2.2.2.2.2.2.2.2.1 y122.2.2.2.2.2.2.2.2.2.2.2.2.2.2.2.2.1 y122.2.2.2.2.2.2.2.2.2.2.2.2.2.2.2.2.2.1 y122.2.2.2.2.2.2.2.2.2.2.2.2.2.2.2.2.2.2.1 y122.2.2.2.2.2.2.2.2.2.2.2.2.2.2.2.2.2.2.2.1 y122.2.2.2.2.2.2.2.2.2.2.2.2.2.2.2.2.2.2.2.2.1 y122.2.2.2.2.2.2.2.2.2.2.2.2.2.2.2.2.2.2.2.2.2.1 y122.2.2.2.2.2.2.2.2.2.2.2.2.2.2.2.2.2.2.2.2.2.2.1 y122.2.2.2.2.2.2.2.2.2.2.2.2.2.2.2.2.2.2.2.2.2.2.2.1 y122.2.2.2.2.2.2.2.2.2.2.2.2.2.2.2.2.2.2.2.2.2.2.2.2).bind fun y123 => ((qT n (v98, v99, v100, true, 0, v101, v102, v103, v104, y123.2.1, y123.2.2.1, y123.2.2.2.1, y123.2.2.2.2.1, y123.2.2.2.2.2.1, y123.2.2.2.2.2.2.1, y123.2.2.2.2.2.2.2.1, y123.2.2.2.2.2.2.2.2.1, y123.2.2.2.2.2.2.2.2.2.1, y123.2.2.2.2.2.2.2.2.2.2.1, y123.2.2.2.2.2.2.2.2.2.2.2.1, y123.2.2.2.2.2.2.2.2.2.2.2.2.1, y123.2.2.2.2.2.2.2.2.2.2.2.2.2.1, y123.2.2.2.2.2.2.2.2.2.2.2.2.2.2, y122.1, y122.2.1, y122.2.2.1, y122.2.2.2.1, y122.2.2.2.2.1, y122.2.2.2.2.2.1, y122.2.2.2.2.2.2.1, y122.2.2.2.2.2.2.2.1, y122.2.2.2.2.2.2.2.2.1, y122.2.2.2.2.2.2.2.2.2.1, y123.1)).bind fun y124 => ((Sum.elim (fun (z125 : (iA × Bt)) => (some (.inl ((z125.1.1, ()), ((z125.2.1.1, z125.2.1.2.1, z125.2.1.2.2.1, ()), (z125.2.2.1.1, ()), (z125.2.2.2.1.1, z125.2.2.2.1.2.1, z125.2.2.2.1.2.2.1, z125.2.2.2.1.2.2.2.1, z125.2.2.2.1.2.2.2.2.1, z125.2.2.2.1.2.2.2.2.2.1, z125.2.2.2.1.2.2.2.2.2.2.1, z125.2.2.2.1.2.2.2.2.2.2.2.1, z125.2.2.2.1.2.2.2.2.2.2.2.2.1, z125.2.2.2.1.2.2.2.2.2.2.2.2.2.1, z125.2.2.2.1.2.2.2.2.2.2.2.2.2.2.1, z125.2.2.2.1.2.2.2.2.2.2.2.2.2.2.2.1, z125.2.2.2.1.2.2.2.2.2.2.2.2.2.2.2.2.1, z125.2.2.2.1.2.2.2.2.2.2.2.2.2.2.2.2.2.1, ()), ()))))) (fun (z126 : (oF × Bt)) => ((fi n z126.2.2.2.2.1.1 z126.2.2.2.2.1.2.1 z126.2.2.2.2.1.2.2.1 z126.2.2.2.2.1.2.2.2.1 z126.2.2.2.2.1.2.2.2.2.1 z126.2.2.2.2.1.2.2.2.2.2.1 z126.2.2.2.2.1.2.2.2.2.2.2.1 z126.2.2.2.2.1.2.2.2.2.2.2.2.1 z126.2.2.2.2.1.2.2.2.2.2.2.2.2.1 z126.2.2.2.2.1.2.2.2.2.2.2.2.2.2.1 z126.2.2.2.1.1 z126.2.2.2.1.2.1 z126.2.2.2.1.2.2.1 z126.2.2.2.1.2.2.2.1 z126.2.2.2.1.2.2.2.2.1 z126.2.2.2.1.2.2.2.2.2.1 z126.2.2.2.1.2.2.2.2.2.2.1 z126.2.2.2.1.2.2.2.2.2.2.2.1 z126.2.2.2.1.2.2.2.2.2.2.2.2.1 z126.2.2.2.1.2.2.2.2.2.2.2.2.2.1 z126.2.2.2.1.2.2.2.2.2.2.2.2.2.2.1 z126.2.2.2.1.2.2.2.2.2.2.2.2.2.2.2.1 z126.2.2.2.1.2.2.2.2.2.2.2.2.2.2.2.2.1 z126.2.2.2.1.2.2.2.2.2.2.2.2.2.2.2.2.2.1).bind fun y127 => (if (!y127.1) then (some (.inl ((false, ()), ((z126.2.1.1, z126.2.1.2.1, z126.2.1.2.2.1, ()), (z126.2.2.1.1, ()), (y127.2.2.2.2.2.2.2.2.2.2.2.1, y127.2.2.2.2.2.2.2.2.2.2.2.2.1, y127.2.2.2.2.2.2.2.2.2.2.2.2.2.1, y127.2.2.2.2.2.2.2.2.2.2.2.2.2.2.1, y127.2.2.2.2.2.2.2.2.2.2.2.2.2.2.2.1, y127.2.2.2.2.2.2.2.2.2.2.2.2.2.2.2.2.1, y127.2.2.2.2.2.2.2.2.2.2.2.2.2.2.2.2.2.1, y127.2.2.2.2.2.2.2.2.2.2.2.2.2.2.2.2.2.2.1, y127.2.2.2.2.2.2.2.2.2.2.2.2.2.2.2.2.2.2.2.1, y127.2.2.2.2.2.2.2.2.2.2.2.2.2.2.2.2.2.2.2.2.1, y127.2.2.2.2.2.2.2.2.2.2.2.2.2.2.2.2.2.2.2.2.2.1, y127.2.2.2.2.2.2.2.2.2.2.2.2.2.2.2.2.2.2.2.2.2.2.1, y127.2.2.2.2.2.2.2.2.2.2.2.2.2.2.2.2.2.2.2.2.2.2.2.1, y127.2.2.2.2.2.2.2.2.2.2.2.2.2.2.2.2.2.2.2.2.2.2.2.2, ()), ())))) else (if (z126.1.2.2.1 == 1) then ((fX n y127.2.1 y127.2.2.1 y127.2.2.2.1 y127.2.2.2.2.1 y127.2.2.2.2.2.1 y127.2.2.2.2.2.2.1 y127.2.2.2.2.2.2.2.1 y127.2.2.2.2.2.2.2.2.1 y127.2.2.2.2.2.2.2.2.2.1 y127.2.2.2.2.2.2.2.2.2.2.1 y127.2.2.2.2.2.2.2.2.2.2.2.1 y127.2.2.2.2.2.2.2.2.2.2.2.2.1 y127.2.2.2.2.2.2.2.2.2.2.2.2.2.1 y127.2.2.2.2.2.2.2.2.2.2.2.2.2.2.1 y127.2.2.2.2.2.2.2.2.2.2.2.2.2.2.2.1 y127.2.2.2.2.2.2.2.2.2.2.2.2.2.2.2.2.1 y127.2.2.2.2.2.2.2.2.2.2.2.2.2.2.2.2.2.1 y127.2.2.2.2.2.2.2.2.2.2.2.2.2.2.2.2.2.2.1 y127.2.2.2.2.2.2.2.2.2.2.2.2.2.2.2.2.2.2.2.1 y127.2.2.2.2.2.2.2.2.2.2.2.2.2.2.2.2.2.2.2.2.1 y127.2.2.2.2.2.2.2.2.2.2.2.2.2.2.2.2.2.2.2.2.2.1 y127.2.2.2.2.2.2.2.2.2.2.2.2.2.2.2.2.2.2.2.2.2.2.1 y127.2.2.2.2.2.2.2.2.2.2.2.2.2.2.2.2.2.2.2.2.2.2.2.1 y127.2.2.2.2.2.2.2.2.2.2.2.2.2.2.2.2.2.2.2.2.2.2.2.2).bind fun y128 => (if (y128.1 != z126.1.2.1) then (some (.inl ((false, ()), ((z126.2.1.1, z126.2.1.2.1, z126.2.1.2.2.1, ()), (z126.2.2.1.1, ()), (y128.2.2.2.2.2.2.2.2.2.2.2.1, y128.2.2.2.2.2.2.2.2.2.2.2.2.1, y128.2.2.2.2.2.2.2.2.2.2.2.2.2.1, y128.2.2.2.2.2.2.2.2.2.2.2.2.2.2.1, y128.2.2.2.2.2.2.2.2.2.2.2.2.2.2.2.1, y128.2.2.2.2.2.2.2.2.2.2.2.2.2.2.2.2.1, y128.2.2.2.2.2.2.2.2.2.2.2.2.2.2.2.2.2.1, y128.2.2.2.2.2.2.2.2.2.2.2.2.2.2.2.2.2.2.1, y128.2.2.2.2.2.2.2.2.2.2.2.2.2.2.2.2.2.2.2.1, y128.2.2.2.2.2.2.2.2.2.2.2.2.2.2.2.2.2.2.2.2.1, y128.2.2.2.2.2.2.2.2.2.2.2.2.2.2.2.2.2.2.2.2.2.1, y128.2.2.2.2.2.2.2.2.2.2.2.2.2.2.2.2.2.2.2.2.2.2.1, y128.2.2.2.2.2.2.2.2.2.2.2.2.2.2.2.2.2.2.2.2.2.2.2.1, y128.2.2.2.2.2.2.2.2.2.2.2.2.2.2.2.2.2.2.2.2.2.2.2.2, ()), ())))) else ((fX n y128.2.1 y128.2.2.1 y128.2.2.2.1 y128.2.2.2.2.1 y128.2.2.2.2.2.1 y128.2.2.2.2.2.2.1 y128.2.2.2.2.2.2.2.1 y128.2.2.2.2.2.2.2.2.1 y128.2.2.2.2.2.2.2.2.2.1 y128.2.2.2.2.2.2.2.2.2.2.1 y128.2.2.2.2.2.2.2.2.2.2.2.1 y128.2.2.2.2.2.2.2.2.2.2.2.2.1 y128.2.2.2.2.2.2.2.2.2.2.2.2.2.1 y128.2.2.2.2.2.2.2.2.2.2.2.2.2.2.1 y128.2.2.2.2.2.2.2.2.2.2.2.2.2.2.2.1 y128.2.2.2.2.2.2.2.2.2.2.2.2.2.2.2.2.1 y128.2.2.2.2.2.2.2.2.2.2.2.2.2.2.2.2.2.1 y128.2.2.2.2.2.2.2.2.2.2.2.2.2.2.2.2.2.2.1 y128.2.2.2.2.2.2.2.2.2.2.2.2.2.2.2.2.2.2.2.1 y128.2.2.2.2.2.2.2.2.2.2.2.2.2.2.2.2.2.2.2.2.1 y128.2.2.2.2.2.2.2.2.2.2.2.2.2.2.2.2.2.2.2.2.2.1 y128.2.2.2.2.2.2.2.2.2.2.2.2.2.2.2.2.2.2.2.2.2.2.1 y128.2.2.2.2.2.2.2.2.2.2.2.2.2.2.2.2.2.2.2.2.2.2.2.1 y128.2.2.2.2.2.2.2.2.2.2.2.2.2.2.2.2.2.2.2.2.2.2.2.2).bind fun y129 => (F (z126.1.1, y129.1, (wrap .i64 (z126.1.2.2.1 + 1)), z126.2.1.1, z126.2.1.2.1, z126.2.1.2.2.1, z126.2.2.1.1, y129.2.2.2.2.2.2.2.2.2.2.2.1, y129.2.2.2.2.2.2.2.2.2.2.2.2.1, y129.2.2.2.2.2.2.2.2.2.2.2.2.2.1, y129.2.2.2.2.2.2.2.2.2.2.2.2.2.2.1, y129.2.2.2.2.2.2.2.2.2.2.2.2.2.2.2.1, y129.2.2.2.2.2.2.2.2.2.2.2.2.2.2.2.2.1, y129.2.2.2.2.2.2.2.2.2.2.2.2.2.2.2.2.2.1, y129.2.2.2.2.2.2.2.2.2.2.2.2.2.2.2.2.2.2.1, y129.2.2.2.2.2.2.2.2.2.2.2.2.2.2.2.2.2.2.2.1, y129.2.2.2.2.2.2.2.2.2.2.2.2.2.2.2.2.2.2.2.2.1, y129.2.2.2.2.2.2.2.2.2.2.2.2.2.2.2.2.2.2.2.2.2.1, y129.2.2.2.2.2.2.2.2.2.2.2.2.2.2.2.2.2.2.2.2.2.2.1, y129.2.2.2.2.2.2.2.2.2.2.2.2.2.2.2.2.2.2.2.2.2.2.2.1, y129.2.2.2.2.2.2.2.2.2.2.2.2.2.2.2.2.2.2.2.2.2.2.2.2))))) else ((fX n y127.2.1 y127.2.2.1 y127.2.2.2.1 y127.2.2.2.2.1 y127.2.2.2.2.2.1 y127.2.2.2.2.2.2.1 y127.2.2.2.2.2.2.2.1 y127.2.2.2.2.2.2.2.2.1 y127.2.2.2.2.2.2.2.2.2.1 y127.2.2.2.2.2.2.2.2.2.2.1 y127.2.2.2.2.2.2.2.2.2.2.2.1 y127.2.2.2.2.2.2.2.2.2.2.2.2.1 y127.2.2.2.2.2.2.2.2.2.2.2.2.2.1 y127.2.2.2.2.2.2.2.2.2.2.2.2.2.2.1 y127.2.2.2.2.2.2.2.2.2.2.2.2.2.2.2.1 y127.2.2.2.2.2.2.2.2.2.2.2.2.2.2.2.2.1 y127.2.2.2.2.2.2.2.2.2.2.2.2.2.2.2.2.2.1 y127.2.2.2.2.2.2.2.2.2.2.2.2.2.2.2.2.2.2.1 y127.2.2.2.2.2.2.2.2.2.2.2.2.2.2.2.2.2.2.2.1 y127.2.2.2.2.2.2.2.2.2.2.2.2.2.2.2.2.2.2.2.2.1 y127.2.2.2.2.2.2.2.2.2.2.2.2.2.2.2.2.2.2.2.2.2.1 y127.2.2.2.2.2.2.2.2.2.2.2.2.2.2.2.2.2.2.2.2.2.2.1 y127.2.2.2.2.2.2.2.2.2.2.2.2.2.2.2.2.2.2.2.2.2.2.2.1 y127.2.2.2.2.2.2.2.2.2.2.2.2.2.2.2.2.2.2.2.2.2.2.2.2).bind fun y130 => (F (z126.1.1, y130.1, (wrap .i64 (z126.1.2.2.1 + 1)), z126.2.1.1, z126.2.1.2.1, z126.2.1.2.2.1, z126.2.2.1.1, y130.2.2.2.2.2.2.2.2.2.2.2.1, y130.2.2.2.2.2.2.2.2.2.2.2.2.1, y130.2.2.2.2.2.2.2.2.2.2.2.2.2.1, y130.2.2.2.2.2.2.2.2.2.2.2.2.2.2.1, y130.2.2.2.2.2.2.2.2.2.2.2.2.2.2.2.1, y130.2.2.2.2.2.2.2.2.2.2.2.2.2.2.2.2.1, y130.2.2.2.2.2.2.2.2.2.2.2.2.2.2.2.2.2.1, y130.2.2.2.2.2.2.2.2.2.2.2.2.2.2.2.2.2.2.1, y130.2.2.2.2.2.2.2.2.2.2.2.2.2.2.2.2.2.2.2.1, y130.2.2.2.2.2.2.2.2.2.2.2.2.2.2.2.2.2.2.2.2.1, y130.2.2.2.2.2.2.2.2.2.2.2.2.2.2.2.2.2.2.2.2.2.1, y130.2.2.2.2.2.2.2.2.2.2.2.2.2.2.2.2.2.2.2.2.2.2.1, y130.2.2.2.2.2.2.2.2.2.2.2.2.2.2.2.2.2.2.2.2.2.2.2.1, y130.2.2.2.2.2.2.2.2.2.2.2.2.2.2.2.2.2.2.2.2.2.2.2.2)))))))) y124)))))))) else none) else none)) else (some (.inr ((), ((v101, v102, v103, ()), (v104, ()), (v105, v106, v107, v108, v109, v110, v111, v112, v113, v114, v115, v116, v117, v118, ()), ()))))
def qU : Ik → Option (ER) := it (fun F => (kS (dZ (C_ q_))) (pW n F)) n
def B7 : Loop := ⟨⟨cX 126 0 [(4, .obj 0), (5, .obj 1), (7, .obj 2), (9, .val cQ), (11, .val cQ), (12, .val cQ)], [fa, [.val jt], ef]⟩, [(.ret, ⟨cX 126 0 [(6, .val .bool)], [fa, [.val jt], ef]⟩), (.exit 0, ⟨cX 126 0 [], [fa, [.val jt], ef]⟩)], Ik, fun x => ((dA v_) x, (dA v_) x.2.2.2, (x.2.2.2.2.2.2.1, ()), (du (dp (U_ u_))) x.2.2.2.2.2.2.2, ()), fun (x : (oF × Bv)) => (mS j_) x.1 ((mS j_) x.2.1 ((x.2.2.1.1, ((du (dp (U_ k_))) x.2.2.2.1)))), ER, fun y => y, fun y => y, qU n⟩
def EZ (a0 : cR) (a1 : fB) (a2 : (List Int)) : Option Bool := if (decide ((a0.length : Int) > 200)) then ((gX n ).bind fun y1 => (some y1)) else ((iH n a0).bind fun y2 => (if (!y2) then ((gX n ).bind fun y3 => (some y3)) else ((px n a0).bind fun y4 => (if (y4.2 != 0) then ((gL n a0).bind fun y5 => (if (y4.2 != 0) then ((gX n ).bind fun y6 => (some y6)) else (if (y5.2 != 0) then ((gX n ).bind fun y7 => (some y7)) else (if (decide (y5.1 > 5000)) then ((gX n ).bind fun y8 => (some y8)) else (some false))))) else ((qJ n a0).bind fun y9 => (if (y9.2 != 0) then ((gL n a0).bind fun y10 => (if (y9.2 != 0) then ((gX n ).bind fun y11 => (some y11)) else (if (y10.2 != 0) then ((gX n ).bind fun y12 => (some y12)) else (if (decide (y10.1 > 5000)) then ((gX n ).bind fun y13 => (some y13)) else (some false))))) else ((gF n a0).bind fun y14 => (if (decide (0 = 0) && decide (0 = 0) && decide (a0.length * 24 ≤ 140737488355328) && decide (1 ≤ 24)) then ((gL n a0).bind fun y15 => (if (y15.2 != 0) then ((gX n ).bind fun y16 => (some y16)) else (if (decide (y15.1 > 5000)) then ((gX n ).bind fun y17 => (some y17)) else ((qU n (y15.1, 0, 0, a1.1, a1.2.1, a1.2.2, a2, a0, y14.1, [0, 0, 0, 0, 0, 0, 0, 0], false, 0, [], [0, 0, 0, 0, 0, 0, 0, 0], [0, 0, 0, 0, 0, 0, 0, 0, 0, 0, 0, 0, 0, 0, 0, 0], [0, 0, 0, 0, 0, 0, 0, 0, 0, 0, 0, 0, 0, 0, 0, 0], 0, [], 0, 0, 0)).bind fun y131 => ((Sum.elim (fun (z132 : (iA × Bv)) => (some z132.1.1)) (fun (z133 : (Unit × Bv)) => ((gX n ).bind fun y134 => (some y134)))) y131))))) else none))))))))
def B8 : FS := ⟨⟨[.val dI, .val f6, .val jt], []⟩, ⟨[.val .bool], []⟩, Bool, fun y => ((y, ()), ()), fun o => o.1.1, fun x => EZ n x.1.1 x.1.2.1 x.1.2.2.1⟩
theorem Jj : ∀ F x, dy (Ji n) 14 60 0 1 (B5 n) F x = (kS (eX (dZ (C_ q_)))) (Hj n F) x := fun F x => by kernel_rfl
def wj : Cx := Cx.addLoop (Ji n) 60 1 (B5 n)
theorem Jk : Good (wj n) := Good.loop (Oo n) 14 0 (by kernel_rfl) (Jj n) n (fun _ => rfl) (fun _ => rfl) (fun _ => rfl) rfl
theorem Jl : ∀ F x, dy (wj n) 14 5 0 17 (B6 n) F x = (kS (kS q_)) (xv n F) x := fun F x => by kernel_rfl
def wk : Cx := Cx.addLoop (wj n) 5 17 (B6 n)
theorem Jm : Good (wk n) := Good.loop (Jk n) 14 0 (by kernel_rfl) (Jl n) n (fun _ => rfl) (fun _ => rfl) (fun _ => rfl) rfl
theorem Jn : ∀ F x, dy (wk n) 14 5 0 9 (B7 n) F x = (kS (dZ (C_ q_))) (pW n F) x := fun F x => by kernel_rfl
def B9 : Cx := Cx.addLoop (wk n) 5 9 (B7 n)
theorem Jo : Good (B9 n) := Good.loop (Jm n) 14 0 (by kernel_rfl) (Jn n) n (fun _ => rfl) (fun _ => rfl) (fun _ => rfl) rfl
theorem NN : cY (B9 n) 14 5 0 (B8 n) := fun x => by kernel_rfl
theorem Kq1.ok : SpecS Tryz.prog 5 (B8 n) := ⟨fun hH hA hx hρ hk => xh (Jo n) (NN n) (fun _ => rfl) rfl hH hA hx hρ hk⟩
end Go.Proofs.Dk
namespace Go.Proofs.Dk
open Go Go.IntKind
set_option maxRecDepth 100000
theorem Oq (n : Nat) (A B : Int) : cS n (1, (A, B)) = (if decide (A ≥ (-9223372036854775808)) then (if decide (A ≤ 9223372036854775807) then some (B == 0) else some false) else some false) := by kernel_rfl
theorem Ot (n : Nat) (A B : Int) : cS n (2, (A, B)) = (if (A == 0) then some (B == 0) else some false) := by kernel_rfl
theorem Ou (n : Nat) (A B : Int) : cS n (3, (A, B)) = (if (A == 0) then some (B == 0) else some false) := by kernel_rfl
theorem Ov (n : Nat) (A B : Int) : cS n (4, (A, B)) = (if (A == 0) then some (B == 0) else some false) := by kernel_rfl
theorem Nf (n : Nat) (A B : Int) : cS n (5, (A, B)) = (if decide (A ≥ 1) then (if decide (A ≤ 12) then some (B == 0) else some false) else some false) := by kernel_rfl
theorem Ow (n : Nat) (A B : Int) : cS n (6, (A, B)) = (if (A == 0) then some (B == 0) else some false) := by kernel_rfl
theorem Ox (n : Nat) (A B : Int) : cS n (7, (A, B)) = (if (A == 0) then some (B == 0) else some false) := by kernel_rfl
theorem Oy (n : Nat) (A B : Int) : cS n (8, (A, B)) = (if (A == 0) then some (B == 0) else some false) := by kernel_rfl
theorem Oz (n : Nat) (A B : Int) : cS n (9, (A, B)) = (if (A == 0) then some (B == 0) else some false) := by kernel_rfl
theorem NO (n : Nat) (A B : Int) : cS n (10, (A, B)) = (if (A == 0) then some (B == 0) else some false) := by kernel_rfl
theorem JZ (n : Nat) (A B : Int) : cS n (11, (A, B)) = (if decide (A ≥ 0) then (if decide (A ≤ 7) then some (B == 0) else some false) else some false) := by kernel_rfl
theorem J0 (n : Nat) (A B : Int) : cS n (12, (A, B)) = (if decide (A ≥ 0) then (if decide (A ≤ 7) then some (B == 0) else some false) else some false) := by kernel_rfl
theorem J1 (n : Nat) (A B : Int) : cS n (13, (A, B)) = (if decide (A ≥ 0) then (if decide (A ≤ 7) then some (B == 0) else some false) else some false) := by kernel_rfl
theorem J2 (n : Nat) (A B : Int) : cS n (14, (A, B)) = (if decide (A ≥ 0) then (if decide (A ≤ 7) then some (B == 0) else some false) else some false) := by kernel_rfl
theorem J3 (n : Nat) (A B : Int) : cS n (15, (A, B)) = (if decide (A ≥ 0) then (if decide (A ≤ 15) then some (B == 0) else some false) else some false) := by kernel_rfl
theorem J4 (n : Nat) (A B : Int) : cS n (16, (A, B)) = (if decide (A ≥ 0) then (if decide (A ≤ 15) then some (B == 0) else some false) else some false) := by kernel_rfl
theorem E0 (n : Nat) (A B : Int) : cS n (17, (A, B)) = (if decide (A ≥ 0) then (if decide (A ≤ 7) then (if decide (B ≥ 0) then some (decide (B ≤ 7)) else some false) else some false) else some false) := by kernel_rfl
theorem E1 (n : Nat) (A B : Int) : cS n (18, (A, B)) = (if decide (A ≥ 0) then (if decide (A ≤ 7) then (if decide (B ≥ 0) then some (decide (B ≤ 7)) else some false) else some false) else some false) := by kernel_rfl
theorem E2 (n : Nat) (A B : Int) : cS n (19, (A, B)) = (if decide (A ≥ 0) then (if decide (A ≤ 199) then some (B == 0) else some false) else some false) := by kernel_rfl
theorem E3 (n : Nat) (A B : Int) : cS n (20, (A, B)) = (if decide (A ≥ 0) then (if decide (A ≤ 199) then some (B == 0) else some false) else some false) := by kernel_rfl
theorem J5 (n : Nat) (A B : Int) : cS n (21, (A, B)) = (if decide (A ≥ 1) then (if decide (A ≤ 1000) then some (B == 0) else some false) else some false) := by kernel_rfl
theorem NP (n : Nat) (A B : Int) : cS n (22, (A, B)) = (if (A == 0) then some (B == 0) else some false) := by kernel_rfl
theorem E4 (n : Nat) (A B : Int) : cS n (23, (A, B)) = (if decide (A ≥ 0) then (if decide (A ≤ 7) then some (B == 0) else some false) else some false) := by kernel_rfl
theorem J6 (n : Nat) (A B : Int) : cS n (24, (A, B)) = (if decide (A ≥ 0) then (if decide (A ≤ 7) then some (B == 0) else some false) else some false) := by kernel_rfl
theorem NQ (n : Nat) (A B : Int) : cS n (25, (A, B)) = (if (A == 0) then some (B == 0) else some false) := by kernel_rfl
theorem DL (n : Nat) (o A B : Int) (h : o < 1 ∨ o > 25) : cS n (o, (A, B)) = some false := by
 have : ui n o = some (ByteArray.empty, ((-1), (0, 0))) := by
  unfold ui
  rcases h with h | h
  ·simp [h]
  ·by_cases h1 : o < 1 <;> simp [h, h1]
 unfold cS
 simp [this]
theorem E5 (n : Nat) (x : Int × Int × Int) : ∃ b, cS n x = some b := by
 obtain ⟨o, A, B⟩ := x
 by_cases h : o < 1 ∨ o > 25
 ·exact ⟨_, DL n o A B h⟩
 have ho : o = 1 ∨ o = 2 ∨ o = 3 ∨ o = 4 ∨ o = 5 ∨ o = 6 ∨ o = 7 ∨ o = 8 ∨ o = 9 ∨ o = 10 ∨ o = 11 ∨ o = 12 ∨ o = 13 ∨ o = 14 ∨ o = 15 ∨ o = 16 ∨ o = 17 ∨ o = 18 ∨ o = 19 ∨ o = 20 ∨ o = 21 ∨ o = 22 ∨ o = 23 ∨ o = 24 ∨ o = 25 := by omega
 rcases ho with rfl | rfl | rfl | rfl | rfl | rfl | rfl | rfl | rfl | rfl | rfl | rfl | rfl | rfl | rfl | rfl | rfl | rfl | rfl | rfl | rfl | rfl | rfl | rfl | rfl
 ·rw [Oq]
  repeat' split
  all_goals exact ⟨_, rfl⟩
 ·rw [Ot]
  repeat' split
  all_goals exact ⟨_, rfl⟩
 ·rw [Ou]
  repeat' split
  all_goals exact ⟨_, rfl⟩
 ·rw [Ov]
  repeat' split
  all_goals exact ⟨_, rfl⟩
 ·rw [Nf]
  repeat' split
  all_goals exact ⟨_, rfl⟩
 ·rw [Ow]
  repeat' split
  all_goals exact ⟨_, rfl⟩
 ·rw [Ox]
  repeat' split
  all_goals exact ⟨_, rfl⟩
 ·rw [Oy]
  repeat' split
  all_goals exact ⟨_, rfl⟩
 ·rw [Oz]
  repeat' split
  all_goals exact ⟨_, rfl⟩
 ·rw [NO]
  repeat' split
  all_goals exact ⟨_, rfl⟩
 ·rw [JZ]
  repeat' split
  all_goals exact ⟨_, rfl⟩
 ·rw [J0]
  repeat' split
  all_goals exact ⟨_, rfl⟩
 ·rw [J1]
  repeat' split
  all_goals exact ⟨_, rfl⟩
 ·rw [J2]
  repeat' split
  all_goals exact ⟨_, rfl⟩
 ·rw [J3]
  repeat' split
  all_goals exact ⟨_, rfl⟩
 ·rw [J4]
  repeat' split
  all_goals exact ⟨_, rfl⟩
 ·rw [E0]
  repeat' split
  all_goals exact ⟨_, rfl⟩
 ·rw [E1]
  repeat' split
  all_goals exact ⟨_, rfl⟩
 ·rw [E2]
  repeat' split
  all_goals exact ⟨_, rfl⟩
 ·rw [E3]
  repeat' split
  all_goals exact ⟨_, rfl⟩
 ·rw [J5]
  repeat' split
  all_goals exact ⟨_, rfl⟩
 ·rw [NP]
  repeat' split
  all_goals exact ⟨_, rfl⟩
 ·rw [E4]
  repeat' split
  all_goals exact ⟨_, rfl⟩
 ·rw [J6]
  repeat' split
  all_goals exact ⟨_, rfl⟩
 ·rw [NQ]
  repeat' split
  all_goals exact ⟨_, rfl⟩
def cZ (x : Int × Int × Int) : Bool := (cS 0 x).getD false
theorem eq (n : Nat) (x : Int × Int × Int) : cS n x = some (cZ x) := by
 have e : cS n x = cS 0 x := rfl
 obtain ⟨b, hb⟩ := E5 0 x
 rw [e, cZ, hb]
 rfl
abbrev cP := Int × Int × Int
theorem dC {e : Int} (h1 : -9223372036854775808 ≤ e) (h2 : e ≤ 9223372036854775807) : wrap .i64 e = e := by
 rw [IntKind.wrap_i64]
 omega
theorem Ng {n : Int} (h : (Lit.int .i64 n).wf = true) : -9223372036854775808 ≤ n ∧ n ≤ 9223372036854775807 := by
 simp [Lit.wf, IntKind.bits, IntKind.signed, IntKind.min, IntKind.max] at h
 omega
def InR (l : List cP) : Prop := ∀ x ∈ l, -9223372036854775808 ≤ x.2.1 ∧ x.2.1 ≤ 9223372036854775807
theorem InR.of {l : List cP} (h : Sh.Ok (.sl (.pair (.int .i64) (.pair (.int .i64) (.int .i64)))) l) : InR l := fun x hx => Ng (h.2 x hx).2.1
theorem DM {l : List cP} {k : Nat} (h : k < l.length) : l.getD k (0, 0, 0) = l[k] := by
 rw [aA, aF h]
 rfl
def wl (l : List cP) : Bool := l.all cZ && (decide (0 < l.length) && decide (l.length ≤ 200))
theorem oL (n : Nat) (l : List cP) (hl : l.length < 9223372036854775807) : ∀ (m k : Nat), k ≤ l.length → l.length < m + k → it (fun F => (dZ q_) (ga n F)) m (l, l, (l.length : Int), (k : Int)) = some (if (l.drop k).all cZ = true then .inr ((l, ()), ()) else .inl ((false, ()), ()))
 | 0, k, hk, hm => by omega
 | m + 1, k, hk, hm => by
  have ih := oL n l hl m (k + 1)
  show ga n (it _ m) l l (l.length : Int) (k : Int) = _
  generalize it (fun F => (dZ q_) (ga n F)) m = F at ih ⊢
  unfold ga
  by_cases h : k < l.length
  ·have e1 : decide ((k : Int) < (l.length : Int)) = true := by simp [h]
   have e2 : decide (0 ≤ (k : Int)) = true := by simp
   rw [if_pos e1, if_pos (by rw [e1, e2]; rfl)]
   simp only [ai, DM h, eq, ae]
   rw [bU h, b7]
   cases hr : cZ (l[k].1, l[k].2.1, l[k].2.2)
   ·have hr' : cZ l[k] = false := hr
    simp [hr']
   ·have hr' : cZ l[k] = true := hr
    have hw : wrap .i64 ((k : Int) + 1) = ((k + 1 : Nat) : Int) := by rw [dC (by omega) (by omega)]; simp
    simp only [hr', cf, aE, av, aS, hw]
    exact ih (by omega) (by omega)
  ·have hk' : k = l.length := by omega
   have e1 : decide ((k : Int) < (l.length : Int)) = false := by simp [hk']
   rw [if_neg (by rw [e1]; simp)]
   simp [hk']
theorem Ay (n : Nat) (l : List cP) (hl : l.length < n) (hl2 : n < 9223372036854775807) : kU n l = some (wl l) := by
 unfold kU kT
 have h0 := oL n l (by omega) n 0 (aB _) (by omega)
 have h1 : ((0 : Nat) : Int) = 0 := rfl
 rw [h1] at h0
 rw [h0]
 unfold wl
 cases h : l.all cZ
 ·simp [h]
 ·by_cases h1 : 0 < l.length
  ·simp [h, h1]
   try omega
  ·simp [h, h1]
   try omega
def ends (x : cP) : cP := if x.1 = 21 then (22, 0, 0) else (24, x.2.1, 0)
def scanStep (x : cP) (i : Nat) (m h : List Int) (op : List (Int × cP)) : Option (List Int × List Int × List (Int × cP)) :=
 let m1 := m.set i (-1)
 let h1 := if 0 < op.length then (h.set i (-1)).set i (op.getD (op.length - 1) (0, 0, 0, 0)).1 else h.set i (-1)
 if x.1 = 21 ∨ x.1 = 23 then some (m1, h1, op ++ [((i : Int), ends x)])
 else if x.1 = 22 ∨ x.1 = 24 then
  if op.length = 0 then none
  else if (op.getD (op.length - 1) (0, 0, 0, 0)).2 = x then some ((m1.set i (op.getD (op.length - 1) (0, 0, 0, 0)).1).set (op.getD (op.length - 1) (0, 0, 0, 0)).1.toNat i, h1, op.take (op.length - 1)) else none
 else some (m1, h1, op)
def scanS (l : List cP) : Nat → Nat → List Int → List Int → List (Int × cP) → Option (List Int × List Int × List (Int × cP))
 | 0, _, m, h, op => some (m, h, op)
 | r + 1, i, m, h, op => match scanStep (l.getD i (0, 0, 0)) i m h op with
  | some (m, h, op) => scanS l r (i + 1) m h op
  | none => none
structure ScanI (l : List cP) (i : Nat) (m h : List Int) (op : List (Int × cP)) : Prop where
 hm : m.length = l.length
 hh : h.length = l.length
 hop : op.length ≤ i
 at_ : ∀ e ∈ op, ∃ k : Nat, k < i ∧ e.1 = (k : Int) ∧ k < l.length ∧ e.2 = ends (l.getD k (0, 0, 0)) ∧ ((l.getD k (0, 0, 0)).1 = 21 ∨ (l.getD k (0, 0, 0)).1 = 23)
theorem qV {α : Type} {l : List α} {d : α} (h : 0 < l.length) : l.getD (l.length - 1) d ∈ l := by
 rw [aA, aF (by omega)]
 exact List.getElem_mem _
theorem ScanI.step {l : List cP} {i : Nat} {m h m' h' : List Int} {op op' : List (Int × cP)} (hI : ScanI l i m h op) (hi : i < l.length) (hs : scanStep (l.getD i (0, 0, 0)) i m h op = some (m', h', op')) : ScanI l (i + 1) m' h' op' := by
 have up : ∀ e ∈ op, ∃ k : Nat, k < i + 1 ∧ e.1 = (k : Int) ∧ k < l.length ∧ e.2 = ends (l.getD k (0, 0, 0)) ∧ ((l.getD k (0, 0, 0)).1 = 21 ∨ (l.getD k (0, 0, 0)).1 = 23) := fun e he => by
  obtain ⟨k, h1, h2⟩ := hI.at_ e he
  exact ⟨k, by omega, h2⟩
 have hl1 : (if 0 < op.length then (h.set i (-1)).set i (op.getD (op.length - 1) (0, 0, 0, 0)).1 else h.set i (-1)).length = l.length := by
  split <;> simp [hI.hh]
 unfold scanStep at hs
 simp only at hs
 split at hs
 ·rename_i hx
  simp only [ab, af] at hs
  obtain ⟨rfl, rfl, rfl⟩ := hs
  refine ⟨by simp [hI.hm], hl1, by simp; have := hI.hop; omega, fun e he => ?_⟩
  rcases ax.1 he with he | he
  ·exact up e he
  ·simp only [ao] at he
   subst he
   exact ⟨i, by omega, rfl, hi, rfl, hx⟩
 ·split at hs
  ·split at hs
   ·cases hs
   ·split at hs
    ·simp only [ab, af] at hs
     obtain ⟨rfl, rfl, rfl⟩ := hs
     exact ⟨by simp [hI.hm], hl1, by simp; have := hI.hop; omega, fun e he => up e (List.mem_of_mem_take he)⟩
    ·cases hs
  ·simp only [ab, af] at hs
   obtain ⟨rfl, rfl, rfl⟩ := hs
   exact ⟨by simp [hI.hm], hl1, by have := hI.hop; omega, up⟩
theorem un {k : Nat} (h : 0 < k) (h2 : k < 1000000) : wrap .i64 ((k : Int) - 1) = ((k - 1 : Nat) : Int) := by
 rw [dC (by omega) (by omega)]
 omega
theorem d4 {k : Nat} (h2 : k < 1000000) : wrap .i64 ((k : Int) + 1) = ((k + 1 : Nat) : Int) := by
 rw [dC (by omega) (by omega)]
 simp
theorem cU {i k : Nat} (h : i < k) : (decide (0 ≤ (i : Int)) && decide ((i : Int) < (k : Int))) = true := by simp [h]
theorem Kq (n : Nat) {m h : List Int} {op : List (Int × cP)} {i : Nat} {l : List cP} {N a b c : Int} (hi : i < h.length) (ho : op.length < 1000000) :
  uj n m h op (i : Int) l N (i : Int) a b c = some (m, (if 0 < op.length then h.set i (op.getD (op.length - 1) (0, 0, 0, 0)).1 else h), op, (i : Int), l, N, (i : Int), a, b, c) := by
 unfold uj
 by_cases h0 : 0 < op.length
 ·have e0 : decide ((op.length : Int) > 0) = true := ah (by omega)
  rw [if_pos e0, un h0 ho, if_pos (cU (by omega)), if_pos (cU hi), if_pos h0]
  simp only [ai]
 ·have e0 : ¬ decide ((op.length : Int) > 0) = true := by simp only [am]; omega
  rw [if_neg e0, if_neg h0]
theorem Hk (n : Nat) (F : ((List Int) × (List Int) × (List (Int × (Int × (Int × Int)))) × (List (Int × (Int × Int))) × Int × Int) → Option (((((List Int) × (List Int) × Int × Unit) × Unit) ⊕ (((List Int) × (List Int) × (List (Int × (Int × (Int × Int)))) × Unit) × Unit)))) {l : List cP} {i : Nat} {m h : List Int} {op : List (Int × cP)} (hI : ScanI l i m h op) (hi : i < l.length) (hl : l.length < 1000000) :
  kj n F m h op l (l.length : Int) (i : Int) = match scanStep (l.getD i (0, 0, 0)) i m h op with
   | some (m', h', op') => F (m', h', op', l, (l.length : Int), ((i + 1 : Nat) : Int))
   | none => some (.inl (([], [], 7, ()), ())) := by
 have hop := hI.hop
 unfold kj
 have e1 : decide ((i : Int) < (l.length : Int)) = true := by simp [hi]
 rw [if_pos e1, if_pos (cU hi), if_pos (by rw [hI.hm]; exact cU hi), if_pos (by rw [hI.hh]; exact cU hi)]
 simp only [ai]
 rw [Kq n (by simp [hI.hh, hi]) (by omega), ae]
 generalize hx : l.getD i (0, 0, 0) = x
 obtain ⟨o, A, B⟩ := x
 simp only
 unfold scanStep
 simp only
 generalize hh1 : (if 0 < op.length then (h.set i (-1)).set i (op.getD (op.length - 1) (0, 0, 0, 0)).1 else h.set i (-1)) = h1
 have hcap : (decide ((op.length + 1) * 32 ≤ 140737488355328) && decide (1 ≤ 32)) = true := by simp; omega
 by_cases h21 : o = 21
 ·subst h21
  simp only [gE]
  simp only [bV, if_true, ae, hcap, d4 (show i < 1000000 by omega), ends, true_or]
 by_cases h23 : o = 23
 ·subst h23
  have n1 : ((23 : Int) == 21) = false := rfl
  simp only [gE, n1, bV, if_true, ae, hcap, d4 (show i < 1000000 by omega), ends, or_true, aE, av, show ¬ ((23 : Int) = 21) by decide]
 have n1 : (o == 21) = false := by simpa using h21
 have n2 : (o == 23) = false := by simpa using h23
 have ho : ¬ (o = 21 ∨ o = 23) := fun h => h.elim h21 h23
 simp only [gE, n1, n2, aE, av, ae, if_neg ho]
 by_cases hc : o = 22 ∨ o = 24
 ·rw [if_pos hc]
  have hj : nB n (m.set i (-1)) h1 op (i : Int) l (l.length : Int) (i : Int) o A B = some (.inr ((m.set i (-1), h1, op, (i : Int), l, (l.length : Int), (i : Int), ()), ((o, A, B, ()), ()))) := by
   unfold nB
   rcases hc with rfl | rfl <;> simp
  rw [hj, ae, cg]
  simp only
  by_cases h0 : op.length = 0
  ·have e0 : ((op.length : Int) == 0) = true := by simp [h0]
   rw [if_pos e0, if_pos h0]
  ·have e0 : ¬ ((op.length : Int) == 0) = true := by simp only [ag]; omega
   have h1l : h1.length = l.length := by rw [← hh1]; split <;> simp [hI.hh]
   have h1g : h1.getD i 0 = (op.getD (op.length - 1) (0, 0, 0, 0)).1 := by
    rw [← hh1, if_pos (by omega), aA, List.getElem?_set_self (by simp [hI.hh, hi])]
    rfl
   rw [if_neg e0, if_neg h0, un (by omega) (by omega), if_pos (cU (by omega))]
   simp only [ai, h1g]
   have hmem : op.getD (op.length - 1) (0, 0, 0, 0) ∈ op := qV (by omega)
   obtain ⟨k, k1, k2, k3, k4, k5⟩ := hI.at_ _ hmem
   generalize op.getD (op.length - 1) (0, 0, 0, 0) = e at *
   obtain ⟨e1', o', A', B'⟩ := e
   simp only at k2 k4
   subst k2
   simp only
   by_cases heq : o' = o ∧ A' = A ∧ B' = B
   ·obtain ⟨rfl, rfl, rfl⟩ := heq
    have c1 : decide (0 ≤ (op.length - 1 : Nat)) = true := by simp
    simp only [bV, Bool.and_self, cf, aE, av, cU (show i < h1.length by omega), cU (show i < (m.set i (-1)).length by simp [hI.hm, hi]), if_true, bj, cU (show k < m.length by rw [hI.hm]; exact k3), ai]
    rw [if_pos (cU (by rw [hI.hm]; exact hi)), if_pos (by simp), bf, d4 (by omega)]
   ·have hne : (o' == o && (A' == A && B' == B)) = false := by
     rw [Bool.eq_false_iff]
     intro h
     simp only [ak, ag] at h
     exact heq h
    have hne2 : ¬ ((o', A', B') = (o, A, B)) := fun h => by
     simp only [af] at h
     exact heq h
    rw [hne, Bool.not_false, if_pos rfl, if_neg hne2]
 ·rw [if_neg hc]
  have hj : nB n (m.set i (-1)) h1 op (i : Int) l (l.length : Int) (i : Int) o A B = some (.inl ((m.set i (-1), h1, op, l, (l.length : Int), (i : Int), ()), ((o, A, B, ()), ()))) := by
   unfold nB
   have m1 : (o != 22) = true := by simp; exact fun h => hc (.inl h)
   have m2 : (o != 24) = true := by simp; exact fun h => hc (.inr h)
   rw [if_pos m1, if_pos m2]
  rw [hj, ae, Sum.elim_inl]
  simp only [d4 (show i < 1000000 by omega)]
theorem zK (n : Nat) {l : List cP} (hl : l.length < 1000000) : ∀ (f i : Nat) {m h : List Int} {op : List (Int × cP)}, ScanI l i m h op → i ≤ l.length → l.length < f + i →
  it (fun F => (eX q_) (kj n F)) f (m, h, op, l, (l.length : Int), (i : Int)) = match scanS l (l.length - i) i m h op with
   | some (m', h', op') => some (.inr ((m', h', op', ()), ()))
   | none => some (.inl (([], [], 7, ()), ()))
 | 0, i, m, h, op, hI, hi, hf => by omega
 | f + 1, i, m, h, op, hI, hi, hf => by
  have ih := fun {m h : List Int} {op : List (Int × cP)} => zK n hl f (i + 1) (m := m) (h := h) (op := op)
  show kj n (it _ f) m h op l (l.length : Int) (i : Int) = _
  generalize it (fun F => (eX q_) (kj n F)) f = F at ih ⊢
  rcases au i l.length with hlt | hge
  ·rw [Hk n F hI hlt hl, show l.length - i = (l.length - (i + 1)) + 1 by omega]
   simp only [scanS]
   cases hs : scanStep (l.getD i (0, 0, 0)) i m h op with
   | none => rfl
   | some p =>
    obtain ⟨m', h', op'⟩ := p
    exact ih (hI.step hlt hs) (by omega) (by omega)
  ·have : i = l.length := by omega
   subst this
   unfold kj
   have e1 : ¬ decide ((l.length : Int) < (l.length : Int)) = true := by simp
   rw [if_neg e1]
   simp [scanS]
def scanI (l : List cP) : List Int × List Int × Int := if wl l = true then match scanS l l.length 0 (List.replicate l.length 0) (List.replicate l.length 0) [] with
  | some (m, h, op) => if 0 < op.length then ([], [], 7) else (m, h, 0)
  | none => ([], [], 7)
 else ([], [], 1)
theorem ScanI.start (l : List cP) : ScanI l 0 (List.replicate l.length 0) (List.replicate l.length 0) [] := ⟨by simp, by simp, by simp, fun e he => by cases he⟩
theorem uo (n : Nat) (l : List cP) (hl : l.length < n) (hn : n < 1000000) : nW n l = some (scanI l) := by
 unfold nW
 rw [Ay n l hl (by omega), ae]
 unfold scanI
 cases hr : wl l
 ·simp
 ·have c : (decide (0 ≤ (l.length : Int)) && ((l.length : Int) == (l.length : Int)) && decide ((l.length : Int) * (8 : Int) ≤ 140737488355328) && decide (1 ≤ 8)) = true := by
   simp
   omega
  simp only [cf, aE, av, c, if_true, ai]
  have h0 := zK n (by omega) n 0 (ScanI.start l) (aB _) (by omega)
  unfold sG
  have z : ((0 : Nat) : Int) = 0 := rfl
  rw [z] at h0
  rw [h0, bf]
  cases scanS l l.length 0 (List.replicate l.length 0) (List.replicate l.length 0) [] with
  | none => rfl
  | some p =>
   obtain ⟨m, h, op⟩ := p
   simp only [ae, cg]
   by_cases ho : 0 < op.length
   ·have : decide ((op.length : Int) > 0) = true := ah (by omega)
    rw [if_pos this, if_pos ho]
   ·have : ¬ decide ((op.length : Int) > 0) = true := by simp only [am]; omega
    rw [if_neg this, if_neg ho]
def fM (Q : Nat → Bool) : Nat → Int
 | 0 => -1
 | k + 1 => if Q k then (k : Int) else fM Q k
theorem qW {Q Q' : Nat → Bool} : ∀ {n : Nat}, (∀ k, k < n → Q k = Q' k) → fM Q n = fM Q' n
 | 0, _ => rfl
 | n + 1, h => by
  simp only [fM]
  rw [h n (by omega), qW (fun k hk => h k (by omega))]
theorem zL {Q : Nat → Bool} : ∀ {n : Nat}, (∀ k, k < n → Q k = false) → fM Q n = -1
 | 0, _ => rfl
 | n + 1, h => by
  simp only [fM]
  rw [h n (by omega)]
  exact zL fun k hk => h k (by omega)
theorem DN {Q : Nat → Bool} {k : Nat} (hQ : Q k = true) : ∀ {n : Nat}, k < n → (∀ j, k < j → j < n → Q j = false) → fM Q n = (k : Int)
 | 0, h, _ => by omega
 | n + 1, h, hn => by
  simp only [fM]
  by_cases he : k = n
  ·subst he
   rw [hQ]
   rfl
  ·rw [hn n (by omega) (by omega)]
   exact DN hQ (by omega) fun j h1 h2 => hn j h1 (by omega)
theorem DO {Q : Nat → Bool} : ∀ {n : Nat}, fM Q n < (n : Int) ∧ -1 ≤ fM Q n
 | 0 => by simp [fM]
 | n + 1 => by
  simp only [fM]
  have := DO (Q := Q) (n := n)
  split <;> omega
def da (l : List cP) (k : Nat) : Bool := (l.getD k (0, 0, 0)).1 == 21 || (l.getD k (0, 0, 0)).1 == 23
def dU (op : List (Int × cP)) (k : Nat) : Bool := op.any fun e => e.1 == (k : Int)
structure ScanJ (l : List cP) (i : Nat) (m h : List Int) (op : List (Int × cP)) : Prop where
 inc : op.Pairwise fun a b => a.1 < b.1
 st : ∀ k, k < i → da l k = true → dU op k = true ∨ ∃ j : Nat, m.getD k 0 = (j : Int) ∧ k < j ∧ j < i
 hom : ∀ j, j < i → h.getD j 0 = fM (fun k => da l k && (dU op k || decide (m.getD k 0 ≥ (j : Int)))) j
 cross : ∀ k p j : Nat, k < p → p < j → k < i → da l k = true → da l p = true → dU op k = false → m.getD k 0 = (j : Int) → ∃ q : Nat, m.getD p 0 = (q : Int) ∧ q < j ∧ dU op p = false
 clos : ∀ k j : Nat, k < i → da l k = true → dU op k = false → m.getD k 0 = (j : Int) → da l j = false
theorem Kr {l : List cP} {i : Nat} {m h : List Int} {op : List (Int × cP)} (hI : ScanI l i m h op) {k : Nat} (hk : dU op k = true) : k < i ∧ da l k = true := by
 unfold dU at hk
 rw [List.any_eq_true] at hk
 obtain ⟨e, he, h1⟩ := hk
 obtain ⟨j, h2, h3, h4, h5, h6⟩ := hI.at_ e he
 simp only [ag] at h1
 have : j = k := by omega
 subst this
 exact ⟨h2, by unfold da; simpa using h6⟩
theorem dK {α : Type} {l : List α} {i j : Nat} {v d : α} (h : i < l.length) : (l.set i v).getD j d = if j = i then v else l.getD j d := by
 simp only [aA, bF]
 by_cases e : i = j
 ·subst e; simp [h]
 ·have : ¬ j = i := fun h => e h.symm
  simp [e, this]
theorem zM {op : List (Int × cP)} (hinc : op.Pairwise fun a b => a.1 < b.1) (h0 : 0 < op.length) {e : Int × cP} (he : e ∈ op) : e.1 ≤ (op.getD (op.length - 1) (0, 0, 0, 0)).1 := by
 obtain ⟨i, hi, rfl⟩ := cj he
 rw [aA, aF (by omega), cd]
 rcases au i (op.length - 1) with h | h
 ·exact Int.le_of_lt (List.pairwise_iff_getElem.1 hinc i (op.length - 1) hi (by omega) h)
 ·have : i = op.length - 1 := by omega
  subst this
  exact aN _
theorem Hl {l : List cP} {i : Nat} {m h : List Int} {op : List (Int × cP)} (hI : ScanI l i m h op) (hJ : ScanJ l i m h op) (hi : i < l.length) :
  (if 0 < op.length then (h.set i (-1)).set i (op.getD (op.length - 1) (0, 0, 0, 0)).1 else h.set i (-1)).getD i 0 = fM (fun k => da l k && (dU op k || decide (m.getD k 0 ≥ (i : Int)))) i := by
 have hh : i < h.length := by rw [hI.hh]; exact hi
 have no : ∀ k, k < i → dU op k = false → (da l k && (dU op k || decide (m.getD k 0 ≥ (i : Int)))) = false := by
  intro k hk hno
  cases ho : da l k
  ·rfl
  ·rcases hJ.st k hk ho with h1 | ⟨j, h1, h2, h3⟩
   ·rw [hno] at h1; cases h1
   ·rw [hno, h1]
    simp
    omega
 by_cases h0 : 0 < op.length
 ·rw [if_pos h0, dK (by simpa using hh), if_pos rfl]
  have hmem : op.getD (op.length - 1) (0, 0, 0, 0) ∈ op := qV h0
  obtain ⟨k, k1, k2, k3, k4, k5⟩ := hI.at_ _ hmem
  have hin : dU op k = true := by
   unfold dU
   rw [List.any_eq_true]
   exact ⟨_, hmem, by rw [k2]; simp⟩
  rw [k2]
  symm
  refine DN ?_ k1 fun j h1 h2 => no j h2 ?_
  ·rw [hin, (Kr hI hin).2]
   rfl
  ·unfold dU
   rw [List.any_eq_false]
   intro e he
   have := zM hJ.inc h0 he
   simp only [ag]
   omega
 ·rw [if_neg h0, dK hh, if_pos rfl]
  symm
  refine zL fun k hk => no k hk ?_
  have : op = [] := bh (by omega)
  subst this
  rfl
theorem Jp {h : List Int} {i j : Nat} {op : List (Int × cP)} (hi : i < h.length) (hj : j ≠ i) : (if 0 < op.length then (h.set i (-1)).set i (op.getD (op.length - 1) (0, 0, 0, 0)).1 else h.set i (-1)).getD j 0 = h.getD j 0 := by
 split
 ·rw [dK (by simpa using hi), if_neg hj, dK hi, if_neg hj]
 ·rw [dK hi, if_neg hj]
theorem lZ {op op' : List (Int × cP)} {k : Nat} : dU (op ++ op') k = (dU op k || dU op' k) := by simp [dU]
theorem tH {l : List cP} {i : Nat} {m h m' : List Int} {op op' : List (Int × cP)} (hI : ScanI l i m h op) (hJ : ScanJ l i m h op) (hi : i < l.length) (inc : op'.Pairwise fun a b => a.1 < b.1)
  (st : ∀ k, k < i + 1 → da l k = true → dU op' k = true ∨ ∃ j : Nat, m'.getD k 0 = (j : Int) ∧ k < j ∧ j < i + 1)
  (cross : ∀ k p j : Nat, k < p → p < j → k < i + 1 → da l k = true → da l p = true → dU op' k = false → m'.getD k 0 = (j : Int) → ∃ q : Nat, m'.getD p 0 = (q : Int) ∧ q < j ∧ dU op' p = false)
  (clos : ∀ k j : Nat, k < i + 1 → da l k = true → dU op' k = false → m'.getD k 0 = (j : Int) → da l j = false)
  (same : ∀ k j, k < j → j < i + 1 → da l k = true → (dU op k || decide (m.getD k 0 ≥ (j : Int))) = (dU op' k || decide (m'.getD k 0 ≥ (j : Int)))) :
  ScanJ l (i + 1) m' (if 0 < op.length then (h.set i (-1)).set i (op.getD (op.length - 1) (0, 0, 0, 0)).1 else h.set i (-1)) op' := by
 have q : ∀ j, j < i + 1 → fM (fun k => da l k && (dU op k || decide (m.getD k 0 ≥ (j : Int)))) j = fM (fun k => da l k && (dU op' k || decide (m'.getD k 0 ≥ (j : Int)))) j := fun j hj =>
  qW fun k hk => by
   cases ho : da l k
   ·rfl
   ·rw [same k j hk hj ho]
 refine ⟨inc, st, fun j hj => ?_, cross, clos⟩
 rw [← q j hj]
 by_cases hji : j = i
 ·subst hji
  exact Hl hI hJ hi
 ·rw [Jp (by rw [hI.hh]; exact hi) hji]
  exact hJ.hom j (by omega)
theorem ScanJ.step {l : List cP} {i : Nat} {m h m' h' : List Int} {op op' : List (Int × cP)} (hI : ScanI l i m h op) (hJ : ScanJ l i m h op) (hi : i < l.length) (hs : scanStep (l.getD i (0, 0, 0)) i m h op = some (m', h', op')) : ScanJ l (i + 1) m' h' op' := by
 have him : i < m.length := by rw [hI.hm]; exact hi
 have m1 : ∀ k, k ≠ i → (m.set i (-1)).getD k 0 = m.getD k 0 := fun k hk => by rw [dK him, if_neg hk]
 unfold scanStep at hs
 simp only at hs
 split at hs
 ·rename_i hx
  simp only [ab, af] at hs
  obtain ⟨rfl, rfl, rfl⟩ := hs
  have hin : ∀ k, dU (op ++ [((i : Int), ends (l.getD i (0, 0, 0)))]) k = (dU op k || decide (k = i)) := fun k => by
   rw [lZ]
   congr 1
   simp only [dU, List.any_cons, List.any_nil, bc]
   by_cases hki : k = i
   ·simp [hki]
   ·have : ¬ ((i : Int) = (k : Int)) := by omega
    simp [hki, this]
  refine tH hI hJ hi ?_ (fun k hk ho => ?_) (fun k p j h1 h2 h3 h4 h5 h6 h7 => ?_) (fun k j h1 h2 h3 h4 => ?_) (fun k j hk hj ho => ?_)
  ·rw [List.pairwise_append]
   refine ⟨hJ.inc, List.pairwise_singleton _ _, fun a ha b hb => ?_⟩
   simp only [ao] at hb
   subst hb
   obtain ⟨q, q1, q2, _⟩ := hI.at_ a ha
   simp only [q2]
   omega
  ·rw [hin]
   by_cases hki : k = i
   ·exact .inl (by simp [hki])
   ·rcases hJ.st k (by omega) ho with h1 | ⟨j, h1, h2, h3⟩
    ·exact .inl (by rw [h1]; rfl)
    ·exact .inr ⟨j, by rw [m1 k hki]; exact h1, h2, by omega⟩
  ·rw [hin, bx] at h6
   have hki : k ≠ i := by simpa using h6.2
   rw [m1 k hki] at h7
   rcases hJ.st k (by omega) h4 with g | ⟨j', g1, g2, g3⟩
   ·rw [h6.1] at g; cases g
   ·have hpi : p ≠ i := by omega
    obtain ⟨q, e1, e2, e3⟩ := hJ.cross k p j h1 h2 (by omega) h4 h5 h6.1 h7
    exact ⟨q, by rw [m1 p hpi]; exact e1, e2, by rw [hin, e3]; simp [hpi]⟩
  ·rw [hin, bx] at h3
   have hki : k ≠ i := by simpa using h3.2
   rw [m1 k hki] at h4
   exact hJ.clos k j (by omega) h2 h3.1 h4
  ·have hki : k ≠ i := by omega
   rw [hin, m1 k hki]
   simp [hki]
 ·rename_i hx
  have hno : da l i = false := by
   unfold da
   rw [Bool.eq_false_iff]
   intro h
   simp only [aC, ag] at h
   exact hx h
  split at hs
  ·split at hs
   ·cases hs
   ·rename_i h0
    split at hs
    ·simp only [ab, af] at hs
     obtain ⟨rfl, rfl, rfl⟩ := hs
     have hpos : 0 < op.length := by omega
     have hmem : op.getD (op.length - 1) (0, 0, 0, 0) ∈ op := qV hpos
     obtain ⟨q, q1, q2, q3, q4, q5⟩ := hI.at_ _ hmem
     have hsplit : op = op.take (op.length - 1) ++ [op.getD (op.length - 1) (0, 0, 0, 0)] := by
      have h1 := (bs (op.length - 1) op).symm
      have h2 : op.drop (op.length - 1) = [op.getD (op.length - 1) (0, 0, 0, 0)] := by
       rw [bU (by omega), aA, aF (by omega), cd]
       rw [b6 (by omega)]
      rw [h2] at h1
      exact h1
     have hin : ∀ k, dU op k = (dU (op.take (op.length - 1)) k || decide (k = q)) := fun k => by
      conv => lhs; rw [hsplit]
      rw [lZ]
      congr 1
      simp only [dU, List.any_cons, List.any_nil, bc, q2]
      by_cases hkq : k = q
      ·simp [hkq]
      ·have : ¬ ((q : Int) = (k : Int)) := by omega
       simp [hkq, this]
     rw [q2]
     have hget : ∀ k, k ≠ i → (((m.set i (-1)).set i (q : Int)).set (q : Int).toNat (i : Int)).getD k 0 = if k = q then (i : Int) else m.getD k 0 := fun k hk => by
      rw [ai, dK (by simp [hI.hm]; omega)]
      split
      ·rfl
      ·rw [dK (by simpa using him), if_neg hk, m1 k hk]
     have hmk := @tH l i m h (((m.set i (-1)).set i (q : Int)).set (q : Int).toNat (i : Int)) op (op.take (op.length - 1)) hI hJ hi (hJ.inc.sublist (List.take_sublist _ _)) (fun k hk ho => ?_) (fun k p j h1 h2 h3 h4 h5 h6 h7 => ?_) (fun k j h1 h2 h3 h4 => ?_) (fun k j hk hj ho => ?_)
     ·rw [q2] at hmk
      exact hmk
     ·have hki : k ≠ i := by rintro rfl; rw [hno] at ho; cases ho
      rw [hget k hki]
      by_cases hkq : k = q
      ·exact .inr ⟨i, by rw [if_pos hkq], by omega, by omega⟩
      ·rw [if_neg hkq]
       rcases hJ.st k (by omega) ho with h1 | ⟨j, h1, h2, h3⟩
       ·rw [hin] at h1
        simp only [hkq, decide_false, bc] at h1
        exact .inl h1
       ·exact .inr ⟨j, h1, h2, by omega⟩
     ·have hki : k ≠ i := by rintro rfl; rw [hno] at h4; cases h4
      have hpi : p ≠ i := by rintro rfl; rw [hno] at h5; cases h5
      rw [hget k hki] at h7
      by_cases hkq : k = q
      ·rw [if_pos hkq] at h7
       have hpq : p ≠ q := by omega
       have hno2 : dU op p = false := by
        unfold dU
        rw [List.any_eq_false]
        intro e he
        have := zM hJ.inc hpos he
        simp only [ag]
        omega
       rcases hJ.st p (by omega) h5 with g | ⟨j', g1, g2, g3⟩
       ·rw [hno2] at g; cases g
       ·refine ⟨j', by rw [hget p hpi, if_neg hpq]; exact g1, by omega, ?_⟩
        rw [hin, bx] at hno2
        exact hno2.1
      ·rw [if_neg hkq] at h7
       have h6' : dU op k = false := by rw [hin, h6]; simp [hkq]
       obtain ⟨r, e1, e2, e3⟩ := hJ.cross k p j h1 h2 (by omega) h4 h5 h6' h7
       rw [hin, bx] at e3
       have hpq : p ≠ q := by simpa using e3.2
       exact ⟨r, by rw [hget p hpi, if_neg hpq]; exact e1, e2, e3.1⟩
     ·have hki : k ≠ i := by rintro rfl; rw [hno] at h2; cases h2
      rw [hget k hki] at h4
      by_cases hkq : k = q
      ·rw [if_pos hkq] at h4
       have : i = j := by omega
       rw [← this]
       exact hno
      ·rw [if_neg hkq] at h4
       exact hJ.clos k j (by omega) h2 (by rw [hin, h3]; simp [hkq]) h4
     ·have hki : k ≠ i := by omega
      rw [hget k hki, hin]
      by_cases hkq : k = q
      ·rw [if_pos hkq]
       have : decide ((i : Int) ≥ (j : Int)) = true := ah (by omega)
       rw [ah hkq, this]
       simp
      ·rw [if_neg hkq]
       simp [hkq]
    ·cases hs
  ·simp only [ab, af] at hs
   obtain ⟨rfl, rfl, rfl⟩ := hs
   refine tH hI hJ hi hJ.inc (fun k hk ho => ?_) (fun k p j h1 h2 h3 h4 h5 h6 h7 => ?_) (fun k j h1 h2 h3 h4 => ?_) (fun k j hk hj ho => ?_)
   ·have hki : k ≠ i := by rintro rfl; rw [hno] at ho; cases ho
    rcases hJ.st k (by omega) ho with h1 | ⟨j, h1, h2, h3⟩
    ·exact .inl h1
    ·exact .inr ⟨j, by rw [m1 k hki]; exact h1, h2, by omega⟩
   ·have hki : k ≠ i := by rintro rfl; rw [hno] at h4; cases h4
    have hpi : p ≠ i := by rintro rfl; rw [hno] at h5; cases h5
    rw [m1 k hki] at h7
    obtain ⟨r, e1, e2, e3⟩ := hJ.cross k p j h1 h2 (by omega) h4 h5 h6 h7
    exact ⟨r, by rw [m1 p hpi]; exact e1, e2, e3⟩
   ·have hki : k ≠ i := by rintro rfl; rw [hno] at h2; cases h2
    rw [m1 k hki] at h4
    exact hJ.clos k j (by omega) h2 h3 h4
   ·rw [m1 k (by omega)]
theorem ScanJ.start (l : List cP) : ScanJ l 0 (List.replicate l.length 0) (List.replicate l.length 0) [] := ⟨List.Pairwise.nil, fun k hk => by omega, fun j hj => by omega, fun k p j _ _ h => by omega, fun k j h => by omega⟩
theorem zN {l : List cP} : ∀ (r i : Nat) {m h m' h' : List Int} {op op' : List (Int × cP)}, ScanI l i m h op → ScanJ l i m h op → r + i = l.length → scanS l r i m h op = some (m', h', op') → ScanI l l.length m' h' op' ∧ ScanJ l l.length m' h' op'
 | 0, i, m, h, m', h', op, op', hI, hJ, hr, hs => by
  simp only [scanS, ab, af] at hs
  obtain ⟨rfl, rfl, rfl⟩ := hs
  have : i = l.length := by omega
  subst this
  exact ⟨hI, hJ⟩
 | r + 1, i, m, h, m', h', op, op', hI, hJ, hr, hs => by
  simp only [scanS] at hs
  split at hs
  ·rename_i m1 h1 op1 hst
   exact zN r (i + 1) (hI.step (by omega) hst) (ScanJ.step hI hJ (by omega) hst) (by omega) hs
  ·cases hs
def gm (l : List cP) (m : List Int) (i : Nat) : Int := fM (fun k => da l k && decide (m.getD k 0 ≥ (i : Int))) i
structure Nest (l : List cP) (m h : List Int) : Prop where
 row : wl l = true
 hm : m.length = l.length
 hh : h.length = l.length
 home : ∀ j, j < l.length → h.getD j 0 = gm l m j
 open_ : ∀ k, k < l.length → da l k = true → ∃ j : Nat, m.getD k 0 = (j : Int) ∧ k < j ∧ j < l.length
 cross : ∀ k p j : Nat, k < p → p < j → k < l.length → da l k = true → da l p = true → m.getD k 0 = (j : Int) → ∃ q : Nat, m.getD p 0 = (q : Int) ∧ q < j
 clos : ∀ k j : Nat, k < l.length → da l k = true → m.getD k 0 = (j : Int) → da l j = false
theorem jb {l : List cP} (h : (scanI l).2.2 = 0) : Nest l (scanI l).1 (scanI l).2.1 := by
 unfold scanI at h ⊢
 split at h
 ·rename_i hr
  rw [if_pos hr]
  split at h
  ·rename_i m' h' op hs
   split at h
   ·cases h
   ·rename_i h0
    simp only [if_neg h0]
    obtain ⟨hI, hJ⟩ := zN l.length 0 (ScanI.start l) (ScanJ.start l) (by omega) hs
    have : op = [] := bh (by omega)
    subst this
    refine ⟨hr, hI.hm, hI.hh, fun j hj => ?_, fun k hk ho => ?_, fun k p j h1 h2 h3 h4 h5 h6 => ?_, fun k j h1 h2 h3 => hJ.clos k j h1 h2 rfl h3⟩
    ·rw [hJ.hom j hj]
     unfold gm
     exact qW fun k hk => by simp [dU]
    ·rcases hJ.st k hk ho with h1 | h1
     ·simp [dU] at h1
     ·exact h1
    ·obtain ⟨q, e1, e2, _⟩ := hJ.cross k p j h1 h2 h3 h4 h5 rfl h6
     exact ⟨q, e1, e2⟩
  ·cases h
 ·cases h
theorem iU {l : List cP} (h : wl l = true) : 0 < l.length ∧ l.length ≤ 200 ∧ ∀ i, i < l.length → cZ (l.getD i (0, 0, 0)) = true := by
 unfold wl at h
 simp only [ak, am] at h
 refine ⟨h.2.1, h.2.2, fun i hi => ?_⟩
 rw [DM hi]
 exact aO.1 h.1 _ (List.getElem_mem hi)
def el (Q : Nat → Bool) : Nat → Nat → Bool
 | 0, _ => true
 | r + 1, i => Q i && el Q r (i + 1)
theorem allF_iff {Q : Nat → Bool} : ∀ {r i : Nat}, el Q r i = true ↔ ∀ j, i ≤ j → j < i + r → Q j = true
 | 0, i => by simp only [el, true_iff]; intro j h1 h2; omega
 | r + 1, i => by
  simp only [el, ak, allF_iff (r := r)]
  constructor
  ·rintro ⟨h1, h2⟩ j h3 h4
   rcases au i j with h | h
   ·exact h2 j (by omega) (by omega)
   ·have : j = i := by omega
    subst this
    exact h1
  ·intro h
   exact ⟨h i (aj _) (by omega), fun j h1 h2 => h j (by omega) (by omega)⟩
def pe (l : List cP) (j : Nat) : Bool := !(((l.getD j (0, 0, 0)).1 == 25) != ((j : Int) == ((l.length - 1 : Nat) : Int)))
def db (l : List cP) (j : Nat) : Nat := j + 1 + (l.getD j (0, 0, 0)).2.1.toNat
def jQ (l : List cP) (h : List Int) (j : Nat) : Bool := if (l.getD j (0, 0, 0)).1 = 19 ∨ (l.getD j (0, 0, 0)).1 = 20 then decide (db l j < l.length) && (h.getD (db l j) 0 == h.getD j 0) else true
def d7 (l : List cP) : Int := if (scanI l).2.2 ≠ 0 then (scanI l).2.2 else if el (pe l) l.length 0 = true then (if el (jQ l (scanI l).2.1) l.length 0 = true then 0 else 8) else 7
theorem Ca (n : Nat) {l : List cP} {h : List Int} (hl : l.length < 1000000) (h0 : 0 < l.length) : ∀ (f i : Nat), i ≤ l.length → l.length < f + i →
  it (fun F => (eX q_) (nC n F)) f (l, h, ((l.length - 1 : Nat) : Int), l, (l.length : Int), (i : Int)) = some (if el (pe l) (l.length - i) i = true then .inr ((l, h, ((l.length - 1 : Nat) : Int), ()), ()) else .inl ((7, ()), ()))
 | 0, i, hi, hf => by omega
 | f + 1, i, hi, hf => by
  have ih := Ca n (h := h) hl h0 f (i + 1)
  show nC n (it _ f) l h ((l.length - 1 : Nat) : Int) l (l.length : Int) (i : Int) = _
  generalize it (fun F => (eX q_) (nC n F)) f = F at ih ⊢
  unfold nC
  rcases au i l.length with hlt | hge
  ·have e1 : decide ((i : Int) < (l.length : Int)) = true := ah (by omega)
   rw [if_pos e1, if_pos (cU hlt), ai, d4 (by omega), show l.length - i = (l.length - (i + 1)) + 1 by omega]
   rw [show el (pe l) (l.length - (i + 1) + 1) i = (!(((l.getD i (0, 0, 0)).1 == 25) != ((i : Int) == ((l.length - 1 : Nat) : Int))) && el (pe l) (l.length - (i + 1)) (i + 1)) from rfl]
   rcases aW (((l.getD i (0, 0, 0)).1 == 25) != ((i : Int) == ((l.length - 1 : Nat) : Int))) with hq | hq
   ·rw [hq]
    simp
   ·rw [hq]
    simp only [aE, av, Bool.not_false, aS]
    exact ih (by omega) (by omega)
  ·have : i = l.length := by omega
   subst this
   have e1 : ¬ decide ((l.length : Int) < (l.length : Int)) = true := by simp
   rw [if_neg e1]
   simp [el]
theorem n8 {o A B : Int} (ho : o = 19 ∨ o = 20) (h : cZ (o, A, B) = true) : 0 ≤ A ∧ A ≤ 199 := by
 have key : ∀ {x : Option Bool}, x = some true → x = (if decide (A ≥ 0) then (if decide (A ≤ 199) then some (B == 0) else some false) else some false) → 0 ≤ A ∧ A ≤ 199 := by
  intro x hx h1
  rw [hx] at h1
  by_cases h2 : 0 ≤ A
  ·by_cases h3 : A ≤ 199
   ·exact ⟨h2, h3⟩
   ·simp [h2, h3] at h1
  ·simp [h2] at h1
 rcases ho with rfl | rfl
 ·exact key ((eq 0 (19, A, B)).trans (by rw [h])) (E2 0 A B)
 ·exact key ((eq 0 (20, A, B)).trans (by rw [h])) (E3 0 A B)
theorem uq {l : List cP} {i : Nat} (hl : l.length < 1000000) (hi : i < l.length) (hr : cZ (l.getD i (0, 0, 0)) = true) (hj : (l.getD i (0, 0, 0)).1 = 19 ∨ (l.getD i (0, 0, 0)).1 = 20) : wrap .i64 (((i + 1 : Nat) : Int) + (l.getD i (0, 0, 0)).2.1) = ((db l i : Nat) : Int) := by
 unfold db
 generalize l.getD i (0, 0, 0) = x at *
 obtain ⟨o, A, B⟩ := x
 obtain ⟨h1, h2⟩ := n8 hj hr
 simp only
 rw [dC (by omega) (by omega)]
 omega
theorem Jq (n : Nat) {h : List Int} {l : List cP} {a b c d e o A B : Int} (ho : o = 19 ∨ o = 20) : lI n h a b l c d o A B = some (.inr ((h, a, b, l, c, d, ()), ((o, A, B, ()), ()))) := by
 unfold lI
 rcases ho with rfl | rfl <;> simp
theorem Cb (n : Nat) {l : List cP} {h : List Int} (hl : l.length < 1000000) (h0 : 0 < l.length) (hh : h.length = l.length) (hr : ∀ i, i < l.length → cZ (l.getD i (0, 0, 0)) = true) : ∀ (f i : Nat), i ≤ l.length → l.length < f + i →
  it (fun F => (dZ (C_ q_)) (nD n F)) f (h, ((l.length - 1 : Nat) : Int), l, (l.length : Int), (i : Int)) = some (if el (jQ l h) (l.length - i) i = true then .inr ((), ()) else .inl ((8, ()), ()))
 | 0, i, hi, hf => by omega
 | f + 1, i, hi, hf => by
  have ih := Cb n hl h0 hh hr f (i + 1)
  show nD n (it _ f) h ((l.length - 1 : Nat) : Int) l (l.length : Int) (i : Int) = _
  generalize it (fun F => (dZ (C_ q_)) (nD n F)) f = F at ih ⊢
  unfold nD
  rcases au i l.length with hlt | hge
  ·have e1 : decide ((i : Int) < (l.length : Int)) = true := ah (by omega)
   rw [if_pos e1, if_pos (cU hlt), ai, show l.length - i = (l.length - (i + 1)) + 1 by omega]
   rw [show el (jQ l h) (l.length - (i + 1) + 1) i = (jQ l h i && el (jQ l h) (l.length - (i + 1)) (i + 1)) from rfl]
   by_cases hj : (l.getD i (0, 0, 0)).1 = 19 ∨ (l.getD i (0, 0, 0)).1 = 20
   ·have hj1 : lI n h ((l.length - 1 : Nat) : Int) (i : Int) l (l.length : Int) (i : Int) (l.getD i (0, 0, 0)).1 (l.getD i (0, 0, 0)).2.1 (l.getD i (0, 0, 0)).2.2 = some (.inr ((h, ((l.length - 1 : Nat) : Int), (i : Int), l, (l.length : Int), (i : Int), ()), (((l.getD i (0, 0, 0)).1, (l.getD i (0, 0, 0)).2.1, (l.getD i (0, 0, 0)).2.2, ()), ()))) := Jq n (e := 0) hj
    rw [hj1, ae, cg]
    simp only [d4 (show i < 1000000 by omega), uq hl hlt (hr i hlt) hj, ai]
    have hq : jQ l h i = (decide (db l i < l.length) && (h.getD (db l i) 0 == h.getD i 0)) := by unfold jQ; rw [if_pos hj]
    rw [hq]
    by_cases hb : db l i < l.length
    ·have e2 : ¬ decide (((db l i : Nat) : Int) > ((l.length - 1 : Nat) : Int)) = true := by simp only [am]; omega
     rw [if_neg e2, if_pos (by rw [hh]; exact cU hb), if_pos (by rw [hh]; exact cU hlt), ah hb, aS]
     by_cases he : h.getD (db l i) 0 = h.getD i 0
     ·have e3 : ¬ (h.getD (db l i) 0 != h.getD i 0) = true := fun h => (az.1 h) he
      have e4 : (h.getD (db l i) 0 == h.getD i 0) = true := by simp only [ag]; exact he
      rw [if_neg e3, e4, aS]
      exact ih (by omega) (by omega)
     ·have e3 : (h.getD (db l i) 0 != h.getD i 0) = true := by simp only [az, ne_eq]; exact he
      have e4 : (h.getD (db l i) 0 == h.getD i 0) = false := by rw [aR]; exact he
      rw [if_pos e3, e4, bg]
      rfl
    ·have e2 : decide (((db l i : Nat) : Int) > ((l.length - 1 : Nat) : Int)) = true := ah (by omega)
     rw [if_pos e2, aK hb, bg, bg]
     rfl
   ·have hj1 : lI n h ((l.length - 1 : Nat) : Int) (i : Int) l (l.length : Int) (i : Int) (l.getD i (0, 0, 0)).1 (l.getD i (0, 0, 0)).2.1 (l.getD i (0, 0, 0)).2.2 = some (.inl ((h, ((l.length - 1 : Nat) : Int), l, (l.length : Int), (i : Int), ()), (((l.getD i (0, 0, 0)).1, (l.getD i (0, 0, 0)).2.1, (l.getD i (0, 0, 0)).2.2, ()), ()))) := by
     unfold lI
     have m1 : ((l.getD i (0, 0, 0)).1 != 19) = true := by simp only [az, ne_eq]; exact fun h => hj (.inl h)
     have m2 : ((l.getD i (0, 0, 0)).1 != 20) = true := by simp only [az, ne_eq]; exact fun h => hj (.inr h)
     rw [if_pos m1, if_pos m2]
    rw [hj1, ae, Sum.elim_inl]
    simp only [d4 (show i < 1000000 by omega)]
    have hq : jQ l h i = true := by unfold jQ; rw [if_neg hj]
    rw [hq, aS]
    exact ih (by omega) (by omega)
  ·have : i = l.length := by omega
   subst this
   have e1 : ¬ decide ((l.length : Int) < (l.length : Int)) = true := by simp
   rw [if_neg e1]
   simp [el]
theorem wm (n : Nat) (l : List cP) (hl : l.length < n) (hn : n < 1000000) : sN n l = some (d7 l) := by
 unfold sN d7
 rw [uo n l hl hn, ae]
 by_cases he : (scanI l).2.2 = 0
 ·have e1 : ¬ ((scanI l).2.2 != 0) = true := fun h => (az.1 h) he
  rw [if_neg e1, if_neg (by simpa using he)]
  have hN := jb he
  obtain ⟨r1, r2, r3⟩ := iU hN.row
  have z : ((0 : Nat) : Int) = 0 := rfl
  have hb0 := Ca n (h := (scanI l).2.1) (l := l) (by omega) r1 n 0 (aB _) (by omega)
  rw [z] at hb0
  rw [un r1 (by omega)]
  unfold sK
  rw [hb0, ae, bf]
  by_cases h1 : el (pe l) l.length 0 = true
  ·rw [if_pos h1, if_pos h1, cg]
   have hb2 := Cb n (l := l) (h := (scanI l).2.1) (by omega) r1 hN.hh r3 n 0 (aB _) (by omega)
   rw [z] at hb2
   unfold sM
   simp only
   rw [hb2, ae, bf]
   by_cases h2 : el (jQ l (scanI l).2.1) l.length 0 = true
   ·rw [if_pos h2, if_pos h2]; rfl
   ·rw [if_neg h2, if_neg h2]; rfl
  ·rw [if_neg h1, if_neg h1]; rfl
 ·have e1 : ((scanI l).2.2 != 0) = true := by simp only [az, ne_eq]; exact he
  rw [if_pos e1, if_pos he]
def enc (l : List cP) (m : List Int) (k i : Nat) : Bool := decide (k < i) && (da l k && decide (m.getD k 0 ≥ (i : Int)))
theorem Cc {Q : Nat → Bool} : ∀ {n : Nat}, fM Q n = -1 → ∀ k, k < n → Q k = false
 | 0, _, k, hk => by omega
 | n + 1, h, k, hk => by
  simp only [fM] at h
  split at h
  ·omega
  ·rename_i hq
   by_cases e : k = n
   ·subst e; simpa using hq
   ·exact Cc h k (by omega)
theorem Cd {Q : Nat → Bool} {p : Nat} : ∀ {n : Nat}, fM Q n = (p : Int) → p < n ∧ Q p = true ∧ ∀ k, p < k → k < n → Q k = false
 | 0, h => by simp only [fM] at h; omega
 | n + 1, h => by
  simp only [fM] at h
  split at h
  ·rename_i hq
   have : p = n := by omega
   subst this
   exact ⟨by omega, hq, fun k h1 h2 => by omega⟩
  ·rename_i hq
   obtain ⟨h1, h2, h3⟩ := Cd h
   refine ⟨by omega, h2, fun k h4 h5 => ?_⟩
   by_cases e : k = n
   ·subst e; simpa using hq
   ·exact h3 k h4 (by omega)
theorem nq (l : List cP) (m : List Int) (i : Nat) : gm l m i = -1 ∨ ∃ p : Nat, gm l m i = (p : Int) := by
 have := (DO (Q := fun k => da l k && decide (m.getD k 0 ≥ (i : Int))) (n := i)).2
 unfold gm
 by_cases h : fM (fun k => da l k && decide (m.getD k 0 ≥ (i : Int))) i = -1
 ·exact .inl h
 ·exact .inr ⟨(fM (fun k => da l k && decide (m.getD k 0 ≥ (i : Int))) i).toNat, by omega⟩
theorem n9 {l : List cP} {m : List Int} {i : Nat} (h : gm l m i = -1) (k : Nat) : enc l m k i = false := by
 unfold enc
 by_cases hk : k < i
 ·rw [Cc h k hk]
  simp
 ·simp [hk]
theorem iV {l : List cP} {m h : List Int} (hN : Nest l m h) {i p : Nat} (hi : i < l.length) (hp : gm l m i = (p : Int)) : p < i ∧ da l p = true ∧ ∀ k, enc l m k i = (decide (k = p) || enc l m k p) := by
 obtain ⟨h1, h2, h3⟩ := Cd hp
 simp only [ak, am] at h2
 refine ⟨h1, h2.1, fun k => ?_⟩
 by_cases hkp : k = p
 ·subst hkp
  unfold enc
  rw [ah h1, h2.1, ah h2.2]
  simp
 ·have e0 : decide (k = p) = false := by simp [hkp]
  rw [e0, bH]
  rcases au k p with hlt | hge
  ·unfold enc
   have c1 : decide (k < i) = true := ah (by omega)
   have c2 : decide (k < p) = true := ah hlt
   rw [c1, c2, aS, aS]
   cases ho : da l k
   ·rfl
   ·rw [aS, aS]
    obtain ⟨j, g1, g2, g3⟩ := hN.open_ k (by omega) ho
    rw [g1]
    by_cases hjp : j < p
    ·have : ¬ ((j : Int) ≥ (i : Int)) := by omega
     have : ¬ ((j : Int) ≥ (p : Int)) := by omega
     simp [*]
    ·have hne : j ≠ p := by
      rintro rfl
      have := hN.clos k j (by omega) ho g1
      rw [h2.1] at this
      cases this
     obtain ⟨q, e1, e2⟩ := hN.cross k p j hlt (by omega) (by omega) ho h2.1 g1
     have : i < j := by
      have := h2.2
      rw [e1] at this
      omega
     have c3 : decide ((j : Int) ≥ (i : Int)) = true := ah (by omega)
     have c4 : decide ((j : Int) ≥ (p : Int)) = true := ah (by omega)
     rw [c3, c4]
  ·have hkp2 : p < k := by omega
   have c2 : enc l m k p = false := by
    unfold enc
    have : decide (k < p) = false := aK (by omega)
    rw [this, bg]
   rw [c2]
   unfold enc
   by_cases hki : k < i
   ·rw [h3 k hkp2 hki, Bool.and_false]
   ·have : decide (k < i) = false := aK hki
    rw [this, bg]
theorem Ce (a b : Nat) (ha : a < 256) (hb : b < 256) : bits .or .i64 (a : Int) (b : Int) = ((a ||| b : Nat) : Int) := by
 have hx : a ||| b < 2 ^ 8 := Nat.or_lt_two_pow (by omega) (by omega)
 show IntKind.i64.wrap ((BitVec.ofInt 64 (a : Int) ||| BitVec.ofInt 64 (b : Int)).toNat : Int) = _
 rw [BitVec.toNat_or, ofInt_u64 a (by omega), ofInt_u64 b (by omega), dC (by omega) (by omega)]
theorem Jr (a : Nat) (ha : a < 256) : bits .and .i64 (a : Int) 1 = ((a % 2 : Nat) : Int) := by
 have hx : a &&& 1 = a % 2 := nat_mask1 a
 show IntKind.i64.wrap ((BitVec.ofInt 64 (a : Int) &&& BitVec.ofInt 64 ((1 : Nat) : Int)).toNat : Int) = _
 rw [BitVec.toNat_and, ofInt_u64 a (by omega), ofInt_u64 1 (by omega), hx, dC (by omega) (by omega)]
def HeldB (l : List cP) (m : List Int) (i v : Nat) : Prop := v < 256 ∧ ∀ b, v.testBit b = true ↔ ∃ k, enc l m k i = true ∧ (l.getD k (0, 0, 0)).1 = 23 ∧ (l.getD k (0, 0, 0)).2.1 = (b : Int)
theorem DP {A B : Int} (h : cZ (23, A, B) = true) : 0 ≤ A ∧ A ≤ 7 := by
 have h1 := (eq 0 (23, A, B)).symm.trans (E4 0 A B)
 rw [h] at h1
 by_cases h2 : 0 ≤ A
 ·by_cases h3 : A ≤ 7
  ·exact ⟨h2, h3⟩
  ·simp [h2, h3] at h1
 ·simp [h2] at h1
theorem HeldB.none {l : List cP} {m : List Int} {i : Nat} (h : gm l m i = -1) : HeldB l m i 0 := ⟨by omega, fun b => by
 simp only [Nat.zero_testBit, aE, false_iff]
 rintro ⟨k, hk, _⟩
 rw [n9 h k] at hk
 cases hk⟩
theorem HeldB.loop {l : List cP} {m h : List Int} (hN : Nest l m h) {i p v : Nat} (hi : i < l.length) (hp : gm l m i = (p : Int)) (hv : HeldB l m p v) (ho : (l.getD p (0, 0, 0)).1 ≠ 23) : HeldB l m i v := by
 obtain ⟨h1, h2, h3⟩ := iV hN hi hp
 refine ⟨hv.1, fun b => ?_⟩
 rw [hv.2 b]
 constructor
 ·rintro ⟨k, k1, k2⟩
  exact ⟨k, by rw [h3 k, k1]; simp, k2⟩
 ·rintro ⟨k, k1, k2, k3⟩
  rw [h3 k, aC, am] at k1
  rcases k1 with rfl | k1
  ·exact absurd k2 ho
  ·exact ⟨k, k1, k2, k3⟩
theorem E6 {l : List cP} {m h : List Int} (hN : Nest l m h) {i p v : Nat} (hi : i < l.length) (hp : gm l m i = (p : Int)) (hv : HeldB l m p v) (ho : (l.getD p (0, 0, 0)).1 = 23) {a : Nat} (ha : (l.getD p (0, 0, 0)).2.1 = (a : Int)) (ha7 : a ≤ 7) : HeldB l m i (v ||| 2 ^ a) := by
 obtain ⟨h1, h2, h3⟩ := iV hN hi hp
 refine ⟨?_, fun b => ?_⟩
 ·have : 2 ^ a < 2 ^ 8 := Nat.pow_lt_pow_right (by omega) (by omega)
  have := Nat.or_lt_two_pow (x := v) (y := 2 ^ a) (n := 8) hv.1 this
  omega
 ·rw [Nat.testBit_or, aC, hv.2 b, Nat.testBit_two_pow, am]
  constructor
  ·rintro (⟨k, k1, k2⟩ | rfl)
   ·exact ⟨k, by rw [h3 k, k1]; simp, k2⟩
   ·exact ⟨p, by rw [h3 p]; simp, ho, ha⟩
  ·rintro ⟨k, k1, k2, k3⟩
   rw [h3 k, aC, am] at k1
   rcases k1 with rfl | k1
   ·right
    rw [ha] at k3
    omega
   ·exact .inl ⟨k, k1, k2, k3⟩
theorem zO {a : Nat} (h : a ≤ 7) : wrap .i64 (1 * 2 ^ (min ((a : Int)).toNat 64)) = ((2 ^ a : Nat) : Int) := by
 have h1 : min ((a : Int)).toNat 64 = a := by simp; omega
 rw [h1, Int.one_mul]
 have : a = 0 ∨ a = 1 ∨ a = 2 ∨ a = 3 ∨ a = 4 ∨ a = 5 ∨ a = 6 ∨ a = 7 := by omega
 rcases this with rfl | rfl | rfl | rfl | rfl | rfl | rfl | rfl <;> (rw [dC (by decide) (by decide)]; rfl)
def lh (l : List cP) (m hs : List Int) (i : Nat) : Prop := hs.length = l.length ∧ (∀ j, j < i → ∃ v, hs.getD j 0 = ((v : Nat) : Int) ∧ HeldB l m j v) ∧ ∀ j, i ≤ j → hs.getD j 0 = 0
theorem Hm (n : Nat) {l : List cP} {m h : List Int} (hN : Nest l m h) (F : ((List (Int × (Int × Int))) × (List Int) × (List Int) × Int × Int) → Option ((List Int))) {hs : List Int} {i : Nat} (hi : i < l.length) (hT : lh l m hs i) : ∃ hs', lh l m hs' (i + 1) ∧ fq n F l h hs (l.length : Int) (i : Int) = F (l, h, hs', (l.length : Int), ((i + 1 : Nat) : Int)) := by
 obtain ⟨r1, r2, r3⟩ := iU hN.row
 obtain ⟨t1, t2, t3⟩ := hT
 have his : i < hs.length := by omega
 have e1 : decide ((i : Int) < (l.length : Int)) = true := ah (by omega)
 unfold fq
 rw [if_pos e1, if_pos (by rw [hN.hh]; exact cU hi), ai, hN.home i hi, d4 (by omega)]
 have done : ∀ (v : Nat), HeldB l m i v → lh l m (hs.set i (v : Int)) (i + 1) := fun v hv => by
  refine ⟨by simp [t1], fun j hj => ?_, fun j hj => ?_⟩
  ·rw [dK his]
   by_cases hji : j = i
   ·subst hji
    exact ⟨v, by simp, hv⟩
   ·rw [if_neg hji]
    exact t2 j (by omega)
  ·rw [dK his, if_neg (by omega)]
   exact t3 j (by omega)
 rcases nq l m i with hh | ⟨p, hp⟩
 ·rw [hh]
  refine ⟨hs, ⟨t1, fun j hj => ?_, fun j hj => t3 j (by omega)⟩, if_pos rfl⟩
  by_cases hji : j = i
  ·subst hji
   exact ⟨0, t3 j (aj _), HeldB.none hh⟩
  ·exact t2 j (by omega)
 ·obtain ⟨g1, g2, g3⟩ := iV hN hi hp
  obtain ⟨v, v1, v2⟩ := t2 p g1
  have c : ¬ (((p : Int)) == -1) = true := by simp only [ag]; omega
  rw [hp, if_neg c, if_pos (by rw [t1]; exact cU (by omega)), if_pos (by rw [t1]; exact cU hi), if_pos (cU (show p < l.length by omega)), ai, v1]
  by_cases ho : (l.getD p (0, 0, 0)).1 = 23
  ·have c2 : ((l.getD p (0, 0, 0)).1 == 23) = true := by simp only [ag]; exact ho
   have hr := r3 p (by omega)
   have hA : 0 ≤ (l.getD p (0, 0, 0)).2.1 ∧ (l.getD p (0, 0, 0)).2.1 ≤ 7 := by
    revert hr ho
    generalize l.getD p (0, 0, 0) = x
    obtain ⟨o, A, B⟩ := x
    intro ho hr
    simp only at ho
    subst ho
    exact DP hr
   obtain ⟨a, ha⟩ : ∃ a : Nat, (l.getD p (0, 0, 0)).2.1 = (a : Int) := ⟨(l.getD p (0, 0, 0)).2.1.toNat, by omega⟩
   have ha7 : a ≤ 7 := by omega
   have c3 : ¬ decide ((l.getD p (0, 0, 0)).2.1 < 0) = true := by simp only [am]; omega
   rw [if_pos c2, if_pos (by rw [bj, t1]; exact cU hi), if_neg c3, ha, zO ha7, dK his, if_pos rfl, Ce v (2 ^ a) v2.1 (bi (Nat.pow_lt_pow_right (by omega) (show a < 8 by omega)) (by decide))]
   refine ⟨_, done _ (E6 hN hi hp v2 ho ha ha7), ?_⟩
   rw [List.set_set, if_pos (cU (show p < l.length by omega)), if_pos (by rw [bj, t1]; exact cU hi)]
  ·have c2 : ¬ ((l.getD p (0, 0, 0)).1 == 23) = true := by simp only [ag]; exact ho
   rw [if_neg c2]
   exact ⟨_, done _ (HeldB.loop hN hi hp v2 ho), rfl⟩
theorem zP (n : Nat) {l : List cP} {m h : List Int} (hN : Nest l m h) : ∀ (f i : Nat) {hs : List Int}, i ≤ l.length → l.length < f + i → lh l m hs i → ∃ hs', lh l m hs' l.length ∧
  it (fun F => (dZ (C_ q_)) (fq n F)) f (l, h, hs, (l.length : Int), (i : Int)) = some hs'
 | 0, i, hs, hi, hf, hT => by omega
 | f + 1, i, hs, hi, hf, hT => by
  have ih := fun {hs : List Int} => zP n hN f (i + 1) (hs := hs)
  show ∃ hs', lh l m hs' l.length ∧ fq n (it _ f) l h hs (l.length : Int) (i : Int) = some hs'
  generalize it (fun F => (dZ (C_ q_)) (fq n F)) f = F at ih ⊢
  rcases au i l.length with hlt | hge
  ·obtain ⟨hs1, k1, k2⟩ := Hm n hN F hlt hT
   obtain ⟨hs2, k3, k4⟩ := ih (by omega) (by omega) k1
   exact ⟨hs2, k3, by rw [k2, k4]⟩
  ·have : i = l.length := by omega
   subst this
   refine ⟨hs, hT, ?_⟩
   unfold fq
   rw [if_neg (by simp)]
theorem Ks (n : Nat) {l : List cP} (he : (scanI l).2.2 = 0) (hl : l.length < n) (hn : n < 1000000) : ∃ hs, lX n l = some (hs, 0) ∧ lh l (scanI l).1 hs l.length := by
 have hN := jb he
 obtain ⟨r1, r2, r3⟩ := iU hN.row
 obtain ⟨hs, k1, k2⟩ := zP n hN n 0 (hs := List.replicate l.length 0) (aB _) (by omega) ⟨by simp, fun j hj => by omega, fun j hj => by
  rw [aA, bD]
  split <;> rfl⟩
 refine ⟨hs, ?_, k1⟩
 unfold lX
 rw [uo n l hl hn, ae, if_neg (fun h => (az.1 h) he)]
 have c : (decide (0 ≤ (l.length : Int)) && ((l.length : Int) == (l.length : Int)) && decide ((l.length : Int) * (8 : Int) ≤ 140737488355328) && decide (1 ≤ 8)) = true := by
  simp
  omega
 rw [if_pos c, ai]
 unfold lJ
 have z : ((0 : Nat) : Int) = 0 := rfl
 rw [z] at k2
 rw [k2]
 rfl
def xw (l : List cP) (m : List Int) (i : Nat) : Prop := ∃ k, enc l m k i = true ∧ (l.getD k (0, 0, 0)).1 = 21
theorem uX (n : Nat) {l : List cP} {m h : List Int} (hN : Nest l m h) : ∀ (f i : Nat), i < l.length → i < f → ∃ b : Bool, (b = true ↔ xw l m i) ∧
  it (fun F => (C_ q_) (fT n F)) f (l, h, gm l m i) = some (if b = true then .inl ((true, ()), ()) else .inr ((), ()))
 | 0, i, hi, hf => by omega
 | f + 1, i, hi, hf => by
  have ih := uX n hN f
  show ∃ b : Bool, (b = true ↔ xw l m i) ∧ fT n (it _ f) l h (gm l m i) = _
  generalize it (fun F => (C_ q_) (fT n F)) f = F at ih ⊢
  unfold fT
  rcases nq l m i with hh | ⟨p, hp⟩
  ·rw [hh, if_neg (by simp)]
   refine ⟨false, ⟨fun h => (by cases h), ?_⟩, rfl⟩
   rintro ⟨k, hk, _⟩
   rw [n9 hh k] at hk
   cases hk
  ·obtain ⟨g1, g2, g3⟩ := iV hN hi hp
   have c : ((p : Int) != -1) = true := by simp only [az, ne_eq]; omega
   rw [hp, if_pos c, if_pos (cU (show p < l.length by omega)), ai]
   by_cases ho : (l.getD p (0, 0, 0)).1 = 21
   ·have c2 : ((l.getD p (0, 0, 0)).1 == 21) = true := by simp only [ag]; exact ho
    rw [if_pos c2]
    exact ⟨true, ⟨fun _ => ⟨p, by rw [g3 p]; simp, ho⟩, fun _ => rfl⟩, rfl⟩
   ·have c2 : ¬ ((l.getD p (0, 0, 0)).1 == 21) = true := by simp only [ag]; exact ho
    rw [if_neg c2, if_pos (by rw [hN.hh]; exact cU (show p < l.length by omega)), hN.home p (by omega)]
    obtain ⟨b, b1, b2⟩ := ih p (by omega) (by omega)
    refine ⟨b, b1.trans ⟨?_, ?_⟩, b2⟩
    ·rintro ⟨k, k1, k2⟩
     exact ⟨k, by rw [g3 k, k1]; simp, k2⟩
    ·rintro ⟨k, k1, k2⟩
     rw [g3 k, aC, am] at k1
     rcases k1 with rfl | k1
     ·exact absurd k2 ho
     ·exact ⟨k, k1, k2⟩
theorem Hn (n : Nat) {l : List cP} {m h : List Int} (hN : Nest l m h) {i : Nat} (hi : i < l.length) (hn : l.length < n) : ∃ b : Bool, (b = true ↔ xw l m i) ∧ jO n l h (i : Int) = some b := by
 obtain ⟨b, b1, b2⟩ := uX n hN n i hi (by omega)
 refine ⟨b, b1, ?_⟩
 unfold jO jY
 rw [if_pos (by rw [hN.hh]; exact cU hi), ai, hN.home i hi, b2]
 cases b <;> rfl
end Go.Proofs.Dk
