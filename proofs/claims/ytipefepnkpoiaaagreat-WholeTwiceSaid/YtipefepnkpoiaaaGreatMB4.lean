/- A part of the proofs: What the functions of the program do, read off their text. -/
import Derived.Test.YtipefepnkpoiaaaGreatMB3
import Derived.Test.YtipefepnkpoiaaaGreatMB2
import Derived.Laws.BitsLemmas
set_option linter.unusedVariables false
set_option linter.unusedSimpArgs false
noncomputable section
namespace Go.Proofs.Dk
open Go Go.IntKind
set_option maxRecDepth 100000
variable (n : Nat)
def Kq1.r0 : FS := ⟨⟨[.agf (.pair eF dz) 48, .val cY, .val cY], []⟩, ⟨[.val cY], []⟩, Int, fun y => ((y, ()), ()), fun o => o.1.1, fun _ => none⟩
def vq (W : gO → Option Int) : Cx := (Cx.bare (Nf n)).addSpec 94 (Kq1.r0.with W)
def fv (W : gO → Option Int) (a0 : (dm × (List Int))) (a1 : Int) : Option Int := if (decide (0 ≤ a1) && decide (a1 < (a0.2.length : Int))) then ((W (((a0.1, a0.2), (wrap .i64 (a1 + 1)), (a0.2.getD a1.toNat 0), ()), ())).bind fun y1 => ((fu n y1 1).bind fun y2 => (if (y2 == 1048577) then (some 1048577) else (if (decide (0 ≤ a1) && decide (a1 < (a0.1.length : Int))) then (some (if 1048577 < (wrap .i64 (1 + (wrap .i64 ((a0.1.getD a1.toNat (0, (0, 0))).2.1 * y2)))) then 1048577 else (wrap .i64 (1 + (wrap .i64 ((a0.1.getD a1.toNat (0, (0, 0))).2.1 * y2)))))) else none)))) else none
def iT (W : gO → Option Int) : FS := ⟨⟨[.agf (.pair eF dz) 48, .val cY], []⟩, ⟨[.val cY], []⟩, Int, fun y => ((y, ()), ()), fun o => o.1.1, fun x => fv n W x.1.1 x.1.2.1⟩
theorem ox (W : gO → Option Int) : dw (vq n W) 14 128 0 (iT n W) := fun x => by kernel_rfl
def gh (W : gO → Option Int) : Cx := (Cx.bare (vq n W)).addSpec 128 (iT n W)
theorem oy (W : gO → Option Int) (h : Good (vq n W)) : Good (gh n W) := Good.fn (h) 14 0 (ox n W) (fun _ => rfl) rfl
def pS (n : Nat) (W : gO → Option Int) (F : JS → Option (tr)) (v6 v7 v8 : Int) (v9 : dm) (v10 : (List Int)) (v11 : Int) (v12 : (List Int)) : Option (tr) := if (decide (v8 < v7)) then (if (decide (0 ≤ (wrap .i64 (v8 + 1))) && decide ((wrap .i64 (v8 + 1)) < (v12.length : Int))) then (F (v6, v7, (wrap .i64 (v8 + 1)), v9, v10, v11, (v12.set ((wrap .i64 (v8 + 1))).toNat (-1)))) else none) else (some (v6, v9, v10, v11, v12))
def wT (W : gO → Option Int) : JS → Option (tr) := it (fun F x => pS n W F x.1 x.2.1 x.2.2.1 x.2.2.2.1 x.2.2.2.2.1 x.2.2.2.2.2.1 x.2.2.2.2.2.2) n
def CJ (W : gO → Option Int) : Loop := ⟨⟨dn 106 0 [(2, .val cY), (3, .obj 0), (4, .obj 1), (7, .obj 2), (20, .val cY), (21, .val cY)], [EC, [.val cY], [.row 3 cY]]⟩, [(.exit 0, ⟨dn 106 0 [(2, .val cY), (3, .obj 0), (4, .obj 1), (7, .obj 2)], [EC, [.val cY], [.row 3 cY]]⟩)], JS, fun x => ((dF v_) x, (U_ v_) x.2.2.2, (x.2.2.2.2.2.1, ()), (x.2.2.2.2.2.2, ()), ()), fun (x : (rk × zh)) => (fX j_) x.1 ((J_ j_) x.2.1 ((x.2.2.1.1, x.2.2.2.1.1))), tr, fun y => ((y.1, ()), (U_ v_) y.2, (y.2.2.2.1, ()), (y.2.2.2.2, ()), ()), fun (o : (gX × zh)) => (o.1.1, o.2.1.1, o.2.1.2.1, o.2.2.1.1, o.2.2.2.1.1), wT n W⟩
def yj (W : gO → Option Int) (v13 v14 : Int) (v15 : dm) (v16 : (List Int)) (v17 : Int) (v18 : (List Int)) : Option (zi) := if (decide (0 ≤ (wrap .i64 (v14 - v17))) && decide ((wrap .i64 (v14 - v17)) < (v18.length : Int))) then (if ((v18.getD ((wrap .i64 (v14 - v17))).toNat 0) == (-1)) then (some (v13, v14, v15, v16, v17, v18)) else (if (decide (0 ≤ v14) && decide (v14 < (v15.length : Int))) then (if ((v15.getD v14.toNat (0, (0, 0))).1 == 21) then (if (decide (0 ≤ v14) && decide (v14 < (v16.length : Int))) then ((fv n W (v15, v16) v14).bind fun y19 => ((fu n (v18.getD ((wrap .i64 (v14 - v17))).toNat 0) y19).bind fun y20 => (if (decide (0 ≤ (wrap .i64 ((wrap .i64 ((v16.getD v14.toNat 0) + 1)) - v17))) && decide ((wrap .i64 ((wrap .i64 ((v16.getD v14.toNat 0) + 1)) - v17)) < (v18.length : Int))) then (if ((v18.getD ((wrap .i64 ((wrap .i64 ((v16.getD v14.toNat 0) + 1)) - v17))).toNat 0) != (-1)) then ((fo n (v18.getD ((wrap .i64 ((wrap .i64 ((v16.getD v14.toNat 0) + 1)) - v17))).toNat 0) y20).bind fun y21 => (if (decide (0 ≤ (wrap .i64 ((wrap .i64 ((v16.getD v14.toNat 0) + 1)) - v17))) && decide ((wrap .i64 ((wrap .i64 ((v16.getD v14.toNat 0) + 1)) - v17)) < (v18.length : Int))) then (some (v13, v14, v15, v16, v17, (v18.set ((wrap .i64 ((wrap .i64 ((v16.getD v14.toNat 0) + 1)) - v17))).toNat y21))) else none)) else (if (decide (0 ≤ (wrap .i64 ((wrap .i64 ((v16.getD v14.toNat 0) + 1)) - v17))) && decide ((wrap .i64 ((wrap .i64 ((v16.getD v14.toNat 0) + 1)) - v17)) < (v18.length : Int))) then (some (v13, v14, v15, v16, v17, (v18.set ((wrap .i64 ((wrap .i64 ((v16.getD v14.toNat 0) + 1)) - v17))).toNat y20))) else none)) else none))) else none) else (if ((v15.getD v14.toNat (0, (0, 0))).1 == 19) then ((fu n (v18.getD ((wrap .i64 (v14 - v17))).toNat 0) 1).bind fun y22 => (if (decide (0 ≤ (wrap .i64 ((wrap .i64 ((wrap .i64 (v14 + 1)) + (v15.getD v14.toNat (0, (0, 0))).2.1)) - v17))) && decide ((wrap .i64 ((wrap .i64 ((wrap .i64 (v14 + 1)) + (v15.getD v14.toNat (0, (0, 0))).2.1)) - v17)) < (v18.length : Int))) then (if ((v18.getD ((wrap .i64 ((wrap .i64 ((wrap .i64 (v14 + 1)) + (v15.getD v14.toNat (0, (0, 0))).2.1)) - v17))).toNat 0) != (-1)) then ((fo n (v18.getD ((wrap .i64 ((wrap .i64 ((wrap .i64 (v14 + 1)) + (v15.getD v14.toNat (0, (0, 0))).2.1)) - v17))).toNat 0) y22).bind fun y23 => (if (decide (0 ≤ (wrap .i64 ((wrap .i64 ((wrap .i64 (v14 + 1)) + (v15.getD v14.toNat (0, (0, 0))).2.1)) - v17))) && decide ((wrap .i64 ((wrap .i64 ((wrap .i64 (v14 + 1)) + (v15.getD v14.toNat (0, (0, 0))).2.1)) - v17)) < (v18.length : Int))) then (some (v13, v14, v15, v16, v17, (v18.set ((wrap .i64 ((wrap .i64 ((wrap .i64 (v14 + 1)) + (v15.getD v14.toNat (0, (0, 0))).2.1)) - v17))).toNat y23))) else none)) else (if (decide (0 ≤ (wrap .i64 ((wrap .i64 ((wrap .i64 (v14 + 1)) + (v15.getD v14.toNat (0, (0, 0))).2.1)) - v17))) && decide ((wrap .i64 ((wrap .i64 ((wrap .i64 (v14 + 1)) + (v15.getD v14.toNat (0, (0, 0))).2.1)) - v17)) < (v18.length : Int))) then (some (v13, v14, v15, v16, v17, (v18.set ((wrap .i64 ((wrap .i64 ((wrap .i64 (v14 + 1)) + (v15.getD v14.toNat (0, (0, 0))).2.1)) - v17))).toNat y22))) else none)) else none)) else (if ((v15.getD v14.toNat (0, (0, 0))).1 == 20) then ((fu n (v18.getD ((wrap .i64 (v14 - v17))).toNat 0) 1).bind fun y24 => (if (decide (0 ≤ (wrap .i64 ((wrap .i64 ((wrap .i64 (v14 + 1)) + (v15.getD v14.toNat (0, (0, 0))).2.1)) - v17))) && decide ((wrap .i64 ((wrap .i64 ((wrap .i64 (v14 + 1)) + (v15.getD v14.toNat (0, (0, 0))).2.1)) - v17)) < (v18.length : Int))) then (if ((v18.getD ((wrap .i64 ((wrap .i64 ((wrap .i64 (v14 + 1)) + (v15.getD v14.toNat (0, (0, 0))).2.1)) - v17))).toNat 0) != (-1)) then ((fo n (v18.getD ((wrap .i64 ((wrap .i64 ((wrap .i64 (v14 + 1)) + (v15.getD v14.toNat (0, (0, 0))).2.1)) - v17))).toNat 0) y24).bind fun y25 => (if (decide (0 ≤ (wrap .i64 ((wrap .i64 ((wrap .i64 (v14 + 1)) + (v15.getD v14.toNat (0, (0, 0))).2.1)) - v17))) && decide ((wrap .i64 ((wrap .i64 ((wrap .i64 (v14 + 1)) + (v15.getD v14.toNat (0, (0, 0))).2.1)) - v17)) < (v18.length : Int))) then ((fu n (v18.getD ((wrap .i64 (v14 - v17))).toNat 0) 1).bind fun y26 => (if (decide (0 ≤ (wrap .i64 ((wrap .i64 (v14 + 1)) - v17))) && decide ((wrap .i64 ((wrap .i64 (v14 + 1)) - v17)) < (((v18.set ((wrap .i64 ((wrap .i64 ((wrap .i64 (v14 + 1)) + (v15.getD v14.toNat (0, (0, 0))).2.1)) - v17))).toNat y25).length : Nat) : Int))) then (if (((v18.set ((wrap .i64 ((wrap .i64 ((wrap .i64 (v14 + 1)) + (v15.getD v14.toNat (0, (0, 0))).2.1)) - v17))).toNat y25).getD ((wrap .i64 ((wrap .i64 (v14 + 1)) - v17))).toNat 0) != (-1)) then ((fo n ((v18.set ((wrap .i64 ((wrap .i64 ((wrap .i64 (v14 + 1)) + (v15.getD v14.toNat (0, (0, 0))).2.1)) - v17))).toNat y25).getD ((wrap .i64 ((wrap .i64 (v14 + 1)) - v17))).toNat 0) y26).bind fun y27 => (if (decide (0 ≤ (wrap .i64 ((wrap .i64 (v14 + 1)) - v17))) && decide ((wrap .i64 ((wrap .i64 (v14 + 1)) - v17)) < (((v18.set ((wrap .i64 ((wrap .i64 ((wrap .i64 (v14 + 1)) + (v15.getD v14.toNat (0, (0, 0))).2.1)) - v17))).toNat y25).length : Nat) : Int))) then (some (v13, v14, v15, v16, v17, ((v18.set ((wrap .i64 ((wrap .i64 ((wrap .i64 (v14 + 1)) + (v15.getD v14.toNat (0, (0, 0))).2.1)) - v17))).toNat y25).set ((wrap .i64 ((wrap .i64 (v14 + 1)) - v17))).toNat y27))) else none)) else (if (decide (0 ≤ (wrap .i64 ((wrap .i64 (v14 + 1)) - v17))) && decide ((wrap .i64 ((wrap .i64 (v14 + 1)) - v17)) < (((v18.set ((wrap .i64 ((wrap .i64 ((wrap .i64 (v14 + 1)) + (v15.getD v14.toNat (0, (0, 0))).2.1)) - v17))).toNat y25).length : Nat) : Int))) then (some (v13, v14, v15, v16, v17, ((v18.set ((wrap .i64 ((wrap .i64 ((wrap .i64 (v14 + 1)) + (v15.getD v14.toNat (0, (0, 0))).2.1)) - v17))).toNat y25).set ((wrap .i64 ((wrap .i64 (v14 + 1)) - v17))).toNat y26))) else none)) else none)) else none)) else (if (decide (0 ≤ (wrap .i64 ((wrap .i64 ((wrap .i64 (v14 + 1)) + (v15.getD v14.toNat (0, (0, 0))).2.1)) - v17))) && decide ((wrap .i64 ((wrap .i64 ((wrap .i64 (v14 + 1)) + (v15.getD v14.toNat (0, (0, 0))).2.1)) - v17)) < (v18.length : Int))) then ((fu n (v18.getD ((wrap .i64 (v14 - v17))).toNat 0) 1).bind fun y28 => (if (decide (0 ≤ (wrap .i64 ((wrap .i64 (v14 + 1)) - v17))) && decide ((wrap .i64 ((wrap .i64 (v14 + 1)) - v17)) < (((v18.set ((wrap .i64 ((wrap .i64 ((wrap .i64 (v14 + 1)) + (v15.getD v14.toNat (0, (0, 0))).2.1)) - v17))).toNat y24).length : Nat) : Int))) then (if (((v18.set ((wrap .i64 ((wrap .i64 ((wrap .i64 (v14 + 1)) + (v15.getD v14.toNat (0, (0, 0))).2.1)) - v17))).toNat y24).getD ((wrap .i64 ((wrap .i64 (v14 + 1)) - v17))).toNat 0) != (-1)) then ((fo n ((v18.set ((wrap .i64 ((wrap .i64 ((wrap .i64 (v14 + 1)) + (v15.getD v14.toNat (0, (0, 0))).2.1)) - v17))).toNat y24).getD ((wrap .i64 ((wrap .i64 (v14 + 1)) - v17))).toNat 0) y28).bind fun y29 => (if (decide (0 ≤ (wrap .i64 ((wrap .i64 (v14 + 1)) - v17))) && decide ((wrap .i64 ((wrap .i64 (v14 + 1)) - v17)) < (((v18.set ((wrap .i64 ((wrap .i64 ((wrap .i64 (v14 + 1)) + (v15.getD v14.toNat (0, (0, 0))).2.1)) - v17))).toNat y24).length : Nat) : Int))) then (some (v13, v14, v15, v16, v17, ((v18.set ((wrap .i64 ((wrap .i64 ((wrap .i64 (v14 + 1)) + (v15.getD v14.toNat (0, (0, 0))).2.1)) - v17))).toNat y24).set ((wrap .i64 ((wrap .i64 (v14 + 1)) - v17))).toNat y29))) else none)) else (if (decide (0 ≤ (wrap .i64 ((wrap .i64 (v14 + 1)) - v17))) && decide ((wrap .i64 ((wrap .i64 (v14 + 1)) - v17)) < (((v18.set ((wrap .i64 ((wrap .i64 ((wrap .i64 (v14 + 1)) + (v15.getD v14.toNat (0, (0, 0))).2.1)) - v17))).toNat y24).length : Nat) : Int))) then (some (v13, v14, v15, v16, v17, ((v18.set ((wrap .i64 ((wrap .i64 ((wrap .i64 (v14 + 1)) + (v15.getD v14.toNat (0, (0, 0))).2.1)) - v17))).toNat y24).set ((wrap .i64 ((wrap .i64 (v14 + 1)) - v17))).toNat y28))) else none)) else none)) else none)) else none)) else ((fu n (v18.getD ((wrap .i64 (v14 - v17))).toNat 0) 1).bind fun y30 => (if (decide (0 ≤ (wrap .i64 ((wrap .i64 (v14 + 1)) - v17))) && decide ((wrap .i64 ((wrap .i64 (v14 + 1)) - v17)) < (v18.length : Int))) then (if ((v18.getD ((wrap .i64 ((wrap .i64 (v14 + 1)) - v17))).toNat 0) != (-1)) then ((fo n (v18.getD ((wrap .i64 ((wrap .i64 (v14 + 1)) - v17))).toNat 0) y30).bind fun y31 => (if (decide (0 ≤ (wrap .i64 ((wrap .i64 (v14 + 1)) - v17))) && decide ((wrap .i64 ((wrap .i64 (v14 + 1)) - v17)) < (v18.length : Int))) then (some (v13, v14, v15, v16, v17, (v18.set ((wrap .i64 ((wrap .i64 (v14 + 1)) - v17))).toNat y31))) else none)) else (if (decide (0 ≤ (wrap .i64 ((wrap .i64 (v14 + 1)) - v17))) && decide ((wrap .i64 ((wrap .i64 (v14 + 1)) - v17)) < (v18.length : Int))) then (some (v13, v14, v15, v16, v17, (v18.set ((wrap .i64 ((wrap .i64 (v14 + 1)) - v17))).toNat y30))) else none)) else none))))) else none)) else none
def wU (W : gO → Option Int) : Loop := ⟨⟨dn 106 0 [(2, .val cY), (3, .obj 0), (4, .obj 1), (7, .obj 2), (9, .clo 127 [2, 1, 0]), (10, .val cY)], [EC, [.val cY], [.row 3 cY]]⟩, [(.norm, ⟨dn 106 0 [(2, .val cY), (3, .obj 0), (4, .obj 1), (7, .obj 2), (9, .clo 127 [2, 1, 0]), (10, .val cY)], [EC, [.val cY], [.row 3 cY]]⟩)], zi, fun x => ((U_ v_) x, (U_ v_) x.2.2, (x.2.2.2.2.1, ()), (x.2.2.2.2.2, ()), ()), fun (x : ((Int × Int × Unit) × zh)) => (J_ j_) x.1 ((J_ j_) x.2.1 ((x.2.2.1.1, x.2.2.2.1.1))), zi, fun y => ((U_ v_) y, (U_ v_) y.2.2, (y.2.2.2.2.1, ()), (y.2.2.2.2.2, ()), ()), fun (o : ((Int × Int × Unit) × zh)) => (J_ j_) o.1 ((J_ j_) o.2.1 ((o.2.2.1.1, o.2.2.2.1.1))), fun x => yj n W x.1 x.2.1 x.2.2.1 x.2.2.2.1 x.2.2.2.2.1 x.2.2.2.2.2⟩
def pT (W : gO → Option Int) (F : zi → Option (tr)) (v7 v8 : Int) (v9 : dm) (v10 : (List Int)) (v11 : Int) (v12 : (List Int)) : Option (tr) := if (decide (v8 < v7)) then ((yj n W v7 v8 v9 v10 v11 v12).bind fun y13 => (F (y13.1, (wrap .i64 (y13.2.1 + 1)), y13.2.2.1, y13.2.2.2.1, y13.2.2.2.2.1, y13.2.2.2.2.2))) else (some (v7, v9, v10, v11, v12))
def wV (W : gO → Option Int) : zi → Option (tr) := it (fun F x => pT n W F x.1 x.2.1 x.2.2.1 x.2.2.2.1 x.2.2.2.2.1 x.2.2.2.2.2) n
def CK (W : gO → Option Int) : Loop := ⟨⟨dn 106 0 [(2, .val cY), (3, .obj 0), (4, .obj 1), (7, .obj 2), (9, .clo 127 [2, 1, 0]), (10, .val cY)], [EC, [.val cY], [.row 3 cY]]⟩, [(.exit 2, ⟨dn 106 0 [(2, .val cY), (4, .obj 1), (7, .obj 2)], [EC, [.val cY], [.row 3 cY]]⟩)], zi, fun x => ((U_ v_) x, (U_ v_) x.2.2, (x.2.2.2.2.1, ()), (x.2.2.2.2.2, ()), ()), fun (x : ((Int × Int × Unit) × zh)) => (J_ j_) x.1 ((J_ j_) x.2.1 ((x.2.2.1.1, x.2.2.2.1.1))), tr, fun y => ((y.1, ()), (U_ v_) y.2, (y.2.2.2.1, ()), (y.2.2.2.2, ()), ()), fun (o : (gX × zh)) => (o.1.1, o.2.1.1, o.2.1.2.1, o.2.2.1.1, o.2.2.2.1.1), wV n W⟩
theorem J8 (W : gO → Option Int) : ∀ F x, dL (gh n W) 14 94 0 3 (CJ n W) F x = pS n W F x.1 x.2.1 x.2.2.1 x.2.2.2.1 x.2.2.2.2.1 x.2.2.2.2.2.1 x.2.2.2.2.2.2 := fun F x => by kernel_rfl
def wW (W : gO → Option Int) : Cx := Cx.addLoop (gh n W) 94 3 (CJ n W)
theorem J9 (W : gO → Option Int) (h : Good (vq n W)) : Good (wW n W) := Good.loop (oy n W h) 14 0 (by kernel_rfl) (J8 n W) n (fun _ => rfl) (fun _ => rfl) (fun _ => rfl) rfl
theorem Ka (W : gO → Option Int) : ∀ x, jc (wW n W) 14 94 0 1000010 (wU n W) x = (wU n W).fn x := fun x => by kernel_rfl
def wX (W : gO → Option Int) : Cx := Cx.addLoop (wW n W) 94 1000010 (wU n W)
theorem Kb (W : gO → Option Int) (h : Good (vq n W)) : Good (wX n W) := gC (J9 n W h) 14 0 (by kernel_rfl) (Ka n W) (fun _ => rfl) (fun _ => rfl) rfl
theorem Kc (W : gO → Option Int) : ∀ F x, dL (wX n W) 14 94 0 9 (CK n W) F x = pT n W F x.1 x.2.1 x.2.2.1 x.2.2.2.1 x.2.2.2.2.1 x.2.2.2.2.2 := fun F x => by kernel_rfl
def wY (W : gO → Option Int) : Cx := Cx.addLoop (wX n W) 94 9 (CK n W)
theorem Kd (W : gO → Option Int) (h : Good (vq n W)) : Good (wY n W) := Good.loop (Kb n W h) 14 0 (by kernel_rfl) (Kc n W) n (fun _ => rfl) (fun _ => rfl) (fun _ => rfl) rfl
def rq (W : gO → Option Int) (a0 : (dm × (List Int))) (a1 : Int) (a2 : Int) : Option Int := if (decide (0 ≤ (wrap .i64 ((wrap .i64 (a2 - a1)) + 1))) && ((wrap .i64 ((wrap .i64 (a2 - a1)) + 1)) == (wrap .i64 ((wrap .i64 (a2 - a1)) + 1))) && decide ((wrap .i64 ((wrap .i64 (a2 - a1)) + 1)) * (8 : Int) ≤ 140737488355328) && decide (1 ≤ 8)) then (if (decide (0 ≤ 1) && decide (1 ≤ (((List.replicate ((wrap .i64 ((wrap .i64 (a2 - a1)) + 1))).toNat (0 : Int)).length : Nat) : Int))) then ((wT n W (a2, ((((List.replicate ((wrap .i64 ((wrap .i64 (a2 - a1)) + 1))).toNat (0 : Int)).length - 1) : Nat) : Int), 0, a0.1, a0.2, a1, (List.replicate ((wrap .i64 ((wrap .i64 (a2 - a1)) + 1))).toNat (0 : Int)))).bind fun y1 => ((wV n W (y1.1, y1.2.2.2.1, y1.2.1, y1.2.2.1, y1.2.2.2.1, y1.2.2.2.2)).bind fun y2 => (if (decide (0 ≤ (wrap .i64 (y2.1 - y2.2.2.2.1))) && decide ((wrap .i64 (y2.1 - y2.2.2.2.1)) < (y2.2.2.2.2.length : Int))) then (some (y2.2.2.2.2.getD ((wrap .i64 (y2.1 - y2.2.2.2.1))).toNat (0 : Int))) else none))) else none) else none
def F6 (a0 : (dm × (List Int))) (a1 : Int) (a2 : Int) : Option Int := it (fun (W : gO → Option Int) x => rq n W x.1.1 x.1.2.1 x.1.2.2.1) n ((a0, a1, a2, ()), ())
def CL : FS := ⟨⟨[.agf (.pair eF dz) 48, .val cY, .val cY], []⟩, ⟨[.val cY], []⟩, Int, fun y => ((y, ()), ()), fun o => o.1.1, fun x => F6 n x.1.1 x.1.2.1 x.1.2.2.1⟩
theorem OX (W : gO → Option Int) : dw (wY n W) 14 94 0 ((CL n).with ((fun (W : gO → Option Int) x => rq n W x.1.1 x.1.2.1 x.1.2.2.1) W)) := fun x => by kernel_rfl
def tX : Cx := (Cx.bare (Nf n)).addSpec 94 (CL n)
theorem Qt : Good (tX n) := FL (S := CL n) (step := (fun (W : gO → Option Int) x => rq n W x.1.1 x.1.2.1 x.1.2.2.1)) (Qs n) (fun x => n) (fun W => wY n W) (fun W h => Kd n W h) (fun _ => rfl) 14 0 (fun W => OX n W) (fun _ => rfl) rfl (fun _ => rfl)
def iU (a0 : dm) : Option gL := (mQ n a0).bind fun y1 => (if (y1.2 != 0) then (if (y1.2 != 0) then (some (0, y1.2)) else none) else ((rn n a0).bind fun y2 => (if (y2.2 != 0) then (if (y2.2 != 0) then (some (0, y2.2)) else none) else ((gZ n a0).bind fun y3 => (if (y3.2 != 0) then (some (0, y3.2)) else ((F6 n (a0, y3.1) 0 (wrap .i64 ((a0.length : Int) - 1))).bind fun y4 => ((fu n y4 1).bind fun y5 => (if (y5 == 1048577) then (some (0, 4)) else (some (y5, 0))))))))))
def oz : FS := ⟨⟨[.val eF, .clo 48 []], []⟩, ⟨oj, []⟩, gL, fun y => ((U_ u_) y, ()), fun o => (o.1.1, o.1.2.1), fun x => iU n x.1.1⟩
theorem yk : dw (tX n) 14 47 0 (oz n) := fun x => by kernel_rfl
def Ng : Cx := (Cx.bare (tX n)).addSpec 47 (oz n)
theorem Qu : Good (Ng n) := Good.fn (Qt n) 14 0 (yk n) (fun _ => rfl) rfl
def gi (a0 : dm) : Option gL := (iU n a0).bind fun y1 => (some (y1.1, y1.2))
def sd : FS := ⟨⟨[.val eF], []⟩, ⟨oj, []⟩, gL, fun y => ((U_ u_) y, ()), fun o => (o.1.1, o.1.2.1), fun x => gi n x.1.1⟩
theorem CM : dw (Ng n) 14 32 0 (sd n) := fun x => by kernel_rfl
def Nh : Cx := (Cx.bare (Ng n)).addSpec 32 (sd n)
theorem Qv : Good (Nh n) := Good.fn (Qu n) 14 0 (CM n) (fun _ => rfl) rfl
def vr (F : oo → Option (tn)) (v2 v3 v4 v5 v6 : Int) (v7 : (List Int)) (v8 : (List (List Int))) (v9 : da) : Option (tn) := if (decide (v2 < (v9.length : Int))) then (if (decide (0 ≤ v2) && decide (v2 < (v9.length : Int))) then ((gi n ((v9.getD v2.toNat (0, (0, (0, (0, ([], ([], []))))))).2.2.2.2.2.2)).bind fun y10 => (if (y10.2 == 0) then (if (decide (y10.1 > 5000)) then (some (.inl ((false, ()), ((v3, v4, v5, v6, v7, v8, v9, ()), ())))) else (F ((wrap .i64 (v2 + 1)), v3, v4, v5, v6, v7, v8, v9))) else (F ((wrap .i64 (v2 + 1)), v3, v4, v5, v6, v7, v8, v9)))) else none) else (some (.inr ((), ((v3, v4, v5, v6, v7, v8, v9, ()), ()))))
def tY : oo → Option (tn) := it (fun F => (eo (dZ q_)) (vr n F)) n
def Ag : Loop := ⟨⟨dn 32 0 [(1, .obj 0), (3, .val cY)], [iR]⟩, [(.ret, ⟨dn 32 0 [(2, .val .bool)], [iR]⟩), (.exit 0, ⟨dn 32 0 [], [iR]⟩)], oo, fun x => ((x.1, ()), (ec (dF u_)) x.2, ()), fun (x : (gX × jJ)) => (x.1.1, ((ec (dF k_)) x.2.1)), tn, fun y => y, fun y => y, tY n⟩
def yl (a0 : ol) : Option Bool := (nC n (a0.1, (a0.2.1, (a0.2.2.1, (a0.2.2.2.1, (a0.2.2.2.2.1, (a0.2.2.2.2.2.1, a0.2.2.2.2.2.2))))))).bind fun y1 => (if (y1 == 0) then (some false) else ((tY n (0, a0.1, a0.2.1, a0.2.2.1, a0.2.2.2.1, a0.2.2.2.2.1, a0.2.2.2.2.2.1, a0.2.2.2.2.2.2)).bind fun y11 => ((Sum.elim (fun (z12 : (gg × jJ)) => (some z12.1.1)) (fun (z13 : (Unit × jJ)) => (some true))) y11)))
def EI : FS := ⟨⟨[.val tm], []⟩, ⟨[.val .bool], []⟩, Bool, fun y => ((y, ()), ()), fun o => o.1.1, fun x => yl n x.1.1⟩
theorem HJ : ∀ F x, dL (Nh n) 14 10 0 4 (Ag n) F x = (eo (dZ q_)) (vr n F) x := fun F x => by kernel_rfl
def tZ : Cx := Cx.addLoop (Nh n) 10 4 (Ag n)
theorem HK : Good (tZ n) := Good.loop (Qv n) 14 0 (by kernel_rfl) (HJ n) n (fun _ => rfl) (fun _ => rfl) (fun _ => rfl) rfl
theorem Ni : dw (tZ n) 14 10 0 (EI n) := fun x => by kernel_rfl
def Nj : Cx := (Cx.bare (tZ n)).addSpec 10 (EI n)
theorem Qw : Good (Nj n) := Good.fn (HK n) 14 0 (Ni n) (fun _ => rfl) rfl
def ez (n : Nat) (a0 : wG) : Option (List Int) := some [(if (if 100 < a0.1 then 100 else a0.1) > 1 then (if 100 < a0.1 then 100 else a0.1) else 1), (if (if 1048576 < a0.2.1 then 1048576 else a0.2.1) > 1 then (if 1048576 < a0.2.1 then 1048576 else a0.2.1) else 1), (if (if (if (if 1048576 < a0.2.1 then 1048576 else a0.2.1) > 1 then (if 1048576 < a0.2.1 then 1048576 else a0.2.1) else 1) < a0.2.2.1 then (if (if 1048576 < a0.2.1 then 1048576 else a0.2.1) > 1 then (if 1048576 < a0.2.1 then 1048576 else a0.2.1) else 1) else a0.2.2.1) > 1 then (if (if (if 1048576 < a0.2.1 then 1048576 else a0.2.1) > 1 then (if 1048576 < a0.2.1 then 1048576 else a0.2.1) else 1) < a0.2.2.1 then (if (if 1048576 < a0.2.1 then 1048576 else a0.2.1) > 1 then (if 1048576 < a0.2.1 then 1048576 else a0.2.1) else 1) else a0.2.2.1) else 1), (if (if 1048576 < a0.2.2.2.1 then 1048576 else a0.2.2.2.1) > 0 then (if 1048576 < a0.2.2.2.1 then 1048576 else a0.2.2.2.1) else 0)]
def kB : FS := ⟨⟨[.val Cv], []⟩, ⟨[.val (.arr 4 cY)], []⟩, (List Int), fun y => ((y, ()), ()), fun o => o.1.1, fun x => ez n x.1.1⟩
theorem rt : dw (Nj n) 14 129 0 (kB n) := fun x => by kernel_rfl
def Nk : Cx := (Cx.bare (Nj n)).addSpec 129 (kB n)
theorem Qx : Good (Nk n) := Good.fn (Qw n) 14 0 (rt n) (fun _ => rfl) rfl
def hU (n : Nat) (F : (Int × Int × (List Int) × Int × Int) → Option (iS)) (v1 v2 : Int) (v3 : (List Int)) (v4 v5 : Int) : Option (iS) := if (decide (v5 < v4)) then (if (decide (0 ≤ v5) && decide (v5 < (v3.length : Int))) then (if (decide ((v3.getD v5.toNat 0) ≤ v2)) then (some (.inl ((false, ()), ()))) else (if (decide ((v3.getD v5.toNat 0) ≥ v1)) then (some (.inl ((false, ()), ()))) else (F (v1, (v3.getD v5.toNat 0), v3, v4, (wrap .i64 (v5 + 1)))))) else none) else (some (.inr ((), ())))
def km : (Int × Int × (List Int) × Int × Int) → Option (iS) := it (fun F => (dZ (C_ q_)) (hU n F)) n
def oA : Loop := ⟨⟨dn 24 0 [(1, .val cY), (5, .val cY), (8, .val dz), (9, .val cY), (10, .val cY)], []⟩, [(.ret, ⟨dn 24 0 [(4, .val .bool)], []⟩), (.exit 0, ⟨dn 24 0 [], []⟩)], (Int × Int × (List Int) × Int × Int), fun x => ((ec u_) x, ()), fun (x : ((Int × Int × (List Int) × Int × Int × Unit) × Unit)) => (ec k_) x.1, iS, fun y => y, fun y => y, km n⟩
def iB (a0 : (List Int)) (a1 : Int) : Option Bool := (km n (a1, (-1), a0, (a0.length : Int), 0)).bind fun y6 => ((Sum.elim (fun (z7 : (gg × Unit)) => (some z7.1.1)) (fun (z8 : nf) => (some true))) y6)
def pU : FS := ⟨⟨[.val dz, .val cY], []⟩, ⟨[.val .bool], []⟩, Bool, fun y => ((y, ()), ()), fun o => o.1.1, fun x => iB n x.1.1 x.1.2.1⟩
theorem wZ : ∀ F x, dL (Nk n) 14 130 0 3 (oA n) F x = (dZ (C_ q_)) (hU n F) x := fun F x => by kernel_rfl
def kn : Cx := Cx.addLoop (Nk n) 130 3 (oA n)
theorem w0 : Good (kn n) := Good.loop (Qx n) 14 0 (by kernel_rfl) (wZ n) n (fun _ => rfl) (fun _ => rfl) (fun _ => rfl) rfl
theorem A9 : dw (kn n) 14 130 0 (pU n) := fun x => by kernel_rfl
def Nl : Cx := (Cx.bare (kn n)).addSpec 130 (pU n)
theorem Qy : Good (Nl n) := Good.fn (w0 n) 14 0 (A9 n) (fun _ => rfl) rfl
def mU (a0 : Int) : Option Int := (lU n a0).bind fun y1 => (some y1.2.1)
def ym : FS := ⟨⟨[.val cY], []⟩, ⟨[.val cY], []⟩, Int, fun y => ((y, ()), ()), fun o => o.1.1, fun x => mU n x.1.1⟩
theorem HL : dw (Nl n) 14 167 0 (ym n) := fun x => by kernel_rfl
def Nm : Cx := (Cx.bare (Nl n)).addSpec 167 (ym n)
theorem Qz : Good (Nm n) := Good.fn (Qy n) 14 0 (HL n) (fun _ => rfl) rfl
def mz (n : Nat) (a0 : Int) : Option Int := some (bits .xor .u64 (IntKind.wrap .u64 ((IntKind.wrap .u64 a0) * 2 ^ 1)) (IntKind.wrap .u64 (a0.fdiv (2 ^ 63))))
def t7 : FS := ⟨⟨[.val cY], []⟩, ⟨[.val (.int .u64)], []⟩, Int, fun y => ((y, ()), ()), fun o => o.1.1, fun x => mz n x.1.1⟩
theorem D5 : dw (Nm n) 14 175 0 (t7 n) := fun x => by kernel_rfl
def Nn : Cx := (Cx.bare (Nm n)).addSpec 175 (t7 n)
theorem QA : Good (Nn n) := Good.fn (Qz n) 14 0 (D5 n) (fun _ => rfl) rfl
def iJ (n : Nat) (F : ki → Option (ki)) (v4 : (List Int)) (v5 : Int) : Option (ki) := if (decide (v5 ≥ 128)) then (if (decide ((v4.length + 1) * 1 ≤ 140737488355328) && decide (1 ≤ 1)) then (F ((v4 ++ [(IntKind.wrap .u8 (IntKind.wrap .u64 ((v5.tmod 128) + 128)))]), (IntKind.wrap .u64 (v5.tdiv 128)))) else none) else (some (v4, v5))
def ni : ki → Option (ki) := it (fun F => q_ (iJ n F)) n
def se : Loop := ⟨⟨dn 24 0 [(3, .row 5 (.int .u8)), (4, .val (.int .u64))], []⟩, [(.exit 0, ⟨dn 24 0 [(3, .row 5 (.int .u8)), (4, .val (.int .u64))], []⟩)], ki, fun x => ((U_ u_) x, ()), fun (x : wH) => (x.1.1, x.1.2.1), ki, fun y => ((U_ u_) y, ()), fun (o : wH) => (o.1.1, o.1.2.1), ni n⟩
def jz (a0 : Int) : Option ByteArray := (mz n a0).bind fun y1 => ((ni n ([], y1)).bind fun y2 => (if (decide ((y2.1.length + 1) * 1 ≤ 140737488355328) && decide (1 ≤ 1)) then (some (eZ (y2.1 ++ [(IntKind.wrap .u8 y2.2)]))) else none))
def wh : FS := ⟨⟨[.val cY], []⟩, ⟨[.val .str], []⟩, ByteArray, fun y => ((y, ()), ()), fun o => o.1.1, fun x => jz n x.1.1⟩
theorem Ba : ∀ F x, dL (Nn n) 14 168 0 3 (se n) F x = q_ (iJ n F) x := fun F x => by kernel_rfl
def nj : Cx := Cx.addLoop (Nn n) 168 3 (se n)
theorem Bb : Good (nj n) := Good.loop (QA n) 14 0 (by kernel_rfl) (Ba n) n (fun _ => rfl) (fun _ => rfl) (fun _ => rfl) rfl
theorem F7 : dw (nj n) 14 168 0 (wh n) := fun x => by kernel_rfl
def Np : Cx := (Cx.bare (nj n)).addSpec 168 (wh n)
theorem QB : Good (Np n) := Good.fn (Bb n) 14 0 (F7 n) (fun _ => rfl) rfl
def fq (a0 : jg) : Option ByteArray := (db n (a0.1, (a0.2.1, a0.2.2))).bind fun y1 => (if (!y1) then (some (ByteArray.mk #[])) else ((mU n a0.1).bind fun y2 => (if (decide (0 < y2)) then ((jz n a0.2.1).bind fun y3 => (if decide ((eZ ([(IntKind.wrap .u8 a0.1)])).size + y3.size ≤ 140737488351232) then ((mU n a0.1).bind fun y4 => (if (decide (1 < y4)) then ((jz n a0.2.2).bind fun y5 => (if decide (((eZ ([(IntKind.wrap .u8 a0.1)])) ++ y3).size + y5.size ≤ 140737488351232) then (some (((eZ ([(IntKind.wrap .u8 a0.1)])) ++ y3) ++ y5)) else none)) else (some ((eZ ([(IntKind.wrap .u8 a0.1)])) ++ y3)))) else none)) else ((mU n a0.1).bind fun y6 => (if (decide (1 < y6)) then ((jz n a0.2.2).bind fun y7 => (if decide ((eZ ([(IntKind.wrap .u8 a0.1)])).size + y7.size ≤ 140737488351232) then (some ((eZ ([(IntKind.wrap .u8 a0.1)])) ++ y7)) else none)) else (some (eZ ([(IntKind.wrap .u8 a0.1)]))))))))
def t8 : FS := ⟨⟨[.val gW], []⟩, ⟨[.val .str], []⟩, ByteArray, fun y => ((y, ()), ()), fun o => o.1.1, fun x => fq n x.1.1⟩
theorem D6 : dw (Np n) 14 148 0 (t8 n) := fun x => by kernel_rfl
def Nq : Cx := (Cx.bare (Np n)).addSpec 148 (t8 n)
theorem QC : Good (Nq n) := Good.fn (QB n) 14 0 (D6 n) (fun _ => rfl) rfl
def li (F : (ByteArray × dm × Int × Int) → Option ((pu ⊕ pu))) (v1 : ByteArray) (v2 : dm) (v3 v4 : Int) : Option ((pu ⊕ pu)) := if (decide (v4 < v3)) then (if (decide (0 ≤ v4) && decide (v4 < (v2.length : Int))) then ((fq n ((v2.getD v4.toNat (0, (0, 0))).1, ((v2.getD v4.toNat (0, (0, 0))).2.1, (v2.getD v4.toNat (0, (0, 0))).2.2))).bind fun y5 => (if (y5.toList == (ByteArray.mk #[]).toList) then (some (.inl (((ByteArray.mk #[]), ()), ()))) else (if decide (v1.size + y5.size ≤ 140737488351232) then (F ((v1 ++ y5), v2, v3, (wrap .i64 (v4 + 1)))) else none))) else none) else (some (.inr ((v1, ()), ())))
def oB : (ByteArray × dm × Int × Int) → Option ((pu ⊕ pu)) := it (fun F => (dZ q_) (li n F)) n
def t9 : Loop := ⟨⟨dn 25 0 [(3, .val .str), (10, .val eF), (11, .val cY), (12, .val cY)], []⟩, [(.ret, ⟨dn 25 0 [(2, .val .str)], []⟩), (.exit 0, ⟨dn 25 0 [(3, .val .str)], []⟩)], (ByteArray × dm × Int × Int), fun x => ((dF (U_ u_)) x, ()), fun (x : ((ByteArray × dm × Int × Int × Unit) × Unit)) => (dF (U_ k_)) x.1, (pu ⊕ pu), fun y => y, fun y => y, oB n⟩
def oY (a0 : dm) : Option ByteArray := if (decide ((a0.length : Int) > 200)) then (some (ByteArray.mk #[])) else ((oB n ((ByteArray.mk #[]), a0, (a0.length : Int), 0)).bind fun y6 => ((Sum.elim (fun (z7 : pu) => (some z7.1.1)) (fun (z8 : pu) => (some z8.1.1))) y6))
def yn : FS := ⟨⟨[.val eF], []⟩, ⟨[.val .str], []⟩, ByteArray, fun y => ((y, ()), ()), fun o => o.1.1, fun x => oY n x.1.1⟩
theorem CN : ∀ F x, dL (Nq n) 14 131 0 5 (t9 n) F x = (dZ q_) (li n F) x := fun F x => by kernel_rfl
def oC : Cx := Cx.addLoop (Nq n) 131 5 (t9 n)
theorem CO : Good (oC n) := Good.loop (QC n) 14 0 (by kernel_rfl) (CN n) n (fun _ => rfl) (fun _ => rfl) (fun _ => rfl) rfl
theorem HM : dw (oC n) 14 131 0 (yn n) := fun x => by kernel_rfl
def Nr : Cx := (Cx.bare (oC n)).addSpec 131 (yn n)
theorem QD : Good (Nr n) := Good.fn (CO n) 14 0 (HM n) (fun _ => rfl) rfl
def fM (a0 : wG) (a1 : ol) : Option Bool := (ez n (a0.1, (a0.2.1, (a0.2.2.1, (a0.2.2.2.1, (a0.2.2.2.2.1, (a0.2.2.2.2.2.1, a0.2.2.2.2.2.2))))))).bind fun y1 => (if (!(Sh.eqT (.arr 4 cY) y1 [a0.1, a0.2.1, a0.2.2.1, a0.2.2.2.1])) then (some false) else (if ((a0.2.2.2.2.2.2.length : Int) == 0) then (some false) else ((iB n a0.2.2.2.2.1 (a1.2.2.2.2.2.1.length : Int)).bind fun y2 => (if y2 then ((iB n a0.2.2.2.2.2.1 (a1.2.2.2.2.1.length : Int)).bind fun y3 => (if y3 then ((oY n a0.2.2.2.2.2.2).bind fun y4 => (some (!(y4.toList == (ByteArray.mk #[]).toList)))) else (some false))) else (some false)))))
def lG : FS := ⟨⟨[.val Cv, .val tm], []⟩, ⟨[.val .bool], []⟩, Bool, fun y => ((y, ()), ()), fun o => o.1.1, fun x => fM n x.1.1 x.1.2.1⟩
theorem ua : dw (Nr n) 14 95 0 (lG n) := fun x => by kernel_rfl
def Ns : Cx := (Cx.bare (Nr n)).addSpec 95 (lG n)
theorem QE : Good (Ns n) := Good.fn (QD n) 14 0 (ua n) (fun _ => rfl) rfl
def ub (n : Nat) (F : JN → Option (tn)) (v8 : (List (List Int))) (v9 v10 v11 v12 v13 v14 : Int) (v15 : (List Int)) (v16 : (List (List Int))) (v17 : da) : Option (tn) := if (decide (v10 < v9)) then (if (decide (0 ≤ v10) && decide (v10 < (v8.length : Int))) then (if ((((v8.getD v10.toNat []).length : Nat) : Int) == 0) then (some (.inl ((false, ()), ((v11, v12, v13, v14, v15, v16, v17, ()), ())))) else (if (decide ((((v8.getD v10.toNat []).length : Nat) : Int) > 8)) then (some (.inl ((false, ()), ((v11, v12, v13, v14, v15, v16, v17, ()), ())))) else (F (v8, v9, (wrap .i64 (v10 + 1)), v11, v12, v13, v14, v15, v16, v17)))) else none) else (some (.inr ((), ((v11, v12, v13, v14, v15, v16, v17, ()), ()))))
def ru : JN → Option (tn) := it (fun F => (fg q_) (ub n F)) n
def CP : Loop := ⟨⟨dn 101 0 [(1, .obj 0), (61, .val ep), (62, .val cY), (63, .val cY)], [iR]⟩, [(.ret, ⟨dn 101 0 [(2, .val .bool)], [iR]⟩), (.exit 0, ⟨dn 101 0 [(1, .obj 0)], [iR]⟩)], JN, fun x => ((dF v_) x, (ec (dF u_)) x.2.2.2, ()), fun (x : (((List (List Int)) × Int × Int × Unit) × jJ)) => (fX j_) x.1 ((ec (dF k_)) x.2.1), tn, fun y => y, fun y => y, ru n⟩
def uc (n : Nat) (F : JL → Option (((gg × om) ⊕ zk))) (v16 : da) (v17 v18 : Int) (v19 : (List Int)) (v20 v21 v22 v23 v24 v25 : Int) (v26 : (List Int)) (v27 : (List (List Int))) (v28 : da) (v29 : (List Bool)) : Option (((gg × om) ⊕ zk)) := if (decide (v21 < v20)) then (if (decide (0 ≤ v21) && decide (v21 < (v19.length : Int))) then (if (decide (0 ≤ (v19.getD v21.toNat 0)) && decide ((v19.getD v21.toNat 0) < 16)) then (if (v29.getD ((v19.getD v21.toNat 0)).toNat false) then (some (.inl ((false, ()), ((v22, v23, v24, v25, v26, v27, v28, ()), (v29, ()), ())))) else (if (decide (0 ≤ (v19.getD v21.toNat 0)) && decide ((v19.getD v21.toNat 0) < 16)) then (F (v16, v17, v18, v19, v20, (wrap .i64 (v21 + 1)), v22, v23, v24, v25, v26, v27, v28, (v29.set ((v19.getD v21.toNat 0)).toNat true))) else none)) else none) else none) else (some (.inr ((v16, v17, v18, ()), ((v22, v23, v24, v25, v26, v27, v28, ()), (v29, ()), ()))))
def rv : JL → Option (((gg × om) ⊕ zk)) := it (fun F => (fg (eo q_)) (uc n F)) n
def CQ : Loop := ⟨⟨dn 101 0 [(1, .obj 0), (7, .obj 1), (77, .val eh), (78, .val cY), (79, .val cY), (88, .val dz), (89, .val cY), (90, .val cY)], [iR, ED]⟩, [(.ret, ⟨dn 101 0 [(2, .val .bool)], [iR, ED]⟩), (.exit 4, ⟨dn 101 0 [(1, .obj 0), (7, .obj 1), (77, .val eh), (78, .val cY), (79, .val cY)], [iR, ED]⟩)], JL, fun x => ((ec (U_ v_)) x, (ec (dF v_)) x.2.2.2.2.2.2, (x.2.2.2.2.2.2.2.2.2.2.2.2.2, ()), ()), fun (x : ((da × Int × Int × (List Int) × Int × Int × Unit) × om)) => (lE (J_ j_)) x.1 ((lE (fX j_)) x.2.1 x.2.2.1.1), ((gg × om) ⊕ zk), fun y => y, fun y => y, rv n⟩
def ud (F : JM → Option (F2)) (v4 : da) (v5 v6 v7 v8 v9 v10 : Int) (v11 : (List Int)) (v12 : (List (List Int))) (v13 : da) (v14 : (List Bool)) : Option (F2) := if (decide (v6 < v5)) then (if (decide (0 ≤ v6) && decide (v6 < (v4.length : Int))) then ((fM n ((v4.getD v6.toNat (0, (0, (0, (0, ([], ([], []))))))).1, ((v4.getD v6.toNat (0, (0, (0, (0, ([], ([], []))))))).2.1, ((v4.getD v6.toNat (0, (0, (0, (0, ([], ([], []))))))).2.2.1, ((v4.getD v6.toNat (0, (0, (0, (0, ([], ([], []))))))).2.2.2.1, ((v4.getD v6.toNat (0, (0, (0, (0, ([], ([], []))))))).2.2.2.2.1, ((v4.getD v6.toNat (0, (0, (0, (0, ([], ([], []))))))).2.2.2.2.2.1, (v4.getD v6.toNat (0, (0, (0, (0, ([], ([], []))))))).2.2.2.2.2.2)))))) (v7, (v8, (v9, (v10, (v11, (v12, v13))))))).bind fun y15 => (if (!y15) then (some (.inl ((false, ()), ((v7, v8, v9, v10, v11, v12, v13, ()), (v14, ()), ())))) else ((rv n (v4, v5, v6, (v4.getD v6.toNat (0, (0, (0, (0, ([], ([], []))))))).2.2.2.2.2.1, (((v4.getD v6.toNat (0, (0, (0, (0, ([], ([], []))))))).2.2.2.2.2.1.length : Nat) : Int), 0, v7, v8, v9, v10, v11, v12, v13, v14)).bind fun y16 => ((Sum.elim (fun (z17 : (gg × om)) => (some (.inl ((z17.1.1, ()), ((z17.2.1.1, z17.2.1.2.1, z17.2.1.2.2.1, z17.2.1.2.2.2.1, z17.2.1.2.2.2.2.1, z17.2.1.2.2.2.2.2.1, z17.2.1.2.2.2.2.2.2.1, ()), (z17.2.2.1.1, ()), ()))))) (fun (z18 : zk) => (F (z18.1.1, z18.1.2.1, (wrap .i64 (z18.1.2.2.1 + 1)), z18.2.1.1, z18.2.1.2.1, z18.2.1.2.2.1, z18.2.1.2.2.2.1, z18.2.1.2.2.2.2.1, z18.2.1.2.2.2.2.2.1, z18.2.1.2.2.2.2.2.2.1, z18.2.2.1.1)))) y16)))) else none) else (some (.inr ((), ((v7, v8, v9, v10, v11, v12, v13, ()), (v14, ()), ()))))
def rx : JM → Option (F2) := it (fun F => (fg (C_ q_)) (ud n F)) n
def CT : Loop := ⟨⟨dn 101 0 [(1, .obj 0), (7, .obj 1), (77, .val eh), (78, .val cY), (79, .val cY)], [iR, ED]⟩, [(.ret, ⟨dn 101 0 [(2, .val .bool)], [iR, ED]⟩), (.exit 2, ⟨dn 101 0 [], [iR, ED]⟩)], JM, fun x => ((dF v_) x, (ec (dF v_)) x.2.2.2, (x.2.2.2.2.2.2.2.2.2.2, ()), ()), fun (x : zk) => (fX j_) x.1 ((lE (fX j_)) x.2.1 x.2.2.1.1), F2, fun y => y, fun y => y, rx n⟩
def ry (a0 : ol) : Option Bool := if (!((a0.1 == (if (if 100 < a0.1 then 100 else a0.1) > 0 then (if 100 < a0.1 then 100 else a0.1) else 0)) && ((a0.2.1 == (if (if 100 < a0.2.1 then 100 else a0.2.1) > 1 then (if 100 < a0.2.1 then 100 else a0.2.1) else 1)) && ((a0.2.2.1 == (if (if 100 < a0.2.2.1 then 100 else a0.2.2.1) > 1 then (if 100 < a0.2.2.1 then 100 else a0.2.2.1) else 1)) && ((a0.2.2.2.1 == (if (if 16 < a0.2.2.2.1 then 16 else a0.2.2.2.1) > 0 then (if 16 < a0.2.2.2.1 then 16 else a0.2.2.2.1) else 0)) && (((a0.2.2.2.2.1.length : Int) == (if 16 < (a0.2.2.2.2.1.length : Int) then 16 else (a0.2.2.2.2.1.length : Int))) && (((a0.2.2.2.2.2.1.length : Int) == (if 8 < (a0.2.2.2.2.2.1.length : Int) then 8 else (a0.2.2.2.2.2.1.length : Int))) && ((a0.2.2.2.2.2.2.length : Int) == (if (if 8 < (a0.2.2.2.2.2.2.length : Int) then 8 else (a0.2.2.2.2.2.2.length : Int)) > 1 then (if 8 < (a0.2.2.2.2.2.2.length : Int) then 8 else (a0.2.2.2.2.2.2.length : Int)) else 1))))))))) then (some false) else ((ru n (a0.2.2.2.2.2.1, (a0.2.2.2.2.2.1.length : Int), 0, a0.1, a0.2.1, a0.2.2.1, a0.2.2.2.1, a0.2.2.2.2.1, a0.2.2.2.2.2.1, a0.2.2.2.2.2.2)).bind fun y1 => ((Sum.elim (fun (z2 : (gg × jJ)) => (some z2.1.1)) (fun (z3 : (Unit × jJ)) => ((rx n (z3.2.1.2.2.2.2.2.2.1, (z3.2.1.2.2.2.2.2.2.1.length : Int), 0, z3.2.1.1, z3.2.1.2.1, z3.2.1.2.2.1, z3.2.1.2.2.2.1, z3.2.1.2.2.2.2.1, z3.2.1.2.2.2.2.2.1, z3.2.1.2.2.2.2.2.2.1, [false, false, false, false, false, false, false, false, false, false, false, false, false, false, false, false])).bind fun y19 => ((Sum.elim (fun (z20 : (gg × om)) => (some z20.1.1)) (fun (z21 : (Unit × om)) => (some true))) y19)))) y1))
def HN : FS := ⟨⟨[.val tm], []⟩, ⟨[.val .bool], []⟩, Bool, fun y => ((y, ()), ()), fun o => o.1.1, fun x => ry n x.1.1⟩
theorem Ke : ∀ F x, dL (Ns n) 14 49 0 6 (CP n) F x = (fg q_) (ub n F) x := fun F x => by kernel_rfl
def w7 : Cx := Cx.addLoop (Ns n) 49 6 (CP n)
theorem Kf : Good (w7 n) := Good.loop (QE n) 14 0 (by kernel_rfl) (Ke n) n (fun _ => rfl) (fun _ => rfl) (fun _ => rfl) rfl
theorem Kg : ∀ F x, dL (w7 n) 14 49 0 18 (CQ n) F x = (fg (eo q_)) (uc n F) x := fun F x => by kernel_rfl
def w8 : Cx := Cx.addLoop (w7 n) 49 18 (CQ n)
theorem Kh : Good (w8 n) := Good.loop (Kf n) 14 0 (by kernel_rfl) (Kg n) n (fun _ => rfl) (fun _ => rfl) (fun _ => rfl) rfl
theorem Ki : ∀ F x, dL (w8 n) 14 49 0 13 (CT n) F x = (fg (C_ q_)) (ud n F) x := fun F x => by kernel_rfl
def w9 : Cx := Cx.addLoop (w8 n) 49 13 (CT n)
theorem Kj : Good (w9 n) := Good.loop (Kh n) 14 0 (by kernel_rfl) (Ki n) n (fun _ => rfl) (fun _ => rfl) (fun _ => rfl) rfl
theorem OY : dw (w9 n) 14 49 0 (HN n) := fun x => by kernel_rfl
def Nt : Cx := (Cx.bare (w9 n)).addSpec 49 (HN n)
theorem QF : Good (Nt n) := Good.fn (Kj n) 14 0 (OY n) (fun _ => rfl) rfl
def gQ (a0 : (wG × ol)) : Option Int := (gi n a0.1.2.2.2.2.2.2).bind fun y1 => (some y1.2)
def mV : FS := ⟨⟨[.val (.pair Cv tm)], []⟩, ⟨[.val cY], []⟩, Int, fun y => ((y, ()), ()), fun o => o.1.1, fun x => gQ n x.1.1⟩
theorem vK : dw (Nt n) 14 96 0 (mV n) := fun x => by kernel_rfl
def Nu : Cx := (Cx.bare (Nt n)).addSpec 96 (mV n)
theorem QG : Good (Nu n) := Good.fn (QF n) 14 0 (vK n) (fun _ => rfl) rfl
def pV (n : Nat) (F : JI → Option (tp)) (v2 : (List Int)) (v3 v4 v5 v6 v7 v8 : Int) (v9 v10 : (List Int)) (v11 : dm) (v12 v13 v14 v15 : Int) (v16 : (List Int)) (v17 : (List (List Int))) (v18 : da) : Option (tp) := if (decide (v4 < v3)) then (if (decide (0 ≤ v4) && decide (v4 < (v2.length : Int))) then (if (decide (0 ≤ v4) && decide (v4 < (v9.length : Int))) then (if ((v2.getD v4.toNat 0) != (v9.getD v4.toNat 0)) then (some (.inl ((11, ()), ((v5, v6, v7, v8, v9, v10, v11, v12, v13, v14, v15, v16, v17, v18, ()), ())))) else (F (v2, v3, (wrap .i64 (v4 + 1)), v5, v6, v7, v8, v9, v10, v11, v12, v13, v14, v15, v16, v17, v18))) else none) else none) else (some (.inr ((), ((v5, v6, v7, v8, v9, v10, v11, v12, v13, v14, v15, v16, v17, v18, ()), ()))))
def ue : JI → Option (tp) := it (fun F => (fg (eo (dZ (C_ q_)))) (pV n F)) n
def Ah : Loop := ⟨⟨dn 40 0 [(1, .obj 0), (24, .val dz), (25, .val cY), (26, .val cY)], [Aa]⟩, [(.ret, ⟨dn 40 0 [(2, .val cY)], [Aa]⟩), (.exit 0, ⟨dn 40 0 [], [Aa]⟩)], JI, fun x => ((dF v_) x, (dD (ec (U_ u_))) x.2.2.2, ()), fun (x : (((List Int) × Int × Int × Unit) × (wb × Unit))) => (fX j_) x.1 ((dD (ec (U_ k_))) x.2.1), tp, fun y => y, fun y => y, ue n⟩
def uf (a0 : (wG × ol)) : Option Int := (mQ n a0.1.2.2.2.2.2.2).bind fun y1 => (if (y1.2 != 0) then (some y1.2) else (if ((y1.1.length : Int) != (a0.1.2.2.2.2.1.length : Int)) then (some 11) else ((ue n (y1.1, (y1.1.length : Int), 0, a0.1.1, a0.1.2.1, a0.1.2.2.1, a0.1.2.2.2.1, a0.1.2.2.2.2.1, a0.1.2.2.2.2.2.1, a0.1.2.2.2.2.2.2, a0.2.1, a0.2.2.1, a0.2.2.2.1, a0.2.2.2.2.1, a0.2.2.2.2.2.1, a0.2.2.2.2.2.2.1, a0.2.2.2.2.2.2.2)).bind fun y19 => ((Sum.elim (fun (z20 : (gX × (wb × Unit))) => (some z20.1.1)) (fun (z21 : (Unit × (wb × Unit))) => (some 0))) y19))))
def EJ : FS := ⟨⟨[.val (.pair Cv tm)], []⟩, ⟨[.val cY], []⟩, Int, fun y => ((y, ()), ()), fun o => o.1.1, fun x => uf n x.1.1⟩
theorem HO : ∀ F x, dL (Nu n) 14 97 0 7 (Ah n) F x = (fg (eo (dZ (C_ q_)))) (pV n F) x := fun F x => by kernel_rfl
def ug : Cx := Cx.addLoop (Nu n) 97 7 (Ah n)
theorem HP : Good (ug n) := Good.loop (QG n) 14 0 (by kernel_rfl) (HO n) n (fun _ => rfl) (fun _ => rfl) (fun _ => rfl) rfl
theorem Nv : dw (ug n) 14 97 0 (EJ n) := fun x => by kernel_rfl
def Nw : Cx := (Cx.bare (ug n)).addSpec 97 (EJ n)
theorem QH : Good (Nw n) := Good.fn (HP n) 14 0 (Nv n) (fun _ => rfl) rfl
def pW (n : Nat) (F : (Int × (List Int) × Int × Int) → Option (iS)) (v1 : Int) (v2 : (List Int)) (v3 v4 : Int) : Option (iS) := if (decide (v4 < v3)) then (if (decide (0 ≤ v4) && decide (v4 < (v2.length : Int))) then (if ((v2.getD v4.toNat 0) == v1) then (some (.inl ((true, ()), ()))) else (F (v1, v2, v3, (wrap .i64 (v4 + 1))))) else none) else (some (.inr ((), ())))
def uh : (Int × (List Int) × Int × Int) → Option (iS) := it (fun F => (dZ q_) (pW n F)) n
def Ai : Loop := ⟨⟨dn 19 0 [(1, .val cY), (9, .val dz), (10, .val cY), (11, .val cY)], []⟩, [(.ret, ⟨dn 19 0 [(4, .val .bool)], []⟩), (.exit 0, ⟨dn 19 0 [], []⟩)], (Int × (List Int) × Int × Int), fun x => ((dF (U_ u_)) x, ()), fun (x : ((Int × (List Int) × Int × Int × Unit) × Unit)) => (dF (U_ k_)) x.1, iS, fun y => y, fun y => y, uh n⟩
def ui (a0 : (wG × ol)) (a1 : Int) : Option Bool := (uh n (a1, a0.1.2.2.2.2.2.1, (a0.1.2.2.2.2.2.1.length : Int), 0)).bind fun y5 => ((Sum.elim (fun (z6 : (gg × Unit)) => (some z6.1.1)) (fun (z7 : nf) => (some false))) y5)
def EL : FS := ⟨⟨[.val (.pair Cv tm), .val cY], []⟩, ⟨[.val .bool], []⟩, Bool, fun y => ((y, ()), ()), fun o => o.1.1, fun x => ui n x.1.1 x.1.2.1⟩
theorem HQ : ∀ F x, dL (Nw n) 14 132 0 2 (Ai n) F x = (dZ q_) (pW n F) x := fun F x => by kernel_rfl
def uj : Cx := Cx.addLoop (Nw n) 132 2 (Ai n)
theorem HS : Good (uj n) := Good.loop (QH n) 14 0 (by kernel_rfl) (HQ n) n (fun _ => rfl) (fun _ => rfl) (fun _ => rfl) rfl
theorem Nx : dw (uj n) 14 132 0 (EL n) := fun x => by kernel_rfl
def Ny : Cx := (Cx.bare (uj n)).addSpec 132 (EL n)
theorem QI : Good (Ny n) := Good.fn (HS n) 14 0 (Nx n) (fun _ => rfl) rfl
def yo (v18 : Bool) (v19 : dm) (v20 v21 v22 v23 v24 v25 : Int) (v26 v27 : (List Int)) (v28 : dm) (v29 v30 v31 v32 : Int) (v33 : (List Int)) (v34 : (List (List Int))) (v35 : da) (v36 v37 v38 : Int) : Option (JF) := if (v36 == 15) then (some ((decide (v37 < v32)), v19, v20, v21, v22, v23, v24, v25, v26, v27, v28, v29, v30, v31, v32, v33, v34, v35, v36, v37, v38)) else (if (v36 == 16) then ((ui n ((v22, (v23, (v24, (v25, (v26, (v27, v28)))))), (v29, (v30, (v31, (v32, (v33, (v34, v35))))))) v37).bind fun y39 => (some (y39, v19, v20, v21, v22, v23, v24, v25, v26, v27, v28, v29, v30, v31, v32, v33, v34, v35, v36, v37, v38))) else (if (v36 == 17) then (if (decide (0 ≤ v37) && decide (v37 < (v34.length : Int))) then (some ((decide (v38 < (((v34.getD v37.toNat []).length : Nat) : Int))), v19, v20, v21, v22, v23, v24, v25, v26, v27, v28, v29, v30, v31, v32, v33, v34, v35, v36, v37, v38)) else none) else (if (v36 == 18) then (if (decide (0 ≤ v37) && decide (v37 < (v34.length : Int))) then (some ((decide (v38 < (((v34.getD v37.toNat []).length : Nat) : Int))), v19, v20, v21, v22, v23, v24, v25, v26, v27, v28, v29, v30, v31, v32, v33, v34, v35, v36, v37, v38)) else none) else (some (v18, v19, v20, v21, v22, v23, v24, v25, v26, v27, v28, v29, v30, v31, v32, v33, v34, v35, v36, v37, v38)))))
def xb : Loop := ⟨⟨dn 47 0 [(1, .obj 0), (4, .obj 1), (5, .val .bool), (8, .val eF), (9, .val cY), (10, .val cY)], [Aa, lF]⟩, [(.norm, ⟨dn 47 0 [(1, .obj 0), (5, .val .bool), (8, .val eF), (9, .val cY), (10, .val cY)], [Aa, lF]⟩)], JF, fun x => ((dF (U_ v_)) x, (dD (ec (U_ v_))) x.2.2.2.2, (dF u_) x.2.2.2.2.2.2.2.2.2.2.2.2.2.2.2.2.2.2, ()), fun (x : ((Bool × dm × Int × Int × Unit) × (wb × rk × Unit))) => (fX (J_ j_)) x.1 ((ye (lE (J_ j_))) x.2.1 ((dF k_) x.2.2.1)), JF, fun y => ((dF (U_ v_)) y, (dD (ec (U_ v_))) y.2.2.2.2, (dF u_) y.2.2.2.2.2.2.2.2.2.2.2.2.2.2.2.2.2.2, ()), fun (o : ((Bool × dm × Int × Int × Unit) × (wb × rk × Unit))) => (fX (J_ j_)) o.1 ((ye (lE (J_ j_))) o.2.1 ((dF k_) o.2.2.1)), (Cu (dZ (C_ q_))) (yo n)⟩
def uk (F : JJ → Option (tp)) (v1 : dm) (v2 v3 v4 v5 v6 v7 : Int) (v8 v9 : (List Int)) (v10 : dm) (v11 v12 v13 v14 : Int) (v15 : (List Int)) (v16 : (List (List Int))) (v17 : da) : Option (tp) := if (decide (v3 < v2)) then (if (decide (0 ≤ v3) && decide (v3 < (v1.length : Int))) then ((yo n true v1 v2 v3 v4 v5 v6 v7 v8 v9 v10 v11 v12 v13 v14 v15 v16 v17 ((v1.getD v3.toNat (0, (0, 0))).1) ((v1.getD v3.toNat (0, (0, 0))).2.1) ((v1.getD v3.toNat (0, (0, 0))).2.2)).bind fun y18 => (if (!y18.1) then (some (.inl ((12, ()), ((y18.2.2.2.2.1, y18.2.2.2.2.2.1, y18.2.2.2.2.2.2.1, y18.2.2.2.2.2.2.2.1, y18.2.2.2.2.2.2.2.2.1, y18.2.2.2.2.2.2.2.2.2.1, y18.2.2.2.2.2.2.2.2.2.2.1, y18.2.2.2.2.2.2.2.2.2.2.2.1, y18.2.2.2.2.2.2.2.2.2.2.2.2.1, y18.2.2.2.2.2.2.2.2.2.2.2.2.2.1, y18.2.2.2.2.2.2.2.2.2.2.2.2.2.2.1, y18.2.2.2.2.2.2.2.2.2.2.2.2.2.2.2.1, y18.2.2.2.2.2.2.2.2.2.2.2.2.2.2.2.2.1, y18.2.2.2.2.2.2.2.2.2.2.2.2.2.2.2.2.2.1, ()), ())))) else (F (y18.2.1, y18.2.2.1, (wrap .i64 (y18.2.2.2.1 + 1)), y18.2.2.2.2.1, y18.2.2.2.2.2.1, y18.2.2.2.2.2.2.1, y18.2.2.2.2.2.2.2.1, y18.2.2.2.2.2.2.2.2.1, y18.2.2.2.2.2.2.2.2.2.1, y18.2.2.2.2.2.2.2.2.2.2.1, y18.2.2.2.2.2.2.2.2.2.2.2.1, y18.2.2.2.2.2.2.2.2.2.2.2.2.1, y18.2.2.2.2.2.2.2.2.2.2.2.2.2.1, y18.2.2.2.2.2.2.2.2.2.2.2.2.2.2.1, y18.2.2.2.2.2.2.2.2.2.2.2.2.2.2.2.1, y18.2.2.2.2.2.2.2.2.2.2.2.2.2.2.2.2.1, y18.2.2.2.2.2.2.2.2.2.2.2.2.2.2.2.2.2.1)))) else none) else (some (.inr ((), ((v4, v5, v6, v7, v8, v9, v10, v11, v12, v13, v14, v15, v16, v17, ()), ()))))
def xc : JJ → Option (tp) := it (fun F => (fg (eo (dZ (C_ q_)))) (uk n F)) n
def CU : Loop := ⟨⟨dn 47 0 [(1, .obj 0), (8, .val eF), (9, .val cY), (10, .val cY)], [Aa]⟩, [(.ret, ⟨dn 47 0 [(2, .val cY)], [Aa]⟩), (.exit 0, ⟨dn 47 0 [], [Aa]⟩)], JJ, fun x => ((dF v_) x, (dD (ec (U_ u_))) x.2.2.2, ()), fun (x : ((dm × Int × Int × Unit) × (wb × Unit))) => (fX j_) x.1 ((dD (ec (U_ k_))) x.2.1), tp, fun y => y, fun y => y, xc n⟩
def yp (a0 : (wG × ol)) : Option Int := (xc n (a0.1.2.2.2.2.2.2, (a0.1.2.2.2.2.2.2.length : Int), 0, a0.1.1, a0.1.2.1, a0.1.2.2.1, a0.1.2.2.2.1, a0.1.2.2.2.2.1, a0.1.2.2.2.2.2.1, a0.1.2.2.2.2.2.2, a0.2.1, a0.2.2.1, a0.2.2.2.1, a0.2.2.2.2.1, a0.2.2.2.2.2.1, a0.2.2.2.2.2.2.1, a0.2.2.2.2.2.2.2)).bind fun y19 => ((Sum.elim (fun (z20 : (gX × (wb × Unit))) => (some z20.1.1)) (fun (z21 : (Unit × (wb × Unit))) => (some 0))) y19)
def HT : FS := ⟨⟨[.val (.pair Cv tm)], []⟩, ⟨[.val cY], []⟩, Int, fun y => ((y, ()), ()), fun o => o.1.1, fun x => yp n x.1.1⟩
theorem Kk : ∀ x, jc (Ny n) 14 98 0 1000013 (xb n) x = (xb n).fn x := fun x => by kernel_rfl
def xd : Cx := Cx.addLoop (Ny n) 98 1000013 (xb n)
theorem Kl : Good (xd n) := gC (QI n) 14 0 (by kernel_rfl) (Kk n) (fun _ => rfl) (fun _ => rfl) rfl
theorem Km : ∀ F x, dL (xd n) 14 98 0 2 (CU n) F x = (fg (eo (dZ (C_ q_)))) (uk n F) x := fun F x => by kernel_rfl
def xe : Cx := Cx.addLoop (xd n) 98 2 (CU n)
theorem Kn : Good (xe n) := Good.loop (Kl n) 14 0 (by kernel_rfl) (Km n) n (fun _ => rfl) (fun _ => rfl) (fun _ => rfl) rfl
theorem OZ : dw (xe n) 14 98 0 (HT n) := fun x => by kernel_rfl
def Nz : Cx := (Cx.bare (xe n)).addSpec 98 (HT n)
theorem QJ : Good (Nz n) := Good.fn (Kn n) 14 0 (OZ n) (fun _ => rfl) rfl
def lj (a0 : ol) (a1 : Int) : Option Int := (ry n (a0.1, (a0.2.1, (a0.2.2.1, (a0.2.2.2.1, (a0.2.2.2.2.1, (a0.2.2.2.2.2.1, a0.2.2.2.2.2.2))))))).bind fun y1 => (if (!y1) then (some 12) else (if (decide (a1 < 0)) then (some 14) else (if (decide (a1 ≥ (a0.2.2.2.2.2.2.length : Int))) then (some 14) else (if (decide (0 ≤ a1) && decide (a1 < (a0.2.2.2.2.2.2.length : Int))) then ((gQ n (((a0.2.2.2.2.2.2.getD a1.toNat (0, (0, (0, (0, ([], ([], []))))))).1, ((a0.2.2.2.2.2.2.getD a1.toNat (0, (0, (0, (0, ([], ([], []))))))).2.1, ((a0.2.2.2.2.2.2.getD a1.toNat (0, (0, (0, (0, ([], ([], []))))))).2.2.1, ((a0.2.2.2.2.2.2.getD a1.toNat (0, (0, (0, (0, ([], ([], []))))))).2.2.2.1, ((a0.2.2.2.2.2.2.getD a1.toNat (0, (0, (0, (0, ([], ([], []))))))).2.2.2.2.1, ((a0.2.2.2.2.2.2.getD a1.toNat (0, (0, (0, (0, ([], ([], []))))))).2.2.2.2.2.1, (a0.2.2.2.2.2.2.getD a1.toNat (0, (0, (0, (0, ([], ([], []))))))).2.2.2.2.2.2)))))), (a0.1, (a0.2.1, (a0.2.2.1, (a0.2.2.2.1, (a0.2.2.2.2.1, (a0.2.2.2.2.2.1, a0.2.2.2.2.2.2)))))))).bind fun y2 => (if (y2 != 0) then (some y2) else ((uf n (((a0.2.2.2.2.2.2.getD a1.toNat (0, (0, (0, (0, ([], ([], []))))))).1, ((a0.2.2.2.2.2.2.getD a1.toNat (0, (0, (0, (0, ([], ([], []))))))).2.1, ((a0.2.2.2.2.2.2.getD a1.toNat (0, (0, (0, (0, ([], ([], []))))))).2.2.1, ((a0.2.2.2.2.2.2.getD a1.toNat (0, (0, (0, (0, ([], ([], []))))))).2.2.2.1, ((a0.2.2.2.2.2.2.getD a1.toNat (0, (0, (0, (0, ([], ([], []))))))).2.2.2.2.1, ((a0.2.2.2.2.2.2.getD a1.toNat (0, (0, (0, (0, ([], ([], []))))))).2.2.2.2.2.1, (a0.2.2.2.2.2.2.getD a1.toNat (0, (0, (0, (0, ([], ([], []))))))).2.2.2.2.2.2)))))), (a0.1, (a0.2.1, (a0.2.2.1, (a0.2.2.2.1, (a0.2.2.2.2.1, (a0.2.2.2.2.2.1, a0.2.2.2.2.2.2)))))))).bind fun y3 => (if (y3 != 0) then (some y3) else ((yp n (((a0.2.2.2.2.2.2.getD a1.toNat (0, (0, (0, (0, ([], ([], []))))))).1, ((a0.2.2.2.2.2.2.getD a1.toNat (0, (0, (0, (0, ([], ([], []))))))).2.1, ((a0.2.2.2.2.2.2.getD a1.toNat (0, (0, (0, (0, ([], ([], []))))))).2.2.1, ((a0.2.2.2.2.2.2.getD a1.toNat (0, (0, (0, (0, ([], ([], []))))))).2.2.2.1, ((a0.2.2.2.2.2.2.getD a1.toNat (0, (0, (0, (0, ([], ([], []))))))).2.2.2.2.1, ((a0.2.2.2.2.2.2.getD a1.toNat (0, (0, (0, (0, ([], ([], []))))))).2.2.2.2.2.1, (a0.2.2.2.2.2.2.getD a1.toNat (0, (0, (0, (0, ([], ([], []))))))).2.2.2.2.2.2)))))), (a0.1, (a0.2.1, (a0.2.2.1, (a0.2.2.2.1, (a0.2.2.2.2.1, (a0.2.2.2.2.2.1, a0.2.2.2.2.2.2)))))))).bind fun y4 => (if (y4 != 0) then (some y4) else (some 0))))))) else none))))
def sg : FS := ⟨⟨[.val tm, .val cY], []⟩, ⟨[.val cY], []⟩, Int, fun y => ((y, ()), ()), fun o => o.1.1, fun x => lj n x.1.1 x.1.2.1⟩
theorem CV : dw (Nz n) 14 50 0 (sg n) := fun x => by kernel_rfl
def NA : Cx := (Cx.bare (Nz n)).addSpec 50 (sg n)
theorem QK : Good (NA n) := Good.fn (QJ n) 14 0 (CV n) (fun _ => rfl) rfl
def lk (F : rl → Option ((tu ⊕ (Unit × jJ)))) (v2 v3 v4 v5 v6 v7 : Int) (v8 : (List Int)) (v9 : (List (List Int))) (v10 : da) : Option ((tu ⊕ (Unit × jJ))) := if (decide (v3 < v2)) then ((lj n (v4, (v5, (v6, (v7, (v8, (v9, v10)))))) v3).bind fun y11 => (if (y11 != 0) then (some (.inl ((v3, y11, ()), ((v4, v5, v6, v7, v8, v9, v10, ()), ())))) else (F (v2, (wrap .i64 (v3 + 1)), v4, v5, v6, v7, v8, v9, v10)))) else (some (.inr ((), ((v4, v5, v6, v7, v8, v9, v10, ()), ()))))
def lZ : rl → Option ((tu ⊕ (Unit × jJ))) := it (fun F => (eo (dZ (C_ q_))) (lk n F)) n
def pX : Loop := ⟨⟨dn 23 0 [(1, .obj 0), (11, .val cY), (12, .val cY)], [iR]⟩, [(.ret, ⟨dn 23 0 [(2, .val cY), (3, .val cY)], [iR]⟩), (.exit 0, ⟨dn 23 0 [], [iR]⟩)], rl, fun x => ((U_ v_) x, (ec (dF u_)) x.2.2, ()), fun (x : tu) => (J_ j_) x.1 ((ec (dF k_)) x.2.1), (tu ⊕ (Unit × jJ)), fun y => y, fun y => y, lZ n⟩
def mA (a0 : ol) : Option gL := (ry n (a0.1, (a0.2.1, (a0.2.2.1, (a0.2.2.2.1, (a0.2.2.2.2.1, (a0.2.2.2.2.2.1, a0.2.2.2.2.2.2))))))).bind fun y1 => (if (!y1) then (some ((-1), 12)) else ((lZ n ((a0.2.2.2.2.2.2.length : Int), 0, a0.1, a0.2.1, a0.2.2.1, a0.2.2.2.1, a0.2.2.2.2.1, a0.2.2.2.2.2.1, a0.2.2.2.2.2.2)).bind fun y12 => ((Sum.elim (fun (z13 : tu) => (some (z13.1.1, z13.1.2.1))) (fun (z14 : (Unit × jJ)) => (some ((-1), 0)))) y12)))
def ul : FS := ⟨⟨[.val tm], []⟩, ⟨oj, []⟩, gL, fun y => ((U_ u_) y, ()), fun o => (o.1.1, o.1.2.1), fun x => mA n x.1.1⟩
theorem zo : ∀ F x, dL (NA n) 14 33 0 4 (pX n) F x = (eo (dZ (C_ q_))) (lk n F) x := fun F x => by kernel_rfl
def l3 : Cx := Cx.addLoop (NA n) 33 4 (pX n)
theorem zp : Good (l3 n) := Good.loop (QK n) 14 0 (by kernel_rfl) (zo n) n (fun _ => rfl) (fun _ => rfl) (fun _ => rfl) rfl
theorem D7 : dw (l3 n) 14 33 0 (ul n) := fun x => by kernel_rfl
def NB : Cx := (Cx.bare (l3 n)).addSpec 33 (ul n)
theorem QL : Good (NB n) := Good.fn (zp n) 14 0 (D7 n) (fun _ => rfl) rfl
def jA (v1 : dm) (v2 : (List di)) : Option (Nat × Int × (List di)) := (mQ n v1).bind fun y3 => (if (y3.2 != 0) then (some ((0 : Nat), y3.2, v2)) else ((rn n v1).bind fun y4 => (if (y4.2 != 0) then (some ((0 : Nat), y4.2, v2)) else ((gZ n v1).bind fun y5 => (if (decide (0 = 0) && decide (0 = 0) && decide (v1.length * 24 ≤ 140737488355328) && decide (1 ≤ 24)) then (some ((v2.length + 1), 0, (v2 ++ [(v1, y5.1, [0, 0, 0, 0, 0, 0, 0, 0], false, 0, [], [0, 0, 0, 0, 0, 0, 0, 0], [0, 0, 0, 0, 0, 0, 0, 0, 0, 0, 0, 0, 0, 0, 0, 0], [0, 0, 0, 0, 0, 0, 0, 0, 0, 0, 0, 0, 0, 0, 0, 0], 0, [], 0, 0, 0, ())]))) else none)))))
def wi : FS := ⟨⟨[.val eF], [[.fam 120 dT]]⟩, ⟨[.val (.fp 120), .val cY], [[.fam 120 dT]]⟩, (Nat × Int × (List di)), fun y => ((U_ v_) y, (y.2.2, ()), ()), fun (o : ((Nat × Int × Unit) × ng)) => (o.1.1, o.1.2.1, o.2.1.1), fun (x : ((dm × Unit) × ng)) => jA n x.1.1 x.2.1.1⟩
theorem F8 : mu (NB n) 14 25 0 (wi n) false 0 120 dT true := fun x => by kernel_rfl
def NC : Cx := (Cx.bare (NB n)).addSpec 25 (wi n)
theorem QM : Good (NC n) := je (QL n) 14 0 false 0 120 dT true (F8 n) (fun _ => rfl) rfl (by decide) rfl
def gD (n : Nat) (v1 : (List Int)) (v2 : dm) (v3 v4 : (List Int)) (v5 : Bool) (v6 : Int) (v7 v8 v9 v10 : (List Int)) (v11 : Int) (v12 : (List Int)) (v13 v14 v15 : Int) : Option FU := if (!(decide ((v2.length : Int) > 0))) then (some (15, v2, v3, v4, v5, v6, v7, v8, v9, v10, v11, v12, v13, v14, v15)) else (if v5 then (some (16, v2, v3, v4, v5, v6, v7, v8, v9, v10, v11, v12, v13, v14, v15)) else (some (0, v2, v3, v4, true, 0, [], [0, 0, 0, 0, 0, 0, 0, 0], v1, [0, 0, 0, 0, 0, 0, 0, 0, 0, 0, 0, 0, 0, 0, 0, 0], 0, [], 0, 0, 0)))
def lH : FS := ⟨⟨[.obj 0, .val la], [nl]⟩, ⟨[.val cY], [nl]⟩, FU, fun y => ((y.1, ()), (dD (ec (U_ u_))) y.2, ()), fun (o : (gX × nh)) => (o.1.1, ((dD (ec (U_ k_))) o.2.1)), fun (x : (kh × nh)) => gD n x.1.1 x.2.1.1 x.2.1.2.1 x.2.1.2.2.1 x.2.1.2.2.2.1 x.2.1.2.2.2.2.1 x.2.1.2.2.2.2.2.1 x.2.1.2.2.2.2.2.2.1 x.2.1.2.2.2.2.2.2.2.1 x.2.1.2.2.2.2.2.2.2.2.1 x.2.1.2.2.2.2.2.2.2.2.2.1 x.2.1.2.2.2.2.2.2.2.2.2.2.1 x.2.1.2.2.2.2.2.2.2.2.2.2.2.1 x.2.1.2.2.2.2.2.2.2.2.2.2.2.2.1 x.2.1.2.2.2.2.2.2.2.2.2.2.2.2.2.1⟩
theorem um : dw (NC n) 14 26 0 (lH n) := fun x => by kernel_rfl
def ND : Cx := (Cx.bare (NC n)).addSpec 26 (lH n)
theorem QN : Good (ND n) := Good.fn (QM n) 14 0 (um n) (fun _ => rfl) rfl
def fw (v1 : Nat) (v2 : (List Int)) (v3 : (List di)) : Option (Int × (List di)) := jd v3 v1 fun m4 => ((gD n v2 m4.1 m4.2.1 m4.2.2.1 m4.2.2.2.1 m4.2.2.2.2.1 m4.2.2.2.2.2.1 m4.2.2.2.2.2.2.1 m4.2.2.2.2.2.2.2.1 m4.2.2.2.2.2.2.2.2.1 m4.2.2.2.2.2.2.2.2.2.1 m4.2.2.2.2.2.2.2.2.2.2.1 m4.2.2.2.2.2.2.2.2.2.2.2.1 m4.2.2.2.2.2.2.2.2.2.2.2.2.1 m4.2.2.2.2.2.2.2.2.2.2.2.2.2.1).bind fun y5 => (some (y5.1, (v3.set (v1 - 1) (y5.2.1, y5.2.2.1, y5.2.2.2.1, y5.2.2.2.2.1, y5.2.2.2.2.2.1, y5.2.2.2.2.2.2.1, y5.2.2.2.2.2.2.2.1, y5.2.2.2.2.2.2.2.2.1, y5.2.2.2.2.2.2.2.2.2.1, y5.2.2.2.2.2.2.2.2.2.2.1, y5.2.2.2.2.2.2.2.2.2.2.2.1, y5.2.2.2.2.2.2.2.2.2.2.2.2.1, y5.2.2.2.2.2.2.2.2.2.2.2.2.2.1, y5.2.2.2.2.2.2.2.2.2.2.2.2.2.2, ())))))
def kC : FS := ⟨⟨[.val (.fp 120), .val la], [[.fam 120 dT]]⟩, ⟨[.val cY], [[.fam 120 dT]]⟩, (Int × (List di)), fun y => ((y.1, ()), (y.2, ()), ()), fun (o : (gX × ng)) => (o.1.1, o.2.1.1), fun (x : ((Nat × (List Int) × Unit) × ng)) => fw n x.1.1 x.1.2.1 x.2.1.1⟩
theorem rz : mu (ND n) 14 26 0 (kC n) true 0 120 dT false := fun x => by kernel_rfl
def NE : Cx := (Cx.bare (ND n)).addSpec 26 (kC n)
theorem QO : Good (NE n) := je (QN n) 14 0 true 0 120 dT false (rz n) (fun _ => rfl) rfl (by decide) rfl
def dU (n : Nat) (v1 : dm) (v2 v3 : (List Int)) (v4 : Bool) (v5 : Int) (v6 v7 v8 v9 : (List Int)) (v10 : Int) (v11 : (List Int)) (v12 v13 v14 : Int) : Option FU := if (decide (0 ≤ (wrap .i64 ((v6.length : Int) - 1))) && decide ((wrap .i64 ((v6.length : Int) - 1)) < (v6.length : Int))) then (if (decide (0 ≤ (wrap .i64 ((v6.length : Int) - 1))) && decide ((wrap .i64 ((v6.length : Int) - 1)) ≤ (v6.length : Int))) then (some ((v6.getD ((wrap .i64 ((v6.length : Int) - 1))).toNat 0), v1, v2, v3, v4, v5, (v6.take (((wrap .i64 ((v6.length : Int) - 1))).toNat - 0)), v7, v8, v9, v10, v11, v12, v13, v14)) else none) else none
def EM : FS := ⟨⟨[.obj 0], [nl]⟩, ⟨[.val cY], [nl]⟩, FU, fun y => ((y.1, ()), (dD (ec (U_ u_))) y.2, ()), fun (o : (gX × nh)) => (o.1.1, ((dD (ec (U_ k_))) o.2.1)), fun (x : (Unit × nh)) => dU n x.2.1.1 x.2.1.2.1 x.2.1.2.2.1 x.2.1.2.2.2.1 x.2.1.2.2.2.2.1 x.2.1.2.2.2.2.2.1 x.2.1.2.2.2.2.2.2.1 x.2.1.2.2.2.2.2.2.2.1 x.2.1.2.2.2.2.2.2.2.2.1 x.2.1.2.2.2.2.2.2.2.2.2.1 x.2.1.2.2.2.2.2.2.2.2.2.2.1 x.2.1.2.2.2.2.2.2.2.2.2.2.2.1 x.2.1.2.2.2.2.2.2.2.2.2.2.2.2.1 x.2.1.2.2.2.2.2.2.2.2.2.2.2.2.2.1⟩
theorem NF : dw (NE n) 14 122 0 (EM n) := fun x => by kernel_rfl
def NG : Cx := (Cx.bare (NE n)).addSpec 122 (EM n)
theorem QP : Good (NG n) := Good.fn (QO n) 14 0 (NF n) (fun _ => rfl) rfl
def gE (n : Nat) (a0 : Bool) : Option Int := if a0 then (some 1) else (some 0)
def wj : FS := ⟨⟨[.val .bool], []⟩, ⟨[.val cY], []⟩, Int, fun y => ((y, ()), ()), fun o => o.1.1, fun x => gE n x.1.1⟩
theorem F9 : dw (NG n) 14 124 0 (wj n) := fun x => by kernel_rfl
def NH : Cx := (Cx.bare (NG n)).addSpec 124 (wj n)
theorem QQ : Good (NH n) := Good.fn (QP n) 14 0 (F9 n) (fun _ => rfl) rfl
def mW (a0 : Int) : Option Int := (gE n (a0 == 0)).bind fun y1 => (some y1)
def yq : FS := ⟨⟨[.val cY], []⟩, ⟨[.val cY], []⟩, Int, fun y => ((y, ()), ()), fun o => o.1.1, fun x => mW n x.1.1⟩
theorem HU : dw (NH n) 14 126 0 (yq n) := fun x => by kernel_rfl
def NI : Cx := (Cx.bare (NH n)).addSpec 126 (yq n)
theorem QS : Good (NI n) := Good.fn (QQ n) 14 0 (HU n) (fun _ => rfl) rfl
def oZ (n : Nat) (a0 : Int) : Option Int := some (wrap .i64 (0 - a0))
def yr : FS := ⟨⟨[.val cY], []⟩, ⟨[.val cY], []⟩, Int, fun y => ((y, ()), ()), fun o => o.1.1, fun x => oZ n x.1.1⟩
theorem HV : dw (NI n) 14 125 0 (yr n) := fun x => by kernel_rfl
def NJ : Cx := (Cx.bare (NI n)).addSpec 125 (yr n)
theorem QT : Good (NJ n) := Good.fn (QS n) 14 0 (HV n) (fun _ => rfl) rfl
def pY (a0 : Int) (a1 : Int) : Option Int := (gE n (a0 == a1)).bind fun y1 => (some y1)
def o6 : FS := ⟨⟨oj, []⟩, ⟨[.val cY], []⟩, Int, fun y => ((y, ()), ()), fun o => o.1.1, fun x => pY n x.1.1 x.1.2.1⟩
theorem zt : dw (NJ n) 14 166 0 (o6 n) := fun x => by kernel_rfl
def NK : Cx := (Cx.bare (NJ n)).addSpec 166 (o6 n)
theorem QU : Good (NK n) := Good.fn (QT n) 14 0 (zt n) (fun _ => rfl) rfl
def si (a0 : Int) (a1 : Int) : Option Int := (gE n (decide (a0 < a1))).bind fun y1 => (some y1)
def pZ : FS := ⟨⟨oj, []⟩, ⟨[.val cY], []⟩, Int, fun y => ((y, ()), ()), fun o => o.1.1, fun x => si n x.1.1 x.1.2.1⟩
theorem Bc : dw (NK n) 14 165 0 (pZ n) := fun x => by kernel_rfl
def NL : Cx := (Cx.bare (NK n)).addSpec 165 (pZ n)
theorem QV : Good (NL n) := Good.fn (QU n) 14 0 (Bc n) (fun _ => rfl) rfl
def sj (n : Nat) (a0 : Int) (a1 : Int) : Option Int := if decide ((bits .and .i64 a1 63) < 0) then none else (some (a0.fdiv (2 ^ (min ((bits .and .i64 a1 63)).toNat 64))))
def p6 : FS := ⟨⟨oj, []⟩, ⟨[.val cY], []⟩, Int, fun y => ((y, ()), ()), fun o => o.1.1, fun x => sj n x.1.1 x.1.2.1⟩
theorem Bd : dw (NL n) 14 164 0 (p6 n) := fun x => by kernel_rfl
def NM : Cx := (Cx.bare (NL n)).addSpec 164 (p6 n)
theorem QW : Good (NM n) := Good.fn (QV n) 14 0 (Bd n) (fun _ => rfl) rfl
def sk (n : Nat) (a0 : Int) (a1 : Int) : Option Int := if decide ((bits .and .i64 a1 63) < 0) then none else (some (wrap .i64 (a0 * 2 ^ (min ((bits .and .i64 a1 63)).toNat 64))))
def p7 : FS := ⟨⟨oj, []⟩, ⟨[.val cY], []⟩, Int, fun y => ((y, ()), ()), fun o => o.1.1, fun x => sk n x.1.1 x.1.2.1⟩
theorem Be : dw (NM n) 14 163 0 (p7 n) := fun x => by kernel_rfl
def NN : Cx := (Cx.bare (NM n)).addSpec 163 (p7 n)
theorem QX : Good (NN n) := Good.fn (QW n) 14 0 (Be n) (fun _ => rfl) rfl
def sm (n : Nat) (a0 : Int) (a1 : Int) : Option Int := some (bits .xor .i64 a0 a1)
def p8 : FS := ⟨⟨oj, []⟩, ⟨[.val cY], []⟩, Int, fun y => ((y, ()), ()), fun o => o.1.1, fun x => sm n x.1.1 x.1.2.1⟩
theorem Bf : dw (NN n) 14 162 0 (p8 n) := fun x => by kernel_rfl
def NO : Cx := (Cx.bare (NN n)).addSpec 162 (p8 n)
theorem QY : Good (NO n) := Good.fn (QX n) 14 0 (Bf n) (fun _ => rfl) rfl
def sn (n : Nat) (a0 : Int) (a1 : Int) : Option Int := some (bits .or .i64 a0 a1)
def p9 : FS := ⟨⟨oj, []⟩, ⟨[.val cY], []⟩, Int, fun y => ((y, ()), ()), fun o => o.1.1, fun x => sn n x.1.1 x.1.2.1⟩
theorem Bg : dw (NO n) 14 161 0 (p9 n) := fun x => by kernel_rfl
def NP : Cx := (Cx.bare (NO n)).addSpec 161 (p9 n)
theorem QZ : Good (NP n) := Good.fn (QY n) 14 0 (Bg n) (fun _ => rfl) rfl
def sq (n : Nat) (a0 : Int) (a1 : Int) : Option Int := some (bits .and .i64 a0 a1)
def qa : FS := ⟨⟨oj, []⟩, ⟨[.val cY], []⟩, Int, fun y => ((y, ()), ()), fun o => o.1.1, fun x => sq n x.1.1 x.1.2.1⟩
theorem Bh : dw (NP n) 14 160 0 (qa n) := fun x => by kernel_rfl
def NQ : Cx := (Cx.bare (NP n)).addSpec 160 (qa n)
theorem Q0 : Good (NQ n) := Good.fn (QZ n) 14 0 (Bh n) (fun _ => rfl) rfl
def sr (n : Nat) (a0 : Int) (a1 : Int) : Option Int := some (wrap .i64 (a0 * a1))
def qc : FS := ⟨⟨oj, []⟩, ⟨[.val cY], []⟩, Int, fun y => ((y, ()), ()), fun o => o.1.1, fun x => sr n x.1.1 x.1.2.1⟩
theorem Bi : dw (NQ n) 14 159 0 (qc n) := fun x => by kernel_rfl
def NR : Cx := (Cx.bare (NQ n)).addSpec 159 (qc n)
theorem Q1 : Good (NR n) := Good.fn (Q0 n) 14 0 (Bi n) (fun _ => rfl) rfl
def ss (n : Nat) (a0 : Int) (a1 : Int) : Option Int := some (wrap .i64 (a0 - a1))
def qd : FS := ⟨⟨oj, []⟩, ⟨[.val cY], []⟩, Int, fun y => ((y, ()), ()), fun o => o.1.1, fun x => ss n x.1.1 x.1.2.1⟩
theorem Bj : dw (NR n) 14 158 0 (qd n) := fun x => by kernel_rfl
def NS : Cx := (Cx.bare (NR n)).addSpec 158 (qd n)
theorem Q2 : Good (NS n) := Good.fn (Q1 n) 14 0 (Bj n) (fun _ => rfl) rfl
def su (n : Nat) (a0 : Int) (a1 : Int) : Option Int := some (wrap .i64 (a0 + a1))
def qe : FS := ⟨⟨oj, []⟩, ⟨[.val cY], []⟩, Int, fun y => ((y, ()), ()), fun o => o.1.1, fun x => su n x.1.1 x.1.2.1⟩
theorem Bk : dw (NS n) 14 157 0 (qe n) := fun x => by kernel_rfl
def NT : Cx := (Cx.bare (NS n)).addSpec 157 (qe n)
theorem Q3 : Good (NT n) := Good.fn (Q2 n) 14 0 (Bk n) (fun _ => rfl) rfl
def ed (a0 : Int) (a1 : Int) (a2 : Int) : Option (Int × Bool) := if ((a0 == 12) || false) then ((pY n a1 a2).bind fun y1 => (some (y1, false))) else (if ((a0 == 11) || false) then ((si n a1 a2).bind fun y2 => (some (y2, false))) else (if ((a0 == 10) || false) then ((sj n a1 a2).bind fun y3 => (some (y3, false))) else (if ((a0 == 9) || false) then ((sk n a1 a2).bind fun y4 => (some (y4, false))) else (if ((a0 == 8) || false) then ((sm n a1 a2).bind fun y5 => (some (y5, false))) else (if ((a0 == 7) || false) then ((sn n a1 a2).bind fun y6 => (some (y6, false))) else (if ((a0 == 6) || false) then ((sq n a1 a2).bind fun y7 => (some (y7, false))) else (if ((a0 == 3) || false) then ((sr n a1 a2).bind fun y8 => (some (y8, false))) else (if ((a0 == 2) || false) then ((ss n a1 a2).bind fun y9 => (some (y9, false))) else (if ((a0 == 1) || false) then ((su n a1 a2).bind fun y10 => (some (y10, false))) else (if (a2 == 0) then (some (0, true)) else (if (a0 == 4) then (if (a2 == 0) then none else (some ((wrap .i64 (a1.tdiv a2)), false))) else (if (a0 == 5) then (if (a2 == 0) then none else (some ((a1.tmod a2), false))) else (some (0, true))))))))))))))
def yt : FS := ⟨⟨lF, []⟩, ⟨[.val cY, .val .bool], []⟩, (Int × Bool), fun y => ((U_ u_) y, ()), fun o => (o.1.1, o.1.2.1), fun x => ed n x.1.1 x.1.2.1 x.1.2.2.1⟩
theorem HX : dw (NT n) 14 123 0 (yt n) := fun x => by kernel_rfl
def NU : Cx := (Cx.bare (NT n)).addSpec 123 (yt n)
theorem Q4 : Good (NU n) := Good.fn (Q3 n) 14 0 (HX n) (fun _ => rfl) rfl
def eB {β : Type} (n : Nat) (v1 : dm) (v2 v3 : (List Int)) (v4 : Bool) (v5 : Int) (v6 v7 v8 v9 : (List Int)) (v10 : Int) (v11 : (List Int)) (v12 v13 v14 : Int) (v23 : (List (List Int))) (κ : gL → Int → dm → (List Int) → (List Int) → Bool → Int → (List Int) → (List Int) → (List Int) → (List Int) → Int → (List Int) → Int → Int → Int → (List (List Int)) → Option β) : Option β := if (!(decide ((v1.length : Int) > 0))) then (κ (0, 0) 15 v1 v2 v3 v4 v5 v6 v7 v8 v9 v10 v11 v12 v13 v14 v23) else (if (!v4) then (κ (0, 0) 16 v1 v2 v3 v4 v5 v6 v7 v8 v9 v10 v11 v12 v13 v14 v23) else (if (decide (0 ≤ v5) && decide (v5 < (v1.length : Int))) then (if (((v1.getD v5.toNat (0, (0, 0))).1 == 25) || false) then (κ (3, 0) 0 v1 v2 v3 false (wrap .i64 (v5 + 1)) v6 v7 v8 v9 v10 v11 v12 v13 (wrap .i64 (v14 + 1)) v23) else (if (((v1.getD v5.toNat (0, (0, 0))).1 == 24) || false) then (if decide ((v1.getD v5.toNat (0, (0, 0))).2.1 < 0) then none else (κ (2, (v1.getD v5.toNat (0, (0, 0))).2.1) 0 v1 v2 v3 v4 (wrap .i64 (v5 + 1)) v6 v7 v8 v9 v10 v11 (bits .andNot .i64 v12 (wrap .i64 (1 * 2 ^ (min ((v1.getD v5.toNat (0, (0, 0))).2.1).toNat 64)))) v13 (wrap .i64 (v14 + 1)) v23)) else (if (((v1.getD v5.toNat (0, (0, 0))).1 == 23) || false) then (if decide ((v1.getD v5.toNat (0, (0, 0))).2.1 < 0) then none else (κ (1, (v1.getD v5.toNat (0, (0, 0))).2.1) 0 v1 v2 v3 v4 (wrap .i64 (v5 + 1)) v6 v7 v8 v9 v10 v11 (bits .or .i64 v12 (wrap .i64 (1 * 2 ^ (min ((v1.getD v5.toNat (0, (0, 0))).2.1).toNat 64)))) v13 (wrap .i64 (v14 + 1)) v23)) else (if (((v1.getD v5.toNat (0, (0, 0))).1 == 22) || false) then (if (decide (0 ≤ (wrap .i64 ((v11.length : Int) - 1))) && decide ((wrap .i64 ((v11.length : Int) - 1)) < (v11.length : Int))) then (if (decide (0 ≤ (wrap .i64 ((v11.length : Int) - 1))) && decide ((wrap .i64 ((v11.length : Int) - 1)) < (v11.length : Int))) then (if (decide (0 ≤ (wrap .i64 ((v11.length : Int) - 1))) && decide ((wrap .i64 ((v11.length : Int) - 1)) < (((v11.set ((wrap .i64 ((v11.length : Int) - 1))).toNat (wrap .i64 ((v11.getD ((wrap .i64 ((v11.length : Int) - 1))).toNat 0) - 1))).length : Nat) : Int))) then (if (decide (((v11.set ((wrap .i64 ((v11.length : Int) - 1))).toNat (wrap .i64 ((v11.getD ((wrap .i64 ((v11.length : Int) - 1))).toNat 0) - 1))).getD ((wrap .i64 ((v11.length : Int) - 1))).toNat 0) > 0)) then (if (decide (0 ≤ v5) && decide (v5 < (v2.length : Int))) then (κ (0, 0) 0 v1 v2 v3 v4 (wrap .i64 ((v2.getD v5.toNat 0) + 1)) v6 v7 v8 v9 v10 (v11.set ((wrap .i64 ((v11.length : Int) - 1))).toNat (wrap .i64 ((v11.getD ((wrap .i64 ((v11.length : Int) - 1))).toNat 0) - 1))) v12 v13 (wrap .i64 (v14 + 1)) v23) else none) else (if (decide (0 ≤ (wrap .i64 ((v11.length : Int) - 1))) && decide ((wrap .i64 ((v11.length : Int) - 1)) ≤ (((v11.set ((wrap .i64 ((v11.length : Int) - 1))).toNat (wrap .i64 ((v11.getD ((wrap .i64 ((v11.length : Int) - 1))).toNat 0) - 1))).length : Nat) : Int))) then (κ (0, 0) 0 v1 v2 v3 v4 (wrap .i64 (v5 + 1)) v6 v7 v8 v9 v10 ((v11.set ((wrap .i64 ((v11.length : Int) - 1))).toNat (wrap .i64 ((v11.getD ((wrap .i64 ((v11.length : Int) - 1))).toNat 0) - 1))).take (((wrap .i64 ((v11.length : Int) - 1))).toNat - 0)) v12 v13 (wrap .i64 (v14 + 1)) v23) else none)) else none) else none) else none) else (if (((v1.getD v5.toNat (0, (0, 0))).1 == 21) || false) then (if (decide ((v11.length + 1) * 8 ≤ 140737488355328) && decide (1 ≤ 8)) then (κ (0, 0) 0 v1 v2 v3 v4 (wrap .i64 (v5 + 1)) v6 v7 v8 v9 v10 (v11 ++ [(v1.getD v5.toNat (0, (0, 0))).2.1]) v12 v13 (wrap .i64 (v14 + 1)) v23) else none) else (if (((v1.getD v5.toNat (0, (0, 0))).1 == 20) || false) then ((dU n v1 v2 v3 v4 v5 v6 v7 v8 v9 v10 v11 v12 v13 v14).bind fun y25 => (if (y25.1 == 0) then (κ (0, 0) 0 y25.2.1 y25.2.2.1 y25.2.2.2.1 y25.2.2.2.2.1 (wrap .i64 ((wrap .i64 (v5 + 1)) + (v1.getD v5.toNat (0, (0, 0))).2.1)) y25.2.2.2.2.2.2.1 y25.2.2.2.2.2.2.2.1 y25.2.2.2.2.2.2.2.2.1 y25.2.2.2.2.2.2.2.2.2.1 y25.2.2.2.2.2.2.2.2.2.2.1 y25.2.2.2.2.2.2.2.2.2.2.2.1 y25.2.2.2.2.2.2.2.2.2.2.2.2.1 y25.2.2.2.2.2.2.2.2.2.2.2.2.2.1 (wrap .i64 (y25.2.2.2.2.2.2.2.2.2.2.2.2.2.2 + 1)) v23) else (κ (0, 0) 0 y25.2.1 y25.2.2.1 y25.2.2.2.1 y25.2.2.2.2.1 (wrap .i64 (v5 + 1)) y25.2.2.2.2.2.2.1 y25.2.2.2.2.2.2.2.1 y25.2.2.2.2.2.2.2.2.1 y25.2.2.2.2.2.2.2.2.2.1 y25.2.2.2.2.2.2.2.2.2.2.1 y25.2.2.2.2.2.2.2.2.2.2.2.1 y25.2.2.2.2.2.2.2.2.2.2.2.2.1 y25.2.2.2.2.2.2.2.2.2.2.2.2.2.1 (wrap .i64 (y25.2.2.2.2.2.2.2.2.2.2.2.2.2.2 + 1)) v23))) else (if (((v1.getD v5.toNat (0, (0, 0))).1 == 19) || false) then (κ (0, 0) 0 v1 v2 v3 v4 (wrap .i64 ((wrap .i64 (v5 + 1)) + (v1.getD v5.toNat (0, (0, 0))).2.1)) v6 v7 v8 v9 v10 v11 v12 v13 (wrap .i64 (v14 + 1)) v23) else (if (((v1.getD v5.toNat (0, (0, 0))).1 == 18) || false) then ((dU n v1 v2 v3 v4 v5 v6 v7 v8 v9 v10 v11 v12 v13 v14).bind fun y26 => (if (decide (0 ≤ (v1.getD v5.toNat (0, (0, 0))).2.1) && decide ((v1.getD v5.toNat (0, (0, 0))).2.1 < 8)) then (if (decide (0 ≤ (v1.getD v5.toNat (0, (0, 0))).2.2) && decide ((v1.getD v5.toNat (0, (0, 0))).2.2 < 8)) then (κ (0, 0) 0 y26.2.1 y26.2.2.1 y26.2.2.2.1 y26.2.2.2.2.1 (wrap .i64 (v5 + 1)) y26.2.2.2.2.2.2.1 y26.2.2.2.2.2.2.2.1 y26.2.2.2.2.2.2.2.2.1 y26.2.2.2.2.2.2.2.2.2.1 y26.2.2.2.2.2.2.2.2.2.2.1 y26.2.2.2.2.2.2.2.2.2.2.2.1 y26.2.2.2.2.2.2.2.2.2.2.2.2.1 y26.2.2.2.2.2.2.2.2.2.2.2.2.2.1 (wrap .i64 (y26.2.2.2.2.2.2.2.2.2.2.2.2.2.2 + 1)) (v23.set ((v1.getD v5.toNat (0, (0, 0))).2.1).toNat ((v23.getD ((v1.getD v5.toNat (0, (0, 0))).2.1).toNat [0, 0, 0, 0, 0, 0, 0, 0]).set ((v1.getD v5.toNat (0, (0, 0))).2.2).toNat y26.1))) else none) else none)) else (if (((v1.getD v5.toNat (0, (0, 0))).1 == 17) || false) then (if (decide (0 ≤ (v1.getD v5.toNat (0, (0, 0))).2.1) && decide ((v1.getD v5.toNat (0, (0, 0))).2.1 < 8)) then (if (decide (0 ≤ (v1.getD v5.toNat (0, (0, 0))).2.2) && decide ((v1.getD v5.toNat (0, (0, 0))).2.2 < 8)) then (if (decide ((v6.length + 1) * 8 ≤ 140737488355328) && decide (1 ≤ 8)) then (κ (0, 0) 0 v1 v2 v3 v4 (wrap .i64 (v5 + 1)) (v6 ++ [((v23.getD ((v1.getD v5.toNat (0, (0, 0))).2.1).toNat [0, 0, 0, 0, 0, 0, 0, 0]).getD ((v1.getD v5.toNat (0, (0, 0))).2.2).toNat 0)]) v7 v8 v9 v10 v11 v12 v13 (wrap .i64 (v14 + 1)) v23) else none) else none) else none) else (if (((v1.getD v5.toNat (0, (0, 0))).1 == 16) || false) then ((dU n v1 v2 v3 v4 v5 v6 v7 v8 v9 v10 v11 v12 v13 v14).bind fun y27 => (if (decide (0 ≤ (v1.getD v5.toNat (0, (0, 0))).2.1) && decide ((v1.getD v5.toNat (0, (0, 0))).2.1 < 16)) then (if decide ((v1.getD v5.toNat (0, (0, 0))).2.1 < 0) then none else (κ (0, 0) 0 y27.2.1 y27.2.2.1 y27.2.2.2.1 y27.2.2.2.2.1 (wrap .i64 (v5 + 1)) y27.2.2.2.2.2.2.1 y27.2.2.2.2.2.2.2.1 y27.2.2.2.2.2.2.2.2.1 (y27.2.2.2.2.2.2.2.2.2.1.set ((v1.getD v5.toNat (0, (0, 0))).2.1).toNat y27.1) (bits .or .i64 y27.2.2.2.2.2.2.2.2.2.2.1 (wrap .i64 (1 * 2 ^ (min ((v1.getD v5.toNat (0, (0, 0))).2.1).toNat 64)))) y27.2.2.2.2.2.2.2.2.2.2.2.1 y27.2.2.2.2.2.2.2.2.2.2.2.2.1 y27.2.2.2.2.2.2.2.2.2.2.2.2.2.1 (wrap .i64 (y27.2.2.2.2.2.2.2.2.2.2.2.2.2.2 + 1)) v23)) else none)) else (if (((v1.getD v5.toNat (0, (0, 0))).1 == 15) || false) then (if (decide (0 ≤ (v1.getD v5.toNat (0, (0, 0))).2.1) && decide ((v1.getD v5.toNat (0, (0, 0))).2.1 < 16)) then (if (decide ((v6.length + 1) * 8 ≤ 140737488355328) && decide (1 ≤ 8)) then (κ (0, 0) 0 v1 v2 v3 v4 (wrap .i64 (v5 + 1)) (v6 ++ [(v8.getD ((v1.getD v5.toNat (0, (0, 0))).2.1).toNat 0)]) v7 v8 v9 v10 v11 v12 v13 (wrap .i64 (v14 + 1)) v23) else none) else none) else (if (((v1.getD v5.toNat (0, (0, 0))).1 == 14) || false) then ((dU n v1 v2 v3 v4 v5 v6 v7 v8 v9 v10 v11 v12 v13 v14).bind fun y28 => (if (decide (0 ≤ (v1.getD v5.toNat (0, (0, 0))).2.1) && decide ((v1.getD v5.toNat (0, (0, 0))).2.1 < 8)) then (κ (0, 0) 0 y28.2.1 y28.2.2.1 (y28.2.2.2.1.set ((v1.getD v5.toNat (0, (0, 0))).2.1).toNat y28.1) y28.2.2.2.2.1 (wrap .i64 (v5 + 1)) y28.2.2.2.2.2.2.1 y28.2.2.2.2.2.2.2.1 y28.2.2.2.2.2.2.2.2.1 y28.2.2.2.2.2.2.2.2.2.1 y28.2.2.2.2.2.2.2.2.2.2.1 y28.2.2.2.2.2.2.2.2.2.2.2.1 y28.2.2.2.2.2.2.2.2.2.2.2.2.1 y28.2.2.2.2.2.2.2.2.2.2.2.2.2.1 (wrap .i64 (y28.2.2.2.2.2.2.2.2.2.2.2.2.2.2 + 1)) v23) else none)) else (if (((v1.getD v5.toNat (0, (0, 0))).1 == 13) || false) then (if (decide (0 ≤ (v1.getD v5.toNat (0, (0, 0))).2.1) && decide ((v1.getD v5.toNat (0, (0, 0))).2.1 < 8)) then (if (decide ((v6.length + 1) * 8 ≤ 140737488355328) && decide (1 ≤ 8)) then (κ (0, 0) 0 v1 v2 v3 v4 (wrap .i64 (v5 + 1)) (v6 ++ [(v3.getD ((v1.getD v5.toNat (0, (0, 0))).2.1).toNat 0)]) v7 v8 v9 v10 v11 v12 v13 (wrap .i64 (v14 + 1)) v23) else none) else none) else (if (((v1.getD v5.toNat (0, (0, 0))).1 == 12) || false) then ((dU n v1 v2 v3 v4 v5 v6 v7 v8 v9 v10 v11 v12 v13 v14).bind fun y29 => (if (decide (0 ≤ (v1.getD v5.toNat (0, (0, 0))).2.1) && decide ((v1.getD v5.toNat (0, (0, 0))).2.1 < 8)) then (κ (0, 0) 0 y29.2.1 y29.2.2.1 y29.2.2.2.1 y29.2.2.2.2.1 (wrap .i64 (v5 + 1)) y29.2.2.2.2.2.2.1 (y29.2.2.2.2.2.2.2.1.set ((v1.getD v5.toNat (0, (0, 0))).2.1).toNat y29.1) y29.2.2.2.2.2.2.2.2.1 y29.2.2.2.2.2.2.2.2.2.1 y29.2.2.2.2.2.2.2.2.2.2.1 y29.2.2.2.2.2.2.2.2.2.2.2.1 y29.2.2.2.2.2.2.2.2.2.2.2.2.1 y29.2.2.2.2.2.2.2.2.2.2.2.2.2.1 (wrap .i64 (y29.2.2.2.2.2.2.2.2.2.2.2.2.2.2 + 1)) v23) else none)) else (if (((v1.getD v5.toNat (0, (0, 0))).1 == 11) || false) then (if (decide (0 ≤ (v1.getD v5.toNat (0, (0, 0))).2.1) && decide ((v1.getD v5.toNat (0, (0, 0))).2.1 < 8)) then (if (decide ((v6.length + 1) * 8 ≤ 140737488355328) && decide (1 ≤ 8)) then (κ (0, 0) 0 v1 v2 v3 v4 (wrap .i64 (v5 + 1)) (v6 ++ [(v7.getD ((v1.getD v5.toNat (0, (0, 0))).2.1).toNat 0)]) v7 v8 v9 v10 v11 v12 v13 (wrap .i64 (v14 + 1)) v23) else none) else none) else (if (((v1.getD v5.toNat (0, (0, 0))).1 == 10) || false) then (κ (0, 0) 0 v1 v2 v3 v4 (wrap .i64 (v5 + 1)) v6 v7 v8 v9 v10 v11 v12 v13 (wrap .i64 (v14 + 1)) v23) else (if (((v1.getD v5.toNat (0, (0, 0))).1 == 9) || false) then ((dU n v1 v2 v3 v4 v5 v6 v7 v8 v9 v10 v11 v12 v13 v14).bind fun y30 => ((dU n y30.2.1 y30.2.2.1 y30.2.2.2.1 y30.2.2.2.2.1 y30.2.2.2.2.2.1 y30.2.2.2.2.2.2.1 y30.2.2.2.2.2.2.2.1 y30.2.2.2.2.2.2.2.2.1 y30.2.2.2.2.2.2.2.2.2.1 y30.2.2.2.2.2.2.2.2.2.2.1 y30.2.2.2.2.2.2.2.2.2.2.2.1 y30.2.2.2.2.2.2.2.2.2.2.2.2.1 y30.2.2.2.2.2.2.2.2.2.2.2.2.2.1 y30.2.2.2.2.2.2.2.2.2.2.2.2.2.2).bind fun y31 => (if (decide ((y31.2.2.2.2.2.2.1.length + 1) * 8 ≤ 140737488355328) && decide (1 ≤ 8)) then (κ (0, 0) 0 y31.2.1 y31.2.2.1 y31.2.2.2.1 y31.2.2.2.2.1 (wrap .i64 (v5 + 1)) (y31.2.2.2.2.2.2.1 ++ [(bits .or .i64 y30.1 y31.1)]) y31.2.2.2.2.2.2.2.1 y31.2.2.2.2.2.2.2.2.1 y31.2.2.2.2.2.2.2.2.2.1 y31.2.2.2.2.2.2.2.2.2.2.1 y31.2.2.2.2.2.2.2.2.2.2.2.1 y31.2.2.2.2.2.2.2.2.2.2.2.2.1 y31.2.2.2.2.2.2.2.2.2.2.2.2.2.1 (wrap .i64 (y31.2.2.2.2.2.2.2.2.2.2.2.2.2.2 + 1)) v23) else none))) else (if (((v1.getD v5.toNat (0, (0, 0))).1 == 8) || false) then ((dU n v1 v2 v3 v4 v5 v6 v7 v8 v9 v10 v11 v12 v13 v14).bind fun y32 => ((dU n y32.2.1 y32.2.2.1 y32.2.2.2.1 y32.2.2.2.2.1 y32.2.2.2.2.2.1 y32.2.2.2.2.2.2.1 y32.2.2.2.2.2.2.2.1 y32.2.2.2.2.2.2.2.2.1 y32.2.2.2.2.2.2.2.2.2.1 y32.2.2.2.2.2.2.2.2.2.2.1 y32.2.2.2.2.2.2.2.2.2.2.2.1 y32.2.2.2.2.2.2.2.2.2.2.2.2.1 y32.2.2.2.2.2.2.2.2.2.2.2.2.2.1 y32.2.2.2.2.2.2.2.2.2.2.2.2.2.2).bind fun y33 => (if (decide ((y33.2.2.2.2.2.2.1.length + 1) * 8 ≤ 140737488355328) && decide (1 ≤ 8)) then (κ (0, 0) 0 y33.2.1 y33.2.2.1 y33.2.2.2.1 y33.2.2.2.2.1 (wrap .i64 (v5 + 1)) (y33.2.2.2.2.2.2.1 ++ [(bits .and .i64 y32.1 y33.1)]) y33.2.2.2.2.2.2.2.1 y33.2.2.2.2.2.2.2.2.1 y33.2.2.2.2.2.2.2.2.2.1 y33.2.2.2.2.2.2.2.2.2.2.1 y33.2.2.2.2.2.2.2.2.2.2.2.1 y33.2.2.2.2.2.2.2.2.2.2.2.2.1 y33.2.2.2.2.2.2.2.2.2.2.2.2.2.1 (wrap .i64 (y33.2.2.2.2.2.2.2.2.2.2.2.2.2.2 + 1)) v23) else none))) else (if (((v1.getD v5.toNat (0, (0, 0))).1 == 7) || false) then ((dU n v1 v2 v3 v4 v5 v6 v7 v8 v9 v10 v11 v12 v13 v14).bind fun y34 => ((mW n y34.1).bind fun y35 => (if (decide ((y34.2.2.2.2.2.2.1.length + 1) * 8 ≤ 140737488355328) && decide (1 ≤ 8)) then (κ (0, 0) 0 y34.2.1 y34.2.2.1 y34.2.2.2.1 y34.2.2.2.2.1 (wrap .i64 (v5 + 1)) (y34.2.2.2.2.2.2.1 ++ [y35]) y34.2.2.2.2.2.2.2.1 y34.2.2.2.2.2.2.2.2.1 y34.2.2.2.2.2.2.2.2.2.1 y34.2.2.2.2.2.2.2.2.2.2.1 y34.2.2.2.2.2.2.2.2.2.2.2.1 y34.2.2.2.2.2.2.2.2.2.2.2.2.1 y34.2.2.2.2.2.2.2.2.2.2.2.2.2.1 (wrap .i64 (y34.2.2.2.2.2.2.2.2.2.2.2.2.2.2 + 1)) v23) else none))) else (if (((v1.getD v5.toNat (0, (0, 0))).1 == 6) || false) then ((dU n v1 v2 v3 v4 v5 v6 v7 v8 v9 v10 v11 v12 v13 v14).bind fun y36 => ((oZ n y36.1).bind fun y37 => (if (decide ((y36.2.2.2.2.2.2.1.length + 1) * 8 ≤ 140737488355328) && decide (1 ≤ 8)) then (κ (0, 0) 0 y36.2.1 y36.2.2.1 y36.2.2.2.1 y36.2.2.2.2.1 (wrap .i64 (v5 + 1)) (y36.2.2.2.2.2.2.1 ++ [y37]) y36.2.2.2.2.2.2.2.1 y36.2.2.2.2.2.2.2.2.1 y36.2.2.2.2.2.2.2.2.2.1 y36.2.2.2.2.2.2.2.2.2.2.1 y36.2.2.2.2.2.2.2.2.2.2.2.1 y36.2.2.2.2.2.2.2.2.2.2.2.2.1 y36.2.2.2.2.2.2.2.2.2.2.2.2.2.1 (wrap .i64 (y36.2.2.2.2.2.2.2.2.2.2.2.2.2.2 + 1)) v23) else none))) else (if (((v1.getD v5.toNat (0, (0, 0))).1 == 5) || false) then ((dU n v1 v2 v3 v4 v5 v6 v7 v8 v9 v10 v11 v12 v13 v14).bind fun y38 => ((dU n y38.2.1 y38.2.2.1 y38.2.2.2.1 y38.2.2.2.2.1 y38.2.2.2.2.2.1 y38.2.2.2.2.2.2.1 y38.2.2.2.2.2.2.2.1 y38.2.2.2.2.2.2.2.2.1 y38.2.2.2.2.2.2.2.2.2.1 y38.2.2.2.2.2.2.2.2.2.2.1 y38.2.2.2.2.2.2.2.2.2.2.2.1 y38.2.2.2.2.2.2.2.2.2.2.2.2.1 y38.2.2.2.2.2.2.2.2.2.2.2.2.2.1 y38.2.2.2.2.2.2.2.2.2.2.2.2.2.2).bind fun y39 => ((ed n ((v1.getD v5.toNat (0, (0, 0))).2.1) y39.1 y38.1).bind fun y40 => ((gE n y40.2).bind fun y41 => (if (decide ((y39.2.2.2.2.2.2.1.length + 1) * 8 ≤ 140737488355328) && decide (1 ≤ 8)) then (κ (0, 0) 0 y39.2.1 y39.2.2.1 y39.2.2.2.1 y39.2.2.2.2.1 (wrap .i64 (v5 + 1)) (y39.2.2.2.2.2.2.1 ++ [y40.1]) y39.2.2.2.2.2.2.2.1 y39.2.2.2.2.2.2.2.2.1 y39.2.2.2.2.2.2.2.2.2.1 y39.2.2.2.2.2.2.2.2.2.2.1 y39.2.2.2.2.2.2.2.2.2.2.2.1 y39.2.2.2.2.2.2.2.2.2.2.2.2.1 (wrap .i64 (y39.2.2.2.2.2.2.2.2.2.2.2.2.2.1 + y41)) (wrap .i64 (y39.2.2.2.2.2.2.2.2.2.2.2.2.2.2 + 1)) v23) else none))))) else (if (((v1.getD v5.toNat (0, (0, 0))).1 == 4) || false) then ((dU n v1 v2 v3 v4 v5 v6 v7 v8 v9 v10 v11 v12 v13 v14).bind fun y42 => ((dU n y42.2.1 y42.2.2.1 y42.2.2.2.1 y42.2.2.2.2.1 y42.2.2.2.2.2.1 y42.2.2.2.2.2.2.1 y42.2.2.2.2.2.2.2.1 y42.2.2.2.2.2.2.2.2.1 y42.2.2.2.2.2.2.2.2.2.1 y42.2.2.2.2.2.2.2.2.2.2.1 y42.2.2.2.2.2.2.2.2.2.2.2.1 y42.2.2.2.2.2.2.2.2.2.2.2.2.1 y42.2.2.2.2.2.2.2.2.2.2.2.2.2.1 y42.2.2.2.2.2.2.2.2.2.2.2.2.2.2).bind fun y43 => (if (decide ((y43.2.2.2.2.2.2.1.length + 1) * 8 ≤ 140737488355328) && decide (1 ≤ 8)) then (if (decide (((y43.2.2.2.2.2.2.1 ++ [y42.1]).length + 1) * 8 ≤ 140737488355328) && decide (1 ≤ 8)) then (κ (0, 0) 0 y43.2.1 y43.2.2.1 y43.2.2.2.1 y43.2.2.2.2.1 (wrap .i64 (v5 + 1)) ((y43.2.2.2.2.2.2.1 ++ [y42.1]) ++ [y43.1]) y43.2.2.2.2.2.2.2.1 y43.2.2.2.2.2.2.2.2.1 y43.2.2.2.2.2.2.2.2.2.1 y43.2.2.2.2.2.2.2.2.2.2.1 y43.2.2.2.2.2.2.2.2.2.2.2.1 y43.2.2.2.2.2.2.2.2.2.2.2.2.1 y43.2.2.2.2.2.2.2.2.2.2.2.2.2.1 (wrap .i64 (y43.2.2.2.2.2.2.2.2.2.2.2.2.2.2 + 1)) v23) else none) else none))) else (if (((v1.getD v5.toNat (0, (0, 0))).1 == 3) || false) then (if (decide (0 ≤ (wrap .i64 ((v6.length : Int) - 1))) && decide ((wrap .i64 ((v6.length : Int) - 1)) < (v6.length : Int))) then (if (decide ((v6.length + 1) * 8 ≤ 140737488355328) && decide (1 ≤ 8)) then (κ (0, 0) 0 v1 v2 v3 v4 (wrap .i64 (v5 + 1)) (v6 ++ [(v6.getD ((wrap .i64 ((v6.length : Int) - 1))).toNat 0)]) v7 v8 v9 v10 v11 v12 v13 (wrap .i64 (v14 + 1)) v23) else none) else none) else (if (((v1.getD v5.toNat (0, (0, 0))).1 == 2) || false) then ((dU n v1 v2 v3 v4 v5 v6 v7 v8 v9 v10 v11 v12 v13 v14).bind fun y44 => (κ (0, 0) 0 y44.2.1 y44.2.2.1 y44.2.2.2.1 y44.2.2.2.2.1 (wrap .i64 (v5 + 1)) y44.2.2.2.2.2.2.1 y44.2.2.2.2.2.2.2.1 y44.2.2.2.2.2.2.2.2.1 y44.2.2.2.2.2.2.2.2.2.1 y44.2.2.2.2.2.2.2.2.2.2.1 y44.2.2.2.2.2.2.2.2.2.2.2.1 y44.2.2.2.2.2.2.2.2.2.2.2.2.1 y44.2.2.2.2.2.2.2.2.2.2.2.2.2.1 (wrap .i64 (y44.2.2.2.2.2.2.2.2.2.2.2.2.2.2 + 1)) v23)) else (if (((v1.getD v5.toNat (0, (0, 0))).1 == 1) || false) then (if (decide ((v6.length + 1) * 8 ≤ 140737488355328) && decide (1 ≤ 8)) then (κ (0, 0) 0 v1 v2 v3 v4 (wrap .i64 (v5 + 1)) (v6 ++ [(v1.getD v5.toNat (0, (0, 0))).2.1]) v7 v8 v9 v10 v11 v12 v13 (wrap .i64 (v14 + 1)) v23) else none) else none))))))))))))))))))))))))) else none))
def Ga (v1 : dm) (v2 v3 : (List Int)) (v4 : Bool) (v5 : Int) (v6 v7 v8 v9 : (List Int)) (v10 : Int) (v11 : (List Int)) (v12 v13 v14 v15 v16 v17 v18 : Int) (v19 : (List Int)) (v20 : (List (List Int))) (v21 : da) (v22 : (List Nat)) (v23 : (List (List Int))) (v24 : (List Int)) : Option (gL × Int × dm × (List Int) × (List Int) × Bool × Int × (List Int) × (List Int) × (List Int) × (List Int) × Int × (List Int) × Int × Int × Int × Int × Int × Int × Int × (List Int) × (List (List Int)) × da × (List Nat) × (List (List Int)) × (List Int)) := eB n v1 v2 v3 v4 v5 v6 v7 v8 v9 v10 v11 v12 v13 v14 v23 (fun r0 r1 r2 r3 r4 r5 r6 r7 r8 r9 r10 r11 r12 r13 r14 r15 r24 => some (r0, r1, r2, r3, r4, r5, r6, r7, r8, r9, r10, r11, r12, r13, r14, r15, v15, v16, v17, v18, v19, v20, v21, v22, r24, v24))
def HY : FS := ⟨⟨[.obj 0, .inn 1 8], [nl, [.val cY, .val cY, .val cY, .val cY, .val dz, .val ep, .val eh, .row 71 (.fp 120), .val eL, .row 3 cY]]⟩, ⟨[.val iQ, .val cY], [nl, [.val cY, .val cY, .val cY, .val cY, .val dz, .val ep, .val eh, .row 71 (.fp 120), .val eL, .row 3 cY]]⟩, (gL × Int × dm × (List Int) × (List Int) × Bool × Int × (List Int) × (List Int) × (List Int) × (List Int) × Int × (List Int) × Int × Int × Int × Int × Int × Int × Int × (List Int) × (List (List Int)) × da × (List Nat) × (List (List Int)) × (List Int)), fun y => ((U_ v_) y, (dD (ec (U_ v_))) y.2.2, (dD (U_ u_)) y.2.2.2.2.2.2.2.2.2.2.2.2.2.2.2.2, ()), fun (o : ((gL × Int × Unit) × (di × (Int × Int × Int × Int × (List Int) × (List (List Int)) × da × (List Nat) × (List (List Int)) × (List Int) × Unit) × Unit))) => (J_ j_) o.1 ((ye (lE (J_ j_))) o.2.1 ((dD (U_ k_)) o.2.2.1)), fun (x : (Unit × (di × (Int × Int × Int × Int × (List Int) × (List (List Int)) × da × (List Nat) × (List (List Int)) × (List Int) × Unit) × Unit))) => Ga n x.2.1.1 x.2.1.2.1 x.2.1.2.2.1 x.2.1.2.2.2.1 x.2.1.2.2.2.2.1 x.2.1.2.2.2.2.2.1 x.2.1.2.2.2.2.2.2.1 x.2.1.2.2.2.2.2.2.2.1 x.2.1.2.2.2.2.2.2.2.2.1 x.2.1.2.2.2.2.2.2.2.2.2.1 x.2.1.2.2.2.2.2.2.2.2.2.2.1 x.2.1.2.2.2.2.2.2.2.2.2.2.2.1 x.2.1.2.2.2.2.2.2.2.2.2.2.2.2.1 x.2.1.2.2.2.2.2.2.2.2.2.2.2.2.2.1 x.2.2.1.1 x.2.2.1.2.1 x.2.2.1.2.2.1 x.2.2.1.2.2.2.1 x.2.2.1.2.2.2.2.1 x.2.2.1.2.2.2.2.2.1 x.2.2.1.2.2.2.2.2.2.1 x.2.2.1.2.2.2.2.2.2.2.1 x.2.2.1.2.2.2.2.2.2.2.2.1 x.2.2.1.2.2.2.2.2.2.2.2.2.1⟩
theorem O0 : dw (NU n) 14 28 0 (HY n) := fun x => by kernel_rfl
def NV : Cx := (Cx.bare (NU n)).addSpec 28 (HY n)
theorem Q5 : Good (NV n) := Good.fn (Q4 n) 14 0 (O0 n) (fun _ => rfl) rfl
def gn (v1 : Nat) (v2 : (List di)) (v3 v4 v5 v6 : Int) (v7 : (List Int)) (v8 : (List (List Int))) (v9 : da) (v10 : (List Nat)) (v11 : (List (List Int))) (v12 : (List Int)) : Option (gL × Int × (List di) × Int × Int × Int × Int × (List Int) × (List (List Int)) × da × (List Nat) × (List (List Int)) × (List Int)) := jd v2 v1 fun m13 => ((Ga n m13.1 m13.2.1 m13.2.2.1 m13.2.2.2.1 m13.2.2.2.2.1 m13.2.2.2.2.2.1 m13.2.2.2.2.2.2.1 m13.2.2.2.2.2.2.2.1 m13.2.2.2.2.2.2.2.2.1 m13.2.2.2.2.2.2.2.2.2.1 m13.2.2.2.2.2.2.2.2.2.2.1 m13.2.2.2.2.2.2.2.2.2.2.2.1 m13.2.2.2.2.2.2.2.2.2.2.2.2.1 m13.2.2.2.2.2.2.2.2.2.2.2.2.2.1 v3 v4 v5 v6 v7 v8 v9 v10 v11 v12).bind fun y14 => (some ((y14.1.1, y14.1.2), y14.2.1, (v2.set (v1 - 1) (y14.2.2.1, y14.2.2.2.1, y14.2.2.2.2.1, y14.2.2.2.2.2.1, y14.2.2.2.2.2.2.1, y14.2.2.2.2.2.2.2.1, y14.2.2.2.2.2.2.2.2.1, y14.2.2.2.2.2.2.2.2.2.1, y14.2.2.2.2.2.2.2.2.2.2.1, y14.2.2.2.2.2.2.2.2.2.2.2.1, y14.2.2.2.2.2.2.2.2.2.2.2.2.1, y14.2.2.2.2.2.2.2.2.2.2.2.2.2.1, y14.2.2.2.2.2.2.2.2.2.2.2.2.2.2.1, y14.2.2.2.2.2.2.2.2.2.2.2.2.2.2.2.1, ())), y14.2.2.2.2.2.2.2.2.2.2.2.2.2.2.2.2.1, y14.2.2.2.2.2.2.2.2.2.2.2.2.2.2.2.2.2.1, y14.2.2.2.2.2.2.2.2.2.2.2.2.2.2.2.2.2.2.1, y14.2.2.2.2.2.2.2.2.2.2.2.2.2.2.2.2.2.2.2.1, y14.2.2.2.2.2.2.2.2.2.2.2.2.2.2.2.2.2.2.2.2.1, y14.2.2.2.2.2.2.2.2.2.2.2.2.2.2.2.2.2.2.2.2.2.1, y14.2.2.2.2.2.2.2.2.2.2.2.2.2.2.2.2.2.2.2.2.2.2.1, y14.2.2.2.2.2.2.2.2.2.2.2.2.2.2.2.2.2.2.2.2.2.2.2.1, y14.2.2.2.2.2.2.2.2.2.2.2.2.2.2.2.2.2.2.2.2.2.2.2.2.1, y14.2.2.2.2.2.2.2.2.2.2.2.2.2.2.2.2.2.2.2.2.2.2.2.2.2)))
def ll : FS := ⟨⟨[.val (.fp 120), .inn 1 8], [[.fam 120 dT], [.val cY, .val cY, .val cY, .val cY, .val dz, .val ep, .val eh, .row 71 (.fp 120), .val eL, .row 3 cY]]⟩, ⟨[.val iQ, .val cY], [[.fam 120 dT], [.val cY, .val cY, .val cY, .val cY, .val dz, .val ep, .val eh, .row 71 (.fp 120), .val eL, .row 3 cY]]⟩, (gL × Int × (List di) × Int × Int × Int × Int × (List Int) × (List (List Int)) × da × (List Nat) × (List (List Int)) × (List Int)), fun y => ((U_ v_) y, (y.2.2.1, ()), (dD (U_ u_)) y.2.2.2, ()), fun (o : ((gL × Int × Unit) × (fd × (Int × Int × Int × Int × (List Int) × (List (List Int)) × da × (List Nat) × (List (List Int)) × (List Int) × Unit) × Unit))) => (J_ j_) o.1 ((o.2.1.1, ((dD (U_ k_)) o.2.2.1))), fun (x : ((Nat × Unit) × (fd × (Int × Int × Int × Int × (List Int) × (List (List Int)) × da × (List Nat) × (List (List Int)) × (List Int) × Unit) × Unit))) => gn n x.1.1 x.2.1.1 x.2.2.1.1 x.2.2.1.2.1 x.2.2.1.2.2.1 x.2.2.1.2.2.2.1 x.2.2.1.2.2.2.2.1 x.2.2.1.2.2.2.2.2.1 x.2.2.1.2.2.2.2.2.2.1 x.2.2.1.2.2.2.2.2.2.2.1 x.2.2.1.2.2.2.2.2.2.2.2.1 x.2.2.1.2.2.2.2.2.2.2.2.2.1⟩
theorem sx : mu (NV n) 14 28 0 (ll n) true 0 120 dT false := fun x => by kernel_rfl
def NW : Cx := (Cx.bare (NV n)).addSpec 28 (ll n)
theorem Q6 : Good (NW n) := je (Q5 n) 14 0 true 0 120 dT false (sx n) (fun _ => rfl) rfl (by decide) rfl
def lm (n : Nat) (v1 : dm) (v2 v3 : (List Int)) (v4 : Bool) (v5 : Int) (v6 v7 v8 v9 : (List Int)) (v10 : Int) (v11 : (List Int)) (v12 v13 v14 : Int) : Option MU := some (v4, v1, v2, v3, v4, v5, v6, v7, v8, v9, v10, v11, v12, v13, v14)
def kD : FS := ⟨⟨[.obj 0], [nl]⟩, ⟨[.val .bool], [nl]⟩, MU, fun y => ((y.1, ()), (dD (ec (U_ u_))) y.2, ()), fun (o : (gg × nh)) => (o.1.1, ((dD (ec (U_ k_))) o.2.1)), fun (x : (Unit × nh)) => lm n x.2.1.1 x.2.1.2.1 x.2.1.2.2.1 x.2.1.2.2.2.1 x.2.1.2.2.2.2.1 x.2.1.2.2.2.2.2.1 x.2.1.2.2.2.2.2.2.1 x.2.1.2.2.2.2.2.2.2.1 x.2.1.2.2.2.2.2.2.2.2.1 x.2.1.2.2.2.2.2.2.2.2.2.1 x.2.1.2.2.2.2.2.2.2.2.2.2.1 x.2.1.2.2.2.2.2.2.2.2.2.2.2.1 x.2.1.2.2.2.2.2.2.2.2.2.2.2.2.1 x.2.1.2.2.2.2.2.2.2.2.2.2.2.2.2.1⟩
theorem rA : dw (NW n) 14 27 0 (kD n) := fun x => by kernel_rfl
def NX : Cx := (Cx.bare (NW n)).addSpec 27 (kD n)
theorem Q7 : Good (NX n) := Good.fn (Q6 n) 14 0 (rA n) (fun _ => rfl) rfl
def fa (v1 : Nat) (v2 : (List di)) : Option (Bool × (List di)) := jd v2 v1 fun m3 => ((lm n m3.1 m3.2.1 m3.2.2.1 m3.2.2.2.1 m3.2.2.2.2.1 m3.2.2.2.2.2.1 m3.2.2.2.2.2.2.1 m3.2.2.2.2.2.2.2.1 m3.2.2.2.2.2.2.2.2.1 m3.2.2.2.2.2.2.2.2.2.1 m3.2.2.2.2.2.2.2.2.2.2.1 m3.2.2.2.2.2.2.2.2.2.2.2.1 m3.2.2.2.2.2.2.2.2.2.2.2.2.1 m3.2.2.2.2.2.2.2.2.2.2.2.2.2.1).bind fun y4 => (some (y4.1, (v2.set (v1 - 1) (y4.2.1, y4.2.2.1, y4.2.2.2.1, y4.2.2.2.2.1, y4.2.2.2.2.2.1, y4.2.2.2.2.2.2.1, y4.2.2.2.2.2.2.2.1, y4.2.2.2.2.2.2.2.2.1, y4.2.2.2.2.2.2.2.2.2.1, y4.2.2.2.2.2.2.2.2.2.2.1, y4.2.2.2.2.2.2.2.2.2.2.2.1, y4.2.2.2.2.2.2.2.2.2.2.2.2.1, y4.2.2.2.2.2.2.2.2.2.2.2.2.2.1, y4.2.2.2.2.2.2.2.2.2.2.2.2.2.2, ())))))
def jF : FS := ⟨⟨[.val (.fp 120)], [[.fam 120 dT]]⟩, ⟨[.val .bool], [[.fam 120 dT]]⟩, (Bool × (List di)), fun y => ((y.1, ()), (y.2, ()), ()), fun (o : (gg × ng)) => (o.1.1, o.2.1.1), fun (x : ((Nat × Unit) × ng)) => fa n x.1.1 x.2.1.1⟩
theorem px : mu (NX n) 14 27 0 (jF n) true 0 120 dT false := fun x => by kernel_rfl
def NY : Cx := (Cx.bare (NX n)).addSpec 27 (jF n)
theorem Q8 : Good (NY n) := je (Q7 n) 14 0 true 0 120 dT false (px n) (fun _ => rfl) rfl (by decide) rfl
def vu (n : Nat) (F : JG → Option (zf)) (v15 : eb) (v16 : (List Int)) (v17 : Int) (v18 : dm) (v19 v20 : (List Int)) (v21 : Bool) (v22 : Int) (v23 v24 v25 v26 : (List Int)) (v27 : Int) (v28 : (List Int)) (v29 v30 v31 : Int) : Option (zf) := if (decide (v17 < 16)) then (if (decide (0 ≤ v17) && decide (v17 < 16)) then (if decide (v17 < 0) then none else (if ((bits .and .i64 (v27.fdiv (2 ^ (min v17.toNat 64))) 1) == 1) then (if (decide ((v15.length + 1) * 16 ≤ 140737488355328) && decide (1 ≤ 16)) then (F ((v15 ++ [(v17, (v16.getD v17.toNat 0))]), v16, (wrap .i64 (v17 + 1)), v18, v19, v20, v21, v22, v23, v24, v25, v26, v27, v28, v29, v30, v31)) else none) else (F (v15, v16, (wrap .i64 (v17 + 1)), v18, v19, v20, v21, v22, v23, v24, v25, v26, v27, v28, v29, v30, v31)))) else none) else (some (v15, v18, v19, v20, v21, v22, v23, v24, v25, v26, v27, v28, v29, v30, v31))
def un : JG → Option (zf) := it (fun F => (fg (eo (dZ (C_ q_)))) (vu n F)) n
def Aj : Loop := ⟨⟨dn 34 0 [(0, .obj 0), (3, .row 107 iQ), (12, .val la), (13, .val cY)], [nl]⟩, [(.exit 0, ⟨dn 34 0 [(3, .row 107 iQ)], [nl]⟩)], JG, fun x => ((dF v_) x, (dD (ec (U_ u_))) x.2.2.2, ()), fun (x : ((eb × (List Int) × Int × Unit) × nh)) => (fX j_) x.1 ((dD (ec (U_ k_))) x.2.1), zf, fun y => ((y.1, ()), (dD (ec (U_ u_))) y.2, ()), fun (o : ((eb × Unit) × nh)) => (o.1.1, ((dD (ec (U_ k_))) o.2.1)), un n⟩
def yu (v1 : dm) (v2 v3 : (List Int)) (v4 : Bool) (v5 : Int) (v6 v7 v8 v9 : (List Int)) (v10 : Int) (v11 : (List Int)) (v12 v13 v14 : Int) : Option zf := (un n ([], v9, 0, v1, v2, v3, v4, v5, v6, v7, v8, v9, v10, v11, v12, v13, v14)).bind fun y15 => (some (y15.1, y15.2.1, y15.2.2.1, y15.2.2.2.1, y15.2.2.2.2.1, y15.2.2.2.2.2.1, y15.2.2.2.2.2.2.1, y15.2.2.2.2.2.2.2.1, y15.2.2.2.2.2.2.2.2.1, y15.2.2.2.2.2.2.2.2.2.1, y15.2.2.2.2.2.2.2.2.2.2.1, y15.2.2.2.2.2.2.2.2.2.2.2.1, y15.2.2.2.2.2.2.2.2.2.2.2.2.1, y15.2.2.2.2.2.2.2.2.2.2.2.2.2.1, y15.2.2.2.2.2.2.2.2.2.2.2.2.2.2))
def EN : FS := ⟨⟨[.obj 0], [nl]⟩, ⟨[.val (.sl iQ)], [nl]⟩, zf, fun y => ((y.1, ()), (dD (ec (U_ u_))) y.2, ()), fun (o : ((eb × Unit) × nh)) => (o.1.1, ((dD (ec (U_ k_))) o.2.1)), fun (x : (Unit × nh)) => yu n x.2.1.1 x.2.1.2.1 x.2.1.2.2.1 x.2.1.2.2.2.1 x.2.1.2.2.2.2.1 x.2.1.2.2.2.2.2.1 x.2.1.2.2.2.2.2.2.1 x.2.1.2.2.2.2.2.2.2.1 x.2.1.2.2.2.2.2.2.2.2.1 x.2.1.2.2.2.2.2.2.2.2.2.1 x.2.1.2.2.2.2.2.2.2.2.2.2.1 x.2.1.2.2.2.2.2.2.2.2.2.2.2.1 x.2.1.2.2.2.2.2.2.2.2.2.2.2.2.1 x.2.1.2.2.2.2.2.2.2.2.2.2.2.2.2.1⟩
theorem HZ : ∀ F x, dL (NY n) 14 29 0 5 (Aj n) F x = (fg (eo (dZ (C_ q_)))) (vu n F) x := fun F x => by kernel_rfl
def uo : Cx := Cx.addLoop (NY n) 29 5 (Aj n)
theorem H6 : Good (uo n) := Good.loop (Q8 n) 14 0 (by kernel_rfl) (HZ n) n (fun _ => rfl) (fun _ => rfl) (fun _ => rfl) rfl
theorem NZ : dw (uo n) 14 29 0 (EN n) := fun x => by kernel_rfl
def N0 : Cx := (Cx.bare (uo n)).addSpec 29 (EN n)
theorem Q9 : Good (N0 n) := Good.fn (H6 n) 14 0 (NZ n) (fun _ => rfl) rfl
def eG (v1 : Nat) (v2 : (List di)) : Option (eb × (List di)) := jd v2 v1 fun m3 => ((yu n m3.1 m3.2.1 m3.2.2.1 m3.2.2.2.1 m3.2.2.2.2.1 m3.2.2.2.2.2.1 m3.2.2.2.2.2.2.1 m3.2.2.2.2.2.2.2.1 m3.2.2.2.2.2.2.2.2.1 m3.2.2.2.2.2.2.2.2.2.1 m3.2.2.2.2.2.2.2.2.2.2.1 m3.2.2.2.2.2.2.2.2.2.2.2.1 m3.2.2.2.2.2.2.2.2.2.2.2.2.1 m3.2.2.2.2.2.2.2.2.2.2.2.2.2.1).bind fun y4 => (some (y4.1, (v2.set (v1 - 1) (y4.2.1, y4.2.2.1, y4.2.2.2.1, y4.2.2.2.2.1, y4.2.2.2.2.2.1, y4.2.2.2.2.2.2.1, y4.2.2.2.2.2.2.2.1, y4.2.2.2.2.2.2.2.2.1, y4.2.2.2.2.2.2.2.2.2.1, y4.2.2.2.2.2.2.2.2.2.2.1, y4.2.2.2.2.2.2.2.2.2.2.2.1, y4.2.2.2.2.2.2.2.2.2.2.2.2.1, y4.2.2.2.2.2.2.2.2.2.2.2.2.2.1, y4.2.2.2.2.2.2.2.2.2.2.2.2.2.2, ())))))
def ln : FS := ⟨⟨[.val (.fp 120)], [[.fam 120 dT]]⟩, ⟨[.val (.sl iQ)], [[.fam 120 dT]]⟩, (eb × (List di)), fun y => ((y.1, ()), (y.2, ()), ()), fun (o : ((eb × Unit) × ng)) => (o.1.1, o.2.1.1), fun (x : ((Nat × Unit) × ng)) => eG n x.1.1 x.2.1.1⟩
theorem sy : mu (N0 n) 14 29 0 (ln n) true 0 120 dT false := fun x => by kernel_rfl
def N1 : Cx := (Cx.bare (N0 n)).addSpec 29 (ln n)
theorem Ra : Good (N1 n) := je (Q9 n) 14 0 true 0 120 dT false (sy n) (fun _ => rfl) rfl (by decide) rfl
def uq (F : ((List di) × Nat × Int × Int × Int × Int × (List Int) × (List (List Int)) × da × (List Nat) × (List (List Int)) × (List Int)) → Option (((List di) × Nat × Int × Int × Int × Int × (List Int) × (List (List Int)) × da × (List Nat) × (List (List Int)) × (List Int)))) (v29 : (List di)) (v30 : Nat) (v31 v32 v33 v34 : Int) (v35 : (List Int)) (v36 : (List (List Int))) (v37 : da) (v38 : (List Nat)) (v39 : (List (List Int))) (v40 : (List Int)) : Option (((List di) × Nat × Int × Int × Int × Int × (List Int) × (List (List Int)) × da × (List Nat) × (List (List Int)) × (List Int))) := (gn n v30 v29 v31 v32 v33 v34 v35 v36 v37 v38 v39 v40).bind fun y41 => ((fa n v30 y41.2.2.1).bind fun y42 => (if y42.1 then (F (y42.2, v30, y41.2.2.2.1, y41.2.2.2.2.1, y41.2.2.2.2.2.1, y41.2.2.2.2.2.2.1, y41.2.2.2.2.2.2.2.1, y41.2.2.2.2.2.2.2.2.1, y41.2.2.2.2.2.2.2.2.2.1, y41.2.2.2.2.2.2.2.2.2.2.1, y41.2.2.2.2.2.2.2.2.2.2.2.1, y41.2.2.2.2.2.2.2.2.2.2.2.2)) else (some (y42.2, v30, y41.2.2.2.1, y41.2.2.2.2.1, y41.2.2.2.2.2.1, y41.2.2.2.2.2.2.1, y41.2.2.2.2.2.2.2.1, y41.2.2.2.2.2.2.2.2.1, y41.2.2.2.2.2.2.2.2.2.1, y41.2.2.2.2.2.2.2.2.2.2.1, y41.2.2.2.2.2.2.2.2.2.2.2.1, y41.2.2.2.2.2.2.2.2.2.2.2.2))))
def xf : ((List di) × Nat × Int × Int × Int × Int × (List Int) × (List (List Int)) × da × (List Nat) × (List (List Int)) × (List Int)) → Option (((List di) × Nat × Int × Int × Int × Int × (List Int) × (List (List Int)) × da × (List Nat) × (List (List Int)) × (List Int))) := it (fun F => (fg (dZ q_)) (uq n F)) n
def CW : Loop := ⟨⟨dn 60 0 [(3, .obj 1), (8, .obj 2), (9, .clo 38 [2, 1])], [[.fam 120 dT], [.obj 3], [.val (.fp 120)], [.val cY, .val cY, .val cY, .val cY, .val dz, .val ep, .val eh, .row 71 (.fp 120), .val eL, .row 3 cY]]⟩, [(.exit 1, ⟨dn 60 0 [(3, .obj 1), (8, .obj 2)], [[.fam 120 dT], [.obj 3], [.val (.fp 120)], [.val cY, .val cY, .val cY, .val cY, .val dz, .val ep, .val eh, .row 71 (.fp 120), .val eL, .row 3 cY]]⟩)], ((List di) × Nat × Int × Int × Int × Int × (List Int) × (List (List Int)) × da × (List Nat) × (List (List Int)) × (List Int)), fun x => ((), (x.1, ()), (), (x.2.1, ()), (dD (U_ u_)) x.2.2, ()), fun (x : (Unit × (fd × Unit × (Nat × Unit) × (Int × Int × Int × Int × (List Int) × (List (List Int)) × da × (List Nat) × (List (List Int)) × (List Int) × Unit) × Unit))) => (x.2.1.1, ((x.2.2.2.1.1, ((dD (U_ k_)) x.2.2.2.2.1)))), ((List di) × Nat × Int × Int × Int × Int × (List Int) × (List (List Int)) × da × (List Nat) × (List (List Int)) × (List Int)), fun y => ((), (y.1, ()), (), (y.2.1, ()), (dD (U_ u_)) y.2.2, ()), fun (o : (Unit × (fd × Unit × (Nat × Unit) × (Int × Int × Int × Int × (List Int) × (List (List Int)) × da × (List Nat) × (List (List Int)) × (List Int) × Unit) × Unit))) => (o.2.1.1, ((o.2.2.2.1.1, ((dD (U_ k_)) o.2.2.2.2.1)))), xf n⟩
def yw (n : Nat) (F : (eb × Int × Int × (List di) × Nat × Int × Int × Int × Int × (List Int) × (List (List Int)) × da × (List Nat) × (List (List Int)) × (List Int)) → Option (((List di) × Nat × Int × Int × Int × Int × (List Int) × (List (List Int)) × da × (List Nat) × (List (List Int)) × (List Int)))) (v29 : eb) (v30 v31 : Int) (v32 : (List di)) (v33 : Nat) (v34 v35 v36 v37 : Int) (v38 : (List Int)) (v39 : (List (List Int))) (v40 : da) (v41 : (List Nat)) (v42 : (List (List Int))) (v43 : (List Int)) : Option (((List di) × Nat × Int × Int × Int × Int × (List Int) × (List (List Int)) × da × (List Nat) × (List (List Int)) × (List Int))) := if (decide (v31 < v30)) then (if (decide (0 ≤ v31) && decide (v31 < (v29.length : Int))) then (if (decide (0 ≤ (v29.getD v31.toNat (0, 0)).1) && decide ((v29.getD v31.toNat (0, 0)).1 < (v43.length : Int))) then (F (v29, v30, (wrap .i64 (v31 + 1)), v32, v33, v34, v35, v36, v37, v38, v39, v40, v41, v42, (v43.set ((v29.getD v31.toNat (0, 0)).1).toNat (v29.getD v31.toNat (0, 0)).2))) else none) else none) else (some (v32, v33, v34, v35, v36, v37, v38, v39, v40, v41, v42, v43))
def rB : (eb × Int × Int × (List di) × Nat × Int × Int × Int × Int × (List Int) × (List (List Int)) × da × (List Nat) × (List (List Int)) × (List Int)) → Option (((List di) × Nat × Int × Int × Int × Int × (List Int) × (List (List Int)) × da × (List Nat) × (List (List Int)) × (List Int))) := it (fun F => (fg (eo (C_ q_))) (yw n F)) n
def CX : Loop := ⟨⟨dn 60 0 [(3, .obj 1), (8, .obj 2), (42, .val (.sl iQ)), (43, .val cY), (44, .val cY)], [[.fam 120 dT], [.obj 3], [.val (.fp 120)], [.val cY, .val cY, .val cY, .val cY, .val dz, .val ep, .val eh, .row 71 (.fp 120), .val eL, .row 3 cY]]⟩, [(.exit 3, ⟨dn 60 0 [(8, .obj 2)], [[.fam 120 dT], [.obj 3], [.val (.fp 120)], [.val cY, .val cY, .val cY, .val cY, .val dz, .val ep, .val eh, .row 71 (.fp 120), .val eL, .row 3 cY]]⟩)], (eb × Int × Int × (List di) × Nat × Int × Int × Int × Int × (List Int) × (List (List Int)) × da × (List Nat) × (List (List Int)) × (List Int)), fun x => ((dF v_) x, (x.2.2.2.1, ()), (), (x.2.2.2.2.1, ()), (dD (U_ u_)) x.2.2.2.2.2, ()), fun (x : ((eb × Int × Int × Unit) × (fd × Unit × (Nat × Unit) × (Int × Int × Int × Int × (List Int) × (List (List Int)) × da × (List Nat) × (List (List Int)) × (List Int) × Unit) × Unit))) => (fX j_) x.1 ((x.2.1.1, ((x.2.2.2.1.1, ((dD (U_ k_)) x.2.2.2.2.1))))), ((List di) × Nat × Int × Int × Int × Int × (List Int) × (List (List Int)) × da × (List Nat) × (List (List Int)) × (List Int)), fun y => ((), (y.1, ()), (), (y.2.1, ()), (dD (U_ u_)) y.2.2, ()), fun (o : (Unit × (fd × Unit × (Nat × Unit) × (Int × Int × Int × Int × (List Int) × (List (List Int)) × da × (List Nat) × (List (List Int)) × (List Int) × Unit) × Unit))) => (o.2.1.1, ((o.2.2.2.1.1, ((dD (U_ k_)) o.2.2.2.2.1)))), rB n⟩
def vv (v1 : Int) (v2 : (List Int)) (v3 : (List di)) (v4 v5 v6 v7 : Int) (v8 : (List Int)) (v9 : (List (List Int))) (v10 : da) (v11 : (List Nat)) (v12 : (List (List Int))) (v13 : (List Int)) : Option (eb × Int × (List di) × Int × Int × Int × Int × (List Int) × (List (List Int)) × da × (List Nat) × (List (List Int)) × (List Int)) := if ((v11.length : Int) == 0) then (some ([], 15, v3, v4, v5, v6, v7, v8, v9, v10, v11, v12, v13)) else (if (decide (v1 ≥ 0)) then (if (!(decide (v1 < (v11.length : Int)))) then (some ([], 14, v3, v4, v5, v6, v7, v8, v9, v10, v11, v12, v13)) else (if (decide (0 ≤ v1) && decide (v1 < (v11.length : Int))) then ((fw n (v11.getD v1.toNat (0 : Nat)) v2 v3).bind fun y14 => ((xf n (y14.2, (v11.getD v1.toNat (0 : Nat)), v4, v5, v6, v7, v8, v9, v10, v11, v12, v13)).bind fun y15 => ((eG n y15.2.1 y15.1).bind fun y16 => ((rB n (y16.1, (y16.1.length : Int), 0, y16.2, y15.2.1, y15.2.2.1, y15.2.2.2.1, y15.2.2.2.2.1, y15.2.2.2.2.2.1, y15.2.2.2.2.2.2.1, y15.2.2.2.2.2.2.2.1, y15.2.2.2.2.2.2.2.2.1, y15.2.2.2.2.2.2.2.2.2.1, y15.2.2.2.2.2.2.2.2.2.2.1, y15.2.2.2.2.2.2.2.2.2.2.2)).bind fun y17 => ((eG n y17.2.1 y17.1).bind fun y18 => (some (y18.1, 0, y18.2, y17.2.2.1, y17.2.2.2.1, y17.2.2.2.2.1, y17.2.2.2.2.2.1, y17.2.2.2.2.2.2.1, y17.2.2.2.2.2.2.2.1, y17.2.2.2.2.2.2.2.2.1, y17.2.2.2.2.2.2.2.2.2.1, y17.2.2.2.2.2.2.2.2.2.2.1, y17.2.2.2.2.2.2.2.2.2.2.2))))))) else none)) else (some ([], 14, v3, v4, v5, v6, v7, v8, v9, v10, v11, v12, v13)))
def H7 : FS := ⟨⟨[.obj 1, .val cY, .val la], [[.fam 120 dT], [.val cY, .val cY, .val cY, .val cY, .val dz, .val ep, .val eh, .row 71 (.fp 120), .val eL, .row 3 cY]]⟩, ⟨[.val (.sl iQ), .val cY], [[.fam 120 dT], [.val cY, .val cY, .val cY, .val cY, .val dz, .val ep, .val eh, .row 71 (.fp 120), .val eL, .row 3 cY]]⟩, (eb × Int × (List di) × Int × Int × Int × Int × (List Int) × (List (List Int)) × da × (List Nat) × (List (List Int)) × (List Int)), fun y => ((U_ v_) y, (y.2.2.1, ()), (dD (U_ u_)) y.2.2.2, ()), fun (o : ((eb × Int × Unit) × (fd × (Int × Int × Int × Int × (List Int) × (List (List Int)) × da × (List Nat) × (List (List Int)) × (List Int) × Unit) × Unit))) => (J_ j_) o.1 ((o.2.1.1, ((dD (U_ k_)) o.2.2.1))), fun (x : (Cy × (fd × (Int × Int × Int × Int × (List Int) × (List (List Int)) × da × (List Nat) × (List (List Int)) × (List Int) × Unit) × Unit))) => vv n x.1.1 x.1.2.1 x.2.1.1 x.2.2.1.1 x.2.2.1.2.1 x.2.2.1.2.2.1 x.2.2.1.2.2.2.1 x.2.2.1.2.2.2.2.1 x.2.2.1.2.2.2.2.2.1 x.2.2.1.2.2.2.2.2.2.1 x.2.2.1.2.2.2.2.2.2.2.1 x.2.2.1.2.2.2.2.2.2.2.2.1 x.2.2.1.2.2.2.2.2.2.2.2.2.1⟩
theorem Ko : ∀ F x, dL (N1 n) 14 16 0 8 (CW n) F x = (fg (dZ q_)) (uq n F) x := fun F x => by kernel_rfl
def xg : Cx := Cx.addLoop (N1 n) 16 8 (CW n)
theorem Kp : Good (xg n) := Good.loop (Ra n) 14 0 (by kernel_rfl) (Ko n) n (fun _ => rfl) (fun _ => rfl) (fun _ => rfl) rfl
theorem Kq : ∀ F x, dL (xg n) 14 16 0 10 (CX n) F x = (fg (eo (C_ q_))) (yw n F) x := fun F x => by kernel_rfl
def xh : Cx := Cx.addLoop (xg n) 16 10 (CX n)
theorem Kr : Good (xh n) := Good.loop (Kp n) 14 0 (by kernel_rfl) (Kq n) n (fun _ => rfl) (fun _ => rfl) (fun _ => rfl) rfl
theorem O1 : dw (xh n) 14 16 0 (H7 n) := fun x => by kernel_rfl
def N2 : Cx := (Cx.bare (xh n)).addSpec 16 (H7 n)
theorem Rb : Good (N2 n) := Good.fn (Kr n) 14 0 (O1 n) (fun _ => rfl) rfl
def fP (n : Nat) (v1 v2 v3 v4 : Int) (v5 : (List Int)) (v6 : (List (List Int))) (v7 : da) (v8 : (List Nat)) (v9 : (List (List Int))) (v10 : (List Int)) : Option (List Int) := if (decide (0 = 0) && decide (0 = 0) && decide (v10.length * 8 ≤ 140737488355328) && decide (1 ≤ 8)) then (some v10) else none
theorem qf : FO (N2 n) 14 21 0 [.val cY, .val cY, .val cY, .val cY, .val dz, .val ep, .val eh, .row 71 (.fp 120), .val eL, .row 3 cY] 3 cY (fun X => fP n X.2.1.1 X.2.1.2.1 X.2.1.2.2.1 X.2.1.2.2.2.1 X.2.1.2.2.2.2.1 X.2.1.2.2.2.2.2.1 X.2.1.2.2.2.2.2.2.1 X.2.1.2.2.2.2.2.2.2.1 X.2.1.2.2.2.2.2.2.2.2.1 X.2.1.2.2.2.2.2.2.2.2.2.1) := fun X => by kernel_rfl
def N3 : Cx := (Cx.bare (N2 n)).addQR 21 ⟨og [.val cY, .val cY, .val cY, .val cY, .val dz, .val ep, .val eh, .row 71 (.fp 120), .val eL, .row 3 cY], 3, cY, fun X => fP n X.2.1.1 X.2.1.2.1 X.2.1.2.2.1 X.2.1.2.2.2.1 X.2.1.2.2.2.2.1 X.2.1.2.2.2.2.2.1 X.2.1.2.2.2.2.2.2.1 X.2.1.2.2.2.2.2.2.2.1 X.2.1.2.2.2.2.2.2.2.2.1 X.2.1.2.2.2.2.2.2.2.2.2.1⟩
theorem Rc : Good (N3 n) := Hn (Rb n) 14 0 [.val cY, .val cY, .val cY, .val cY, .val dz, .val ep, .val eh, .row 71 (.fp 120), .val eL, .row 3 cY] 3 cY (fun X => fP n X.2.1.1 X.2.1.2.1 X.2.1.2.2.1 X.2.1.2.2.2.1 X.2.1.2.2.2.2.1 X.2.1.2.2.2.2.2.1 X.2.1.2.2.2.2.2.2.1 X.2.1.2.2.2.2.2.2.2.1 X.2.1.2.2.2.2.2.2.2.2.1 X.2.1.2.2.2.2.2.2.2.2.2.1) (qf n) rfl rfl
def lI (n : Nat) (v1 : Nat) (v2 : (List di)) : Option (Nat × (List di)) := jd v2 v1 fun m3 => (if (!(decide ((m3.1.length : Int) > 0))) then (some ((0 : Nat), (v2.set (v1 - 1) (m3.1, m3.2.1, m3.2.2.1, m3.2.2.2.1, m3.2.2.2.2.1, m3.2.2.2.2.2.1, m3.2.2.2.2.2.2.1, m3.2.2.2.2.2.2.2.1, m3.2.2.2.2.2.2.2.2.1, m3.2.2.2.2.2.2.2.2.2.1, m3.2.2.2.2.2.2.2.2.2.2.1, m3.2.2.2.2.2.2.2.2.2.2.2.1, m3.2.2.2.2.2.2.2.2.2.2.2.2.1, m3.2.2.2.2.2.2.2.2.2.2.2.2.2.1, ())))) else (if (decide (0 = 0) && decide (0 = 0) && decide (m3.2.2.2.2.2.1.length * 8 ≤ 140737488355328) && decide (1 ≤ 8)) then (if (decide (0 = 0) && decide (0 = 0) && decide (m3.2.2.2.2.2.2.2.2.2.2.1.length * 8 ≤ 140737488355328) && decide (1 ≤ 8)) then (some (((v2.set (v1 - 1) (m3.1, m3.2.1, m3.2.2.1, m3.2.2.2.1, m3.2.2.2.2.1, m3.2.2.2.2.2.1, m3.2.2.2.2.2.2.1, m3.2.2.2.2.2.2.2.1, m3.2.2.2.2.2.2.2.2.1, m3.2.2.2.2.2.2.2.2.2.1, m3.2.2.2.2.2.2.2.2.2.2.1, m3.2.2.2.2.2.2.2.2.2.2.2.1, m3.2.2.2.2.2.2.2.2.2.2.2.2.1, m3.2.2.2.2.2.2.2.2.2.2.2.2.2.1, ())).length + 1), ((v2.set (v1 - 1) (m3.1, m3.2.1, m3.2.2.1, m3.2.2.2.1, m3.2.2.2.2.1, m3.2.2.2.2.2.1, m3.2.2.2.2.2.2.1, m3.2.2.2.2.2.2.2.1, m3.2.2.2.2.2.2.2.2.1, m3.2.2.2.2.2.2.2.2.2.1, m3.2.2.2.2.2.2.2.2.2.2.1, m3.2.2.2.2.2.2.2.2.2.2.2.1, m3.2.2.2.2.2.2.2.2.2.2.2.2.1, m3.2.2.2.2.2.2.2.2.2.2.2.2.2.1, ())) ++ [(m3.1, m3.2.1, m3.2.2.1, m3.2.2.2.1, m3.2.2.2.2.1, m3.2.2.2.2.2.1, m3.2.2.2.2.2.2.1, m3.2.2.2.2.2.2.2.1, m3.2.2.2.2.2.2.2.2.1, m3.2.2.2.2.2.2.2.2.2.1, m3.2.2.2.2.2.2.2.2.2.2.1, m3.2.2.2.2.2.2.2.2.2.2.2.1, m3.2.2.2.2.2.2.2.2.2.2.2.2.1, m3.2.2.2.2.2.2.2.2.2.2.2.2.2.1, ())]))) else none) else none))
def lp : FS := ⟨⟨[.val (.fp 120)], [[.fam 120 dT]]⟩, ⟨[.val (.fp 120)], [[.fam 120 dT]]⟩, (Nat × (List di)), fun y => ((y.1, ()), (y.2, ()), ()), fun (o : ((Nat × Unit) × ng)) => (o.1.1, o.2.1.1), fun (x : ((Nat × Unit) × ng)) => lI n x.1.1 x.2.1.1⟩
theorem sA : mu (N3 n) 14 36 0 (lp n) true 0 120 dT true := fun x => by kernel_rfl
def N4 : Cx := (Cx.bare (N3 n)).addSpec 36 (lp n)
theorem Rd : Good (N4 n) := je (Rc n) 14 0 true 0 120 dT true (sA n) (fun _ => rfl) rfl (by decide) rfl
def lJ (F : ((List Nat) × Int × Int × (List di) × Int × Int × Int × Int × (List Int) × (List (List Int)) × da × (List Nat) × (List (List Int)) × (List Int)) → Option (((List di) × Int × Int × Int × Int × (List Int) × (List (List Int)) × da × (List Nat) × (List (List Int)) × (List Int)))) (v13 : (List Nat)) (v14 v15 : Int) (v16 : (List di)) (v17 v18 v19 v20 : Int) (v21 : (List Int)) (v22 : (List (List Int))) (v23 : da) (v24 : (List Nat)) (v25 : (List (List Int))) (v26 : (List Int)) : Option (((List di) × Int × Int × Int × Int × (List Int) × (List (List Int)) × da × (List Nat) × (List (List Int)) × (List Int))) := if (decide (v15 < v14)) then (if (decide (0 ≤ v15) && decide (v15 < (v13.length : Int))) then ((lI n (v13.getD v15.toNat (0 : Nat)) v16).bind fun y27 => (if (decide ((v24.length + 1) * 8 ≤ 140737488355328) && decide (1 ≤ 8)) then (F (v13, v14, (wrap .i64 (v15 + 1)), y27.2, v17, v18, v19, v20, v21, v22, v23, (v24 ++ [y27.1]), v25, v26)) else none)) else none) else (some (v16, v17, v18, v19, v20, v21, v22, v23, v24, v25, v26))
def kE : ((List Nat) × Int × Int × (List di) × Int × Int × Int × Int × (List Int) × (List (List Int)) × da × (List Nat) × (List (List Int)) × (List Int)) → Option (((List di) × Int × Int × Int × Int × (List Int) × (List (List Int)) × da × (List Nat) × (List (List Int)) × (List Int))) := it (fun F => (fg (eo q_)) (lJ n F)) n
def kF : Loop := ⟨⟨dn 50 0 [(3, .obj 1), (31, .val (.sl (.fp 120))), (32, .val cY), (33, .val cY)], [[.fam 120 dT], [.val cY, .val cY, .val cY, .val cY, .val dz, .val ep, .val eh, .row 71 (.fp 120), .val eL, .row 3 cY]]⟩, [(.exit 0, ⟨dn 50 0 [(3, .obj 1)], [[.fam 120 dT], [.val cY, .val cY, .val cY, .val cY, .val dz, .val ep, .val eh, .row 71 (.fp 120), .val eL, .row 3 cY]]⟩)], ((List Nat) × Int × Int × (List di) × Int × Int × Int × Int × (List Int) × (List (List Int)) × da × (List Nat) × (List (List Int)) × (List Int)), fun x => ((dF v_) x, (x.2.2.2.1, ()), (dD (U_ u_)) x.2.2.2.2, ()), fun (x : (((List Nat) × Int × Int × Unit) × (fd × (Int × Int × Int × Int × (List Int) × (List (List Int)) × da × (List Nat) × (List (List Int)) × (List Int) × Unit) × Unit))) => (fX j_) x.1 ((x.2.1.1, ((dD (U_ k_)) x.2.2.1))), ((List di) × Int × Int × Int × Int × (List Int) × (List (List Int)) × da × (List Nat) × (List (List Int)) × (List Int)), fun y => ((), (y.1, ()), (dD (U_ u_)) y.2, ()), fun (o : (Unit × (fd × (Int × Int × Int × Int × (List Int) × (List (List Int)) × da × (List Nat) × (List (List Int)) × (List Int) × Unit) × Unit))) => (o.2.1.1, ((dD (U_ k_)) o.2.2.1)), kE n⟩
def ur (v1 : (List di)) (v2 v3 v4 v5 : Int) (v6 : (List Int)) (v7 : (List (List Int))) (v8 : da) (v9 : (List Nat)) (v10 : (List (List Int))) (v11 : (List Int)) : Option ((List di) × Int × Int × Int × Int × (List Int) × (List (List Int)) × da × (List Nat) × (List (List Int)) × (List Int) × Int × Int × Int × Int × (List Int) × (List (List Int)) × da × (List Nat) × (List (List Int)) × (List Int)) := if ((v9.length : Int) == 0) then none else ((fP n v2 v3 v4 v5 v6 v7 v8 v9 v10 v11).bind fun y12 => ((kE n (v9, (v9.length : Int), 0, v1, v2, v3, v4, v5, v6, v7, v8, [], v10, y12)).bind fun y13 => (some (y13.1, v2, v3, v4, v5, v6, v7, v8, v9, v10, v11, y13.2.1, y13.2.2.1, y13.2.2.2.1, y13.2.2.2.2.1, y13.2.2.2.2.2.1, y13.2.2.2.2.2.2.1, y13.2.2.2.2.2.2.2.1, y13.2.2.2.2.2.2.2.2.1, y13.2.2.2.2.2.2.2.2.2.1, y13.2.2.2.2.2.2.2.2.2.2))))
def lK : FS := ⟨⟨[.obj 1], [[.fam 120 dT], [.val cY, .val cY, .val cY, .val cY, .val dz, .val ep, .val eh, .row 71 (.fp 120), .val eL, .row 3 cY]]⟩, ⟨[.obj 2], [[.fam 120 dT], [.val cY, .val cY, .val cY, .val cY, .val dz, .val ep, .val eh, .val (.sl (.fp 120)), .val eL, .row 3 cY], [.val cY, .val cY, .val cY, .val cY, .val dz, .val ep, .val eh, .row 71 (.fp 120), .val eL, .row 3 cY]]⟩, ((List di) × Int × Int × Int × Int × (List Int) × (List (List Int)) × da × (List Nat) × (List (List Int)) × (List Int) × Int × Int × Int × Int × (List Int) × (List (List Int)) × da × (List Nat) × (List (List Int)) × (List Int)), fun y => ((), (y.1, ()), (dD (U_ v_)) y.2, (dD (U_ u_)) y.2.2.2.2.2.2.2.2.2.2.2, ()), fun (o : (Unit × (fd × (Int × Int × Int × Int × (List Int) × (List (List Int)) × da × (List Nat) × (List (List Int)) × (List Int) × Unit) × (Int × Int × Int × Int × (List Int) × (List (List Int)) × da × (List Nat) × (List (List Int)) × (List Int) × Unit) × Unit))) => (o.2.1.1, ((ye (J_ j_)) o.2.2.1 ((dD (U_ k_)) o.2.2.2.1))), fun (x : (Unit × (fd × (Int × Int × Int × Int × (List Int) × (List (List Int)) × da × (List Nat) × (List (List Int)) × (List Int) × Unit) × Unit))) => ur n x.2.1.1 x.2.2.1.1 x.2.2.1.2.1 x.2.2.1.2.2.1 x.2.2.1.2.2.2.1 x.2.2.1.2.2.2.2.1 x.2.2.1.2.2.2.2.2.1 x.2.2.1.2.2.2.2.2.2.1 x.2.2.1.2.2.2.2.2.2.2.1 x.2.2.1.2.2.2.2.2.2.2.2.1 x.2.2.1.2.2.2.2.2.2.2.2.2.1⟩
theorem qh : ∀ F x, dL (N4 n) 14 15 0 5 (kF n) F x = (fg (eo q_)) (lJ n F) x := fun F x => by kernel_rfl
def hZ : Cx := Cx.addLoop (N4 n) 15 5 (kF n)
theorem qi : Good (hZ n) := Good.loop (Rd n) 14 0 (by kernel_rfl) (qh n) n (fun _ => rfl) (fun _ => rfl) (fun _ => rfl) rfl
theorem ut : dw (hZ n) 14 15 0 (lK n) := fun x => by kernel_rfl
def N5 : Cx := (Cx.bare (hZ n)).addSpec 15 (lK n)
theorem Re : Good (N5 n) := Good.fn (qi n) 14 0 (ut n) (fun _ => rfl) rfl
def lL (v1 : dm) (v2 v3 : (List Int)) (v4 : Bool) (v5 : Int) (v6 v7 v8 v9 : (List Int)) (v10 : Int) (v11 : (List Int)) (v12 v13 v14 v15 v16 v17 v18 : Int) (v19 : (List Int)) (v20 : (List (List Int))) (v21 : da) (v22 : (List Nat)) (v23 : (List (List Int))) (v24 : (List Int)) : Option (gL × Int × dm × (List Int) × (List Int) × Bool × Int × (List Int) × (List Int) × (List Int) × (List Int) × Int × (List Int) × Int × Int × Int × Int × Int × Int × Int × (List Int) × (List (List Int)) × da × (List Nat) × (List (List Int)) × (List Int)) := eB n v1 v2 v3 v4 v5 v6 v7 v8 v9 v10 v11 v12 v13 v14 v23 (fun r0 r1 r2 r3 r4 r5 r6 r7 r8 r9 r10 r11 r12 r13 r14 r15 r24 => some (r0, r1, r2, r3, r4, r5, r6, r7, r8, r9, r10, r11, r12, r13, r14, r15, v15, v16, v17, v18, v19, v20, v21, v22, r24, v24))
def lq : FS := ⟨⟨[.obj 0, .inn 1 8], [nl, [.val cY, .val cY, .val cY, .val cY, .val dz, .val ep, .val eh, .val (.sl (.fp 120)), .val eL, .row 3 cY]]⟩, ⟨[.val iQ, .val cY], [nl, [.val cY, .val cY, .val cY, .val cY, .val dz, .val ep, .val eh, .val (.sl (.fp 120)), .val eL, .row 3 cY]]⟩, (gL × Int × dm × (List Int) × (List Int) × Bool × Int × (List Int) × (List Int) × (List Int) × (List Int) × Int × (List Int) × Int × Int × Int × Int × Int × Int × Int × (List Int) × (List (List Int)) × da × (List Nat) × (List (List Int)) × (List Int)), fun y => ((U_ v_) y, (dD (ec (U_ v_))) y.2.2, (dD (U_ u_)) y.2.2.2.2.2.2.2.2.2.2.2.2.2.2.2.2, ()), fun (o : ((gL × Int × Unit) × (di × (Int × Int × Int × Int × (List Int) × (List (List Int)) × da × (List Nat) × (List (List Int)) × (List Int) × Unit) × Unit))) => (J_ j_) o.1 ((ye (lE (J_ j_))) o.2.1 ((dD (U_ k_)) o.2.2.1)), fun (x : (Unit × (di × (Int × Int × Int × Int × (List Int) × (List (List Int)) × da × (List Nat) × (List (List Int)) × (List Int) × Unit) × Unit))) => lL n x.2.1.1 x.2.1.2.1 x.2.1.2.2.1 x.2.1.2.2.2.1 x.2.1.2.2.2.2.1 x.2.1.2.2.2.2.2.1 x.2.1.2.2.2.2.2.2.1 x.2.1.2.2.2.2.2.2.2.1 x.2.1.2.2.2.2.2.2.2.2.1 x.2.1.2.2.2.2.2.2.2.2.2.1 x.2.1.2.2.2.2.2.2.2.2.2.2.1 x.2.1.2.2.2.2.2.2.2.2.2.2.2.1 x.2.1.2.2.2.2.2.2.2.2.2.2.2.2.1 x.2.1.2.2.2.2.2.2.2.2.2.2.2.2.2.1 x.2.2.1.1 x.2.2.1.2.1 x.2.2.1.2.2.1 x.2.2.1.2.2.2.1 x.2.2.1.2.2.2.2.1 x.2.2.1.2.2.2.2.2.1 x.2.2.1.2.2.2.2.2.2.1 x.2.2.1.2.2.2.2.2.2.2.1 x.2.2.1.2.2.2.2.2.2.2.2.1 x.2.2.1.2.2.2.2.2.2.2.2.2.1⟩
theorem sB : dw (N5 n) 14 28 0 (lq n) := fun x => by kernel_rfl
def N6 : Cx := (Cx.bare (N5 n)).addSpec 28 (lq n)
theorem Rf : Good (N6 n) := Good.fn (Re n) 14 0 (sB n) (fun _ => rfl) rfl
def lr (v1 : Nat) (v2 : (List di)) (v3 v4 v5 v6 : Int) (v7 : (List Int)) (v8 : (List (List Int))) (v9 : da) (v10 : (List Nat)) (v11 : (List (List Int))) (v12 : (List Int)) : Option (gL × Int × (List di) × Int × Int × Int × Int × (List Int) × (List (List Int)) × da × (List Nat) × (List (List Int)) × (List Int)) := jd v2 v1 fun m13 => ((lL n m13.1 m13.2.1 m13.2.2.1 m13.2.2.2.1 m13.2.2.2.2.1 m13.2.2.2.2.2.1 m13.2.2.2.2.2.2.1 m13.2.2.2.2.2.2.2.1 m13.2.2.2.2.2.2.2.2.1 m13.2.2.2.2.2.2.2.2.2.1 m13.2.2.2.2.2.2.2.2.2.2.1 m13.2.2.2.2.2.2.2.2.2.2.2.1 m13.2.2.2.2.2.2.2.2.2.2.2.2.1 m13.2.2.2.2.2.2.2.2.2.2.2.2.2.1 v3 v4 v5 v6 v7 v8 v9 v10 v11 v12).bind fun y14 => (some ((y14.1.1, y14.1.2), y14.2.1, (v2.set (v1 - 1) (y14.2.2.1, y14.2.2.2.1, y14.2.2.2.2.1, y14.2.2.2.2.2.1, y14.2.2.2.2.2.2.1, y14.2.2.2.2.2.2.2.1, y14.2.2.2.2.2.2.2.2.1, y14.2.2.2.2.2.2.2.2.2.1, y14.2.2.2.2.2.2.2.2.2.2.1, y14.2.2.2.2.2.2.2.2.2.2.2.1, y14.2.2.2.2.2.2.2.2.2.2.2.2.1, y14.2.2.2.2.2.2.2.2.2.2.2.2.2.1, y14.2.2.2.2.2.2.2.2.2.2.2.2.2.2.1, y14.2.2.2.2.2.2.2.2.2.2.2.2.2.2.2.1, ())), y14.2.2.2.2.2.2.2.2.2.2.2.2.2.2.2.2.1, y14.2.2.2.2.2.2.2.2.2.2.2.2.2.2.2.2.2.1, y14.2.2.2.2.2.2.2.2.2.2.2.2.2.2.2.2.2.2.1, y14.2.2.2.2.2.2.2.2.2.2.2.2.2.2.2.2.2.2.2.1, y14.2.2.2.2.2.2.2.2.2.2.2.2.2.2.2.2.2.2.2.2.1, y14.2.2.2.2.2.2.2.2.2.2.2.2.2.2.2.2.2.2.2.2.2.1, y14.2.2.2.2.2.2.2.2.2.2.2.2.2.2.2.2.2.2.2.2.2.2.1, y14.2.2.2.2.2.2.2.2.2.2.2.2.2.2.2.2.2.2.2.2.2.2.2.1, y14.2.2.2.2.2.2.2.2.2.2.2.2.2.2.2.2.2.2.2.2.2.2.2.2.1, y14.2.2.2.2.2.2.2.2.2.2.2.2.2.2.2.2.2.2.2.2.2.2.2.2.2)))
def kG : FS := ⟨⟨[.val (.fp 120), .inn 1 8], [[.fam 120 dT], [.val cY, .val cY, .val cY, .val cY, .val dz, .val ep, .val eh, .val (.sl (.fp 120)), .val eL, .row 3 cY]]⟩, ⟨[.val iQ, .val cY], [[.fam 120 dT], [.val cY, .val cY, .val cY, .val cY, .val dz, .val ep, .val eh, .val (.sl (.fp 120)), .val eL, .row 3 cY]]⟩, (gL × Int × (List di) × Int × Int × Int × Int × (List Int) × (List (List Int)) × da × (List Nat) × (List (List Int)) × (List Int)), fun y => ((U_ v_) y, (y.2.2.1, ()), (dD (U_ u_)) y.2.2.2, ()), fun (o : ((gL × Int × Unit) × (fd × (Int × Int × Int × Int × (List Int) × (List (List Int)) × da × (List Nat) × (List (List Int)) × (List Int) × Unit) × Unit))) => (J_ j_) o.1 ((o.2.1.1, ((dD (U_ k_)) o.2.2.1))), fun (x : ((Nat × Unit) × (fd × (Int × Int × Int × Int × (List Int) × (List (List Int)) × da × (List Nat) × (List (List Int)) × (List Int) × Unit) × Unit))) => lr n x.1.1 x.2.1.1 x.2.2.1.1 x.2.2.1.2.1 x.2.2.1.2.2.1 x.2.2.1.2.2.2.1 x.2.2.1.2.2.2.2.1 x.2.2.1.2.2.2.2.2.1 x.2.2.1.2.2.2.2.2.2.1 x.2.2.1.2.2.2.2.2.2.2.1 x.2.2.1.2.2.2.2.2.2.2.2.1 x.2.2.1.2.2.2.2.2.2.2.2.2.1⟩
theorem rC : mu (N6 n) 14 28 0 (kG n) true 0 120 dT false := fun x => by kernel_rfl
def N7 : Cx := (Cx.bare (N6 n)).addSpec 28 (kG n)
theorem Rg : Good (N7 n) := je (Rf n) 14 0 true 0 120 dT false (rC n) (fun _ => rfl) rfl (by decide) rfl
def H8 (F : ((List di) × Nat × Int × Int × Int × Int × (List Int) × (List (List Int)) × da × (List Nat) × (List (List Int)) × (List Int)) → Option (((List di) × Nat × Int × Int × Int × Int × (List Int) × (List (List Int)) × da × (List Nat) × (List (List Int)) × (List Int)))) (v29 : (List di)) (v30 : Nat) (v31 v32 v33 v34 : Int) (v35 : (List Int)) (v36 : (List (List Int))) (v37 : da) (v38 : (List Nat)) (v39 : (List (List Int))) (v40 : (List Int)) : Option (((List di) × Nat × Int × Int × Int × Int × (List Int) × (List (List Int)) × da × (List Nat) × (List (List Int)) × (List Int))) := (lr n v30 v29 v31 v32 v33 v34 v35 v36 v37 v38 v39 v40).bind fun y41 => ((fa n v30 y41.2.2.1).bind fun y42 => (if y42.1 then (F (y42.2, v30, y41.2.2.2.1, y41.2.2.2.2.1, y41.2.2.2.2.2.1, y41.2.2.2.2.2.2.1, y41.2.2.2.2.2.2.2.1, y41.2.2.2.2.2.2.2.2.1, y41.2.2.2.2.2.2.2.2.2.1, y41.2.2.2.2.2.2.2.2.2.2.1, y41.2.2.2.2.2.2.2.2.2.2.2.1, y41.2.2.2.2.2.2.2.2.2.2.2.2)) else (some (y42.2, v30, y41.2.2.2.1, y41.2.2.2.2.1, y41.2.2.2.2.2.1, y41.2.2.2.2.2.2.1, y41.2.2.2.2.2.2.2.1, y41.2.2.2.2.2.2.2.2.1, y41.2.2.2.2.2.2.2.2.2.1, y41.2.2.2.2.2.2.2.2.2.2.1, y41.2.2.2.2.2.2.2.2.2.2.2.1, y41.2.2.2.2.2.2.2.2.2.2.2.2))))
def CY : ((List di) × Nat × Int × Int × Int × Int × (List Int) × (List (List Int)) × da × (List Nat) × (List (List Int)) × (List Int)) → Option (((List di) × Nat × Int × Int × Int × Int × (List Int) × (List (List Int)) × da × (List Nat) × (List (List Int)) × (List Int))) := it (fun F => (fg (dZ q_)) (H8 n F)) n
def CZ : Loop := ⟨⟨dn 60 0 [(3, .obj 1), (8, .obj 2), (9, .clo 38 [2, 1])], [[.fam 120 dT], [.obj 3], [.val (.fp 120)], [.val cY, .val cY, .val cY, .val cY, .val dz, .val ep, .val eh, .val (.sl (.fp 120)), .val eL, .row 3 cY]]⟩, [(.exit 1, ⟨dn 60 0 [(3, .obj 1), (8, .obj 2)], [[.fam 120 dT], [.obj 3], [.val (.fp 120)], [.val cY, .val cY, .val cY, .val cY, .val dz, .val ep, .val eh, .val (.sl (.fp 120)), .val eL, .row 3 cY]]⟩)], ((List di) × Nat × Int × Int × Int × Int × (List Int) × (List (List Int)) × da × (List Nat) × (List (List Int)) × (List Int)), fun x => ((), (x.1, ()), (), (x.2.1, ()), (dD (U_ u_)) x.2.2, ()), fun (x : (Unit × (fd × Unit × (Nat × Unit) × (Int × Int × Int × Int × (List Int) × (List (List Int)) × da × (List Nat) × (List (List Int)) × (List Int) × Unit) × Unit))) => (x.2.1.1, ((x.2.2.2.1.1, ((dD (U_ k_)) x.2.2.2.2.1)))), ((List di) × Nat × Int × Int × Int × Int × (List Int) × (List (List Int)) × da × (List Nat) × (List (List Int)) × (List Int)), fun y => ((), (y.1, ()), (), (y.2.1, ()), (dD (U_ u_)) y.2.2, ()), fun (o : (Unit × (fd × Unit × (Nat × Unit) × (Int × Int × Int × Int × (List Int) × (List (List Int)) × da × (List Nat) × (List (List Int)) × (List Int) × Unit) × Unit))) => (o.2.1.1, ((o.2.2.2.1.1, ((dD (U_ k_)) o.2.2.2.2.1)))), CY n⟩
def H9 (n : Nat) (F : (eb × Int × Int × (List di) × Nat × Int × Int × Int × Int × (List Int) × (List (List Int)) × da × (List Nat) × (List (List Int)) × (List Int)) → Option (((List di) × Nat × Int × Int × Int × Int × (List Int) × (List (List Int)) × da × (List Nat) × (List (List Int)) × (List Int)))) (v29 : eb) (v30 v31 : Int) (v32 : (List di)) (v33 : Nat) (v34 v35 v36 v37 : Int) (v38 : (List Int)) (v39 : (List (List Int))) (v40 : da) (v41 : (List Nat)) (v42 : (List (List Int))) (v43 : (List Int)) : Option (((List di) × Nat × Int × Int × Int × Int × (List Int) × (List (List Int)) × da × (List Nat) × (List (List Int)) × (List Int))) := if (decide (v31 < v30)) then (if (decide (0 ≤ v31) && decide (v31 < (v29.length : Int))) then (if (decide (0 ≤ (v29.getD v31.toNat (0, 0)).1) && decide ((v29.getD v31.toNat (0, 0)).1 < (v43.length : Int))) then (F (v29, v30, (wrap .i64 (v31 + 1)), v32, v33, v34, v35, v36, v37, v38, v39, v40, v41, v42, (v43.set ((v29.getD v31.toNat (0, 0)).1).toNat (v29.getD v31.toNat (0, 0)).2))) else none) else none) else (some (v32, v33, v34, v35, v36, v37, v38, v39, v40, v41, v42, v43))
def C0 : (eb × Int × Int × (List di) × Nat × Int × Int × Int × Int × (List Int) × (List (List Int)) × da × (List Nat) × (List (List Int)) × (List Int)) → Option (((List di) × Nat × Int × Int × Int × Int × (List Int) × (List (List Int)) × da × (List Nat) × (List (List Int)) × (List Int))) := it (fun F => (fg (eo (C_ q_))) (H9 n F)) n
def C1 : Loop := ⟨⟨dn 60 0 [(3, .obj 1), (8, .obj 2), (42, .val (.sl iQ)), (43, .val cY), (44, .val cY)], [[.fam 120 dT], [.obj 3], [.val (.fp 120)], [.val cY, .val cY, .val cY, .val cY, .val dz, .val ep, .val eh, .val (.sl (.fp 120)), .val eL, .row 3 cY]]⟩, [(.exit 3, ⟨dn 60 0 [(8, .obj 2)], [[.fam 120 dT], [.obj 3], [.val (.fp 120)], [.val cY, .val cY, .val cY, .val cY, .val dz, .val ep, .val eh, .val (.sl (.fp 120)), .val eL, .row 3 cY]]⟩)], (eb × Int × Int × (List di) × Nat × Int × Int × Int × Int × (List Int) × (List (List Int)) × da × (List Nat) × (List (List Int)) × (List Int)), fun x => ((dF v_) x, (x.2.2.2.1, ()), (), (x.2.2.2.2.1, ()), (dD (U_ u_)) x.2.2.2.2.2, ()), fun (x : ((eb × Int × Int × Unit) × (fd × Unit × (Nat × Unit) × (Int × Int × Int × Int × (List Int) × (List (List Int)) × da × (List Nat) × (List (List Int)) × (List Int) × Unit) × Unit))) => (fX j_) x.1 ((x.2.1.1, ((x.2.2.2.1.1, ((dD (U_ k_)) x.2.2.2.2.1))))), ((List di) × Nat × Int × Int × Int × Int × (List Int) × (List (List Int)) × da × (List Nat) × (List (List Int)) × (List Int)), fun y => ((), (y.1, ()), (), (y.2.1, ()), (dD (U_ u_)) y.2.2, ()), fun (o : (Unit × (fd × Unit × (Nat × Unit) × (Int × Int × Int × Int × (List Int) × (List (List Int)) × da × (List Nat) × (List (List Int)) × (List Int) × Unit) × Unit))) => (o.2.1.1, ((o.2.2.2.1.1, ((dD (U_ k_)) o.2.2.2.2.1)))), C0 n⟩
def O2 (v1 : Int) (v2 : (List Int)) (v3 : (List di)) (v4 v5 v6 v7 : Int) (v8 : (List Int)) (v9 : (List (List Int))) (v10 : da) (v11 : (List Nat)) (v12 : (List (List Int))) (v13 : (List Int)) : Option (eb × Int × (List di) × Int × Int × Int × Int × (List Int) × (List (List Int)) × da × (List Nat) × (List (List Int)) × (List Int)) := if ((v11.length : Int) == 0) then (some ([], 15, v3, v4, v5, v6, v7, v8, v9, v10, v11, v12, v13)) else (if (decide (v1 ≥ 0)) then (if (!(decide (v1 < (v11.length : Int)))) then (some ([], 14, v3, v4, v5, v6, v7, v8, v9, v10, v11, v12, v13)) else (if (decide (0 ≤ v1) && decide (v1 < (v11.length : Int))) then ((fw n (v11.getD v1.toNat (0 : Nat)) v2 v3).bind fun y14 => ((CY n (y14.2, (v11.getD v1.toNat (0 : Nat)), v4, v5, v6, v7, v8, v9, v10, v11, v12, v13)).bind fun y15 => ((eG n y15.2.1 y15.1).bind fun y16 => ((C0 n (y16.1, (y16.1.length : Int), 0, y16.2, y15.2.1, y15.2.2.1, y15.2.2.2.1, y15.2.2.2.2.1, y15.2.2.2.2.2.1, y15.2.2.2.2.2.2.1, y15.2.2.2.2.2.2.2.1, y15.2.2.2.2.2.2.2.2.1, y15.2.2.2.2.2.2.2.2.2.1, y15.2.2.2.2.2.2.2.2.2.2.1, y15.2.2.2.2.2.2.2.2.2.2.2)).bind fun y17 => ((eG n y17.2.1 y17.1).bind fun y18 => (some (y18.1, 0, y18.2, y17.2.2.1, y17.2.2.2.1, y17.2.2.2.2.1, y17.2.2.2.2.2.1, y17.2.2.2.2.2.2.1, y17.2.2.2.2.2.2.2.1, y17.2.2.2.2.2.2.2.2.1, y17.2.2.2.2.2.2.2.2.2.1, y17.2.2.2.2.2.2.2.2.2.2.1, y17.2.2.2.2.2.2.2.2.2.2.2))))))) else none)) else (some ([], 14, v3, v4, v5, v6, v7, v8, v9, v10, v11, v12, v13)))
def Ia : FS := ⟨⟨[.obj 1, .val cY, .val la], [[.fam 120 dT], [.val cY, .val cY, .val cY, .val cY, .val dz, .val ep, .val eh, .val (.sl (.fp 120)), .val eL, .row 3 cY]]⟩, ⟨[.val (.sl iQ), .val cY], [[.fam 120 dT], [.val cY, .val cY, .val cY, .val cY, .val dz, .val ep, .val eh, .val (.sl (.fp 120)), .val eL, .row 3 cY]]⟩, (eb × Int × (List di) × Int × Int × Int × Int × (List Int) × (List (List Int)) × da × (List Nat) × (List (List Int)) × (List Int)), fun y => ((U_ v_) y, (y.2.2.1, ()), (dD (U_ u_)) y.2.2.2, ()), fun (o : ((eb × Int × Unit) × (fd × (Int × Int × Int × Int × (List Int) × (List (List Int)) × da × (List Nat) × (List (List Int)) × (List Int) × Unit) × Unit))) => (J_ j_) o.1 ((o.2.1.1, ((dD (U_ k_)) o.2.2.1))), fun (x : (Cy × (fd × (Int × Int × Int × Int × (List Int) × (List (List Int)) × da × (List Nat) × (List (List Int)) × (List Int) × Unit) × Unit))) => O2 n x.1.1 x.1.2.1 x.2.1.1 x.2.2.1.1 x.2.2.1.2.1 x.2.2.1.2.2.1 x.2.2.1.2.2.2.1 x.2.2.1.2.2.2.2.1 x.2.2.1.2.2.2.2.2.1 x.2.2.1.2.2.2.2.2.2.1 x.2.2.1.2.2.2.2.2.2.2.1 x.2.2.1.2.2.2.2.2.2.2.2.1 x.2.2.1.2.2.2.2.2.2.2.2.2.1⟩
theorem Ks : ∀ F x, dL (N7 n) 14 16 0 8 (CZ n) F x = (fg (dZ q_)) (H8 n F) x := fun F x => by kernel_rfl
def xi : Cx := Cx.addLoop (N7 n) 16 8 (CZ n)
theorem Kt : Good (xi n) := Good.loop (Rg n) 14 0 (by kernel_rfl) (Ks n) n (fun _ => rfl) (fun _ => rfl) (fun _ => rfl) rfl
theorem Ku : ∀ F x, dL (xi n) 14 16 0 10 (C1 n) F x = (fg (eo (C_ q_))) (H9 n F) x := fun F x => by kernel_rfl
def xj : Cx := Cx.addLoop (xi n) 16 10 (C1 n)
theorem Kv : Good (xj n) := Good.loop (Kt n) 14 0 (by kernel_rfl) (Ku n) n (fun _ => rfl) (fun _ => rfl) (fun _ => rfl) rfl
theorem O3 : dw (xj n) 14 16 0 (Ia n) := fun x => by kernel_rfl
def N8 : Cx := (Cx.bare (xj n)).addSpec 16 (Ia n)
theorem Rh : Good (N8 n) := Good.fn (Kv n) 14 0 (O3 n) (fun _ => rfl) rfl
def vw (n : Nat) (F : (eb × eb × Int) → Option (eb)) (v1 v2 : eb) (v3 : Int) : Option (eb) := if (decide (v3 < (v1.length : Int))) then (if (decide (0 ≤ v3) && decide (v3 < (v1.length : Int))) then (if (decide (0 ≤ v3) && decide (v3 < (v1.length : Int))) then (if (decide ((v2.length + 1) * 16 ≤ 140737488355328) && decide (1 ≤ 16)) then (F (v1, (v2 ++ [((v1.getD v3.toNat (0, 0)).1, (v1.getD v3.toNat (0, 0)).2)]), (wrap .i64 (v3 + 1)))) else none) else none) else none) else (some v2)
def uu : (eb × eb × Int) → Option (eb) := it (fun F => (C_ q_) (vw n F)) n
def Ak : Loop := ⟨⟨dn 26 0 [(0, .val (.sl iQ)), (3, .row 98 iQ), (4, .val cY)], []⟩, [(.exit 0, ⟨dn 26 0 [(3, .row 98 iQ)], []⟩)], (eb × eb × Int), fun x => ((dF u_) x, ()), fun (x : ((eb × eb × Int × Unit) × Unit)) => (x.1.1, x.1.2.1, x.1.2.2.1), eb, fun y => ((y, ()), ()), fun (o : ((eb × Unit) × Unit)) => o.1.1, uu n⟩
def uv (a0 : eb) : Option eb := (uu n (a0, [], 0)).bind fun y4 => (some y4)
def EO : FS := ⟨⟨[.val (.sl iQ)], []⟩, ⟨[.val (.sl iQ)], []⟩, eb, fun y => ((y, ()), ()), fun o => o.1.1, fun x => uv n x.1.1⟩
theorem Ic : ∀ F x, dL (N8 n) 14 19 0 3 (Ak n) F x = (C_ q_) (vw n F) x := fun F x => by kernel_rfl
def uw : Cx := Cx.addLoop (N8 n) 19 3 (Ak n)
theorem Id : Good (uw n) := Good.loop (Rh n) 14 0 (by kernel_rfl) (Ic n) n (fun _ => rfl) (fun _ => rfl) (fun _ => rfl) rfl
theorem N9 : dw (uw n) 14 19 0 (EO n) := fun x => by kernel_rfl
def Oa : Cx := (Cx.bare (uw n)).addSpec 19 (EO n)
theorem Ri : Good (Oa n) := Good.fn (Id n) 14 0 (N9 n) (fun _ => rfl) rfl
def vx (n : Nat) (F : (eb × eb × Int) → Option (iS)) (v1 v2 : eb) (v3 : Int) : Option (iS) := if (decide (v3 < (v1.length : Int))) then (if (decide (0 ≤ v3) && decide (v3 < (v1.length : Int))) then (if (decide (0 ≤ v3) && decide (v3 < (v2.length : Int))) then (if (!(((v1.getD v3.toNat (0, 0)).1 == (v2.getD v3.toNat (0, 0)).1) && ((v1.getD v3.toNat (0, 0)).2 == (v2.getD v3.toNat (0, 0)).2))) then (some (.inl ((false, ()), ()))) else (F (v1, v2, (wrap .i64 (v3 + 1))))) else none) else none) else (some (.inr ((), ())))
def uy : (eb × eb × Int) → Option (iS) := it (fun F => (C_ q_) (vx n F)) n
def Al : Loop := ⟨⟨dn 26 0 [(0, .val (.sl iQ)), (1, .val (.sl iQ)), (5, .val cY)], []⟩, [(.ret, ⟨dn 26 0 [(4, .val .bool)], []⟩), (.exit 0, ⟨dn 26 0 [], []⟩)], (eb × eb × Int), fun x => ((dF u_) x, ()), fun (x : ((eb × eb × Int × Unit) × Unit)) => (x.1.1, x.1.2.1, x.1.2.2.1), iS, fun y => y, fun y => y, uy n⟩
def yx (a0 : eb) (a1 : eb) : Option Bool := if ((a0.length : Int) != (a1.length : Int)) then (some false) else ((uy n (a0, a1, 0)).bind fun y4 => ((Sum.elim (fun (z5 : (gg × Unit)) => (some z5.1.1)) (fun (z6 : nf) => (some true))) y4))
def EP : FS := ⟨⟨[.val (.sl iQ), .val (.sl iQ)], []⟩, ⟨[.val .bool], []⟩, Bool, fun y => ((y, ()), ()), fun o => o.1.1, fun x => yx n x.1.1 x.1.2.1⟩
theorem Ie : ∀ F x, dL (Oa n) 14 18 0 4 (Al n) F x = (C_ q_) (vx n F) x := fun F x => by kernel_rfl
def uz : Cx := Cx.addLoop (Oa n) 18 4 (Al n)
theorem If : Good (uz n) := Good.loop (Ri n) 14 0 (by kernel_rfl) (Ie n) n (fun _ => rfl) (fun _ => rfl) (fun _ => rfl) rfl
theorem Ob : dw (uz n) 14 18 0 (EP n) := fun x => by kernel_rfl
def Oc : Cx := (Cx.bare (uz n)).addSpec 18 (EP n)
theorem Rj : Good (Oc n) := Good.fn (If n) 14 0 (Ob n) (fun _ => rfl) rfl
def sC (n : Nat) (v1 : (List di)) (v2 v3 v4 v5 : Int) (v6 : (List Int)) (v7 : (List (List Int))) (v8 : da) (v9 : (List Nat)) (v10 : (List (List Int))) (v11 : (List Int)) : Option ((List Int) × (List di) × Int × Int × Int × Int × (List Int) × (List (List Int)) × da × (List Nat) × (List (List Int)) × (List Int)) := if (decide (0 = 0) && decide (0 = 0) && decide (v11.length * 8 ≤ 140737488355328) && decide (1 ≤ 8)) then (some (v11, v1, v2, v3, v4, v5, v6, v7, v8, v9, v10, v11)) else none
def lu : FS := ⟨⟨[.obj 1], [[.fam 120 dT], [.val cY, .val cY, .val cY, .val cY, .val dz, .val ep, .val eh, .val (.sl (.fp 120)), .val eL, .row 3 cY]]⟩, ⟨[.val dz], [[.fam 120 dT], [.val cY, .val cY, .val cY, .val cY, .val dz, .val ep, .val eh, .val (.sl (.fp 120)), .val eL, .row 3 cY]]⟩, ((List Int) × (List di) × Int × Int × Int × Int × (List Int) × (List (List Int)) × da × (List Nat) × (List (List Int)) × (List Int)), fun y => ((y.1, ()), (y.2.1, ()), (dD (U_ u_)) y.2.2, ()), fun (o : (kh × (fd × (Int × Int × Int × Int × (List Int) × (List (List Int)) × da × (List Nat) × (List (List Int)) × (List Int) × Unit) × Unit))) => (o.1.1, ((o.2.1.1, ((dD (U_ k_)) o.2.2.1)))), fun (x : (Unit × (fd × (Int × Int × Int × Int × (List Int) × (List (List Int)) × da × (List Nat) × (List (List Int)) × (List Int) × Unit) × Unit))) => sC n x.2.1.1 x.2.2.1.1 x.2.2.1.2.1 x.2.2.1.2.2.1 x.2.2.1.2.2.2.1 x.2.2.1.2.2.2.2.1 x.2.2.1.2.2.2.2.2.1 x.2.2.1.2.2.2.2.2.2.1 x.2.2.1.2.2.2.2.2.2.2.1 x.2.2.1.2.2.2.2.2.2.2.2.1 x.2.2.1.2.2.2.2.2.2.2.2.2.1⟩
theorem sD : dw (Oc n) 14 21 0 (lu n) := fun x => by kernel_rfl
def Od : Cx := (Cx.bare (Oc n)).addSpec 21 (lu n)
theorem Rk : Good (Od n) := Good.fn (Rj n) 14 0 (sD n) (fun _ => rfl) rfl
def EQ (n : Nat) (F : CB → Option (iS)) (v1 v2 : (List Int)) (v3 : Int) : Option (iS) := if (decide (v3 < (v1.length : Int))) then (if (decide (0 ≤ v3) && decide (v3 < (v1.length : Int))) then (if (decide (0 ≤ v3) && decide (v3 < (v2.length : Int))) then (if ((v1.getD v3.toNat 0) != (v2.getD v3.toNat 0)) then (some (.inl ((false, ()), ()))) else (F (v1, v2, (wrap .i64 (v3 + 1))))) else none) else none) else (some (.inr ((), ())))
def Am : CB → Option (iS) := it (fun F => (C_ q_) (EQ n F)) n
def Ao : Loop := ⟨⟨dn 26 0 [(0, .val dz), (1, .val dz), (5, .val cY)], []⟩, [(.ret, ⟨dn 26 0 [(4, .val .bool)], []⟩), (.exit 0, ⟨dn 26 0 [], []⟩)], CB, fun x => ((dF u_) x, ()), fun (x : JH) => (x.1.1, x.1.2.1, x.1.2.2.1), iS, fun y => y, fun y => y, Am n⟩
def Oe (a0 : (List Int)) (a1 : (List Int)) : Option Bool := if ((a0.length : Int) != (a1.length : Int)) then (some false) else ((Am n (a0, a1, 0)).bind fun y4 => ((Sum.elim (fun (z5 : (gg × Unit)) => (some z5.1.1)) (fun (z6 : nf) => (some true))) y4))
def ER : FS := ⟨⟨[.val dz, .val dz], []⟩, ⟨[.val .bool], []⟩, Bool, fun y => ((y, ()), ()), fun o => o.1.1, fun x => Oe n x.1.1 x.1.2.1⟩
theorem Ig : ∀ F x, dL (Od n) 14 20 0 4 (Ao n) F x = (C_ q_) (EQ n F) x := fun F x => by kernel_rfl
def uA : Cx := Cx.addLoop (Od n) 20 4 (Ao n)
theorem Ih : Good (uA n) := Good.loop (Rk n) 14 0 (by kernel_rfl) (Ig n) n (fun _ => rfl) (fun _ => rfl) (fun _ => rfl) rfl
theorem Of : dw (uA n) 14 20 0 (ER n) := fun x => by kernel_rfl
def Og : Cx := (Cx.bare (uA n)).addSpec 20 (ER n)
theorem Rl : Good (Og n) := Good.fn (Ih n) 14 0 (Of n) (fun _ => rfl) rfl
def sE (n : Nat) (v1 : Int) (v2 : (List di)) (v3 v4 v5 v6 : Int) (v7 : (List Int)) (v8 : (List (List Int))) (v9 : da) (v10 : (List Nat)) (v11 : (List (List Int))) (v12 : (List Int)) : Option ((List Int) × (List di) × Int × Int × Int × Int × (List Int) × (List (List Int)) × da × (List Nat) × (List (List Int)) × (List Int)) := if (decide (v1 < 0)) then (some ([], v2, v3, v4, v5, v6, v7, v8, v9, v10, v11, v12)) else (if (decide (v1 ≥ (v8.length : Int))) then (some ([], v2, v3, v4, v5, v6, v7, v8, v9, v10, v11, v12)) else (if (decide (0 ≤ v1) && decide (v1 < 8)) then (if (decide (0 ≤ v1) && decide (v1 < (v8.length : Int))) then (if (decide (0 ≤ (((v8.getD v1.toNat []).length : Nat) : Int)) && decide ((((v8.getD v1.toNat []).length : Nat) : Int) ≤ 8)) then (if (decide (0 = 0) && decide (0 = 0) && decide (((v11.getD v1.toNat [0, 0, 0, 0, 0, 0, 0, 0]).take ((((v8.getD v1.toNat []).length : Nat) : Int)).toNat).length * 8 ≤ 140737488355328) && decide (1 ≤ 8)) then (some (((v11.getD v1.toNat [0, 0, 0, 0, 0, 0, 0, 0]).take ((((v8.getD v1.toNat []).length : Nat) : Int)).toNat), v2, v3, v4, v5, v6, v7, v8, v9, v10, v11, v12)) else none) else none) else none) else none))
def lv : FS := ⟨⟨[.obj 1, .val cY], [[.fam 120 dT], [.val cY, .val cY, .val cY, .val cY, .val dz, .val ep, .val eh, .val (.sl (.fp 120)), .val eL, .row 3 cY]]⟩, ⟨[.val dz], [[.fam 120 dT], [.val cY, .val cY, .val cY, .val cY, .val dz, .val ep, .val eh, .val (.sl (.fp 120)), .val eL, .row 3 cY]]⟩, ((List Int) × (List di) × Int × Int × Int × Int × (List Int) × (List (List Int)) × da × (List Nat) × (List (List Int)) × (List Int)), fun y => ((y.1, ()), (y.2.1, ()), (dD (U_ u_)) y.2.2, ()), fun (o : (kh × (fd × (Int × Int × Int × Int × (List Int) × (List (List Int)) × da × (List Nat) × (List (List Int)) × (List Int) × Unit) × Unit))) => (o.1.1, ((o.2.1.1, ((dD (U_ k_)) o.2.2.1)))), fun (x : (gX × (fd × (Int × Int × Int × Int × (List Int) × (List (List Int)) × da × (List Nat) × (List (List Int)) × (List Int) × Unit) × Unit))) => sE n x.1.1 x.2.1.1 x.2.2.1.1 x.2.2.1.2.1 x.2.2.1.2.2.1 x.2.2.1.2.2.2.1 x.2.2.1.2.2.2.2.1 x.2.2.1.2.2.2.2.2.1 x.2.2.1.2.2.2.2.2.2.1 x.2.2.1.2.2.2.2.2.2.2.1 x.2.2.1.2.2.2.2.2.2.2.2.1 x.2.2.1.2.2.2.2.2.2.2.2.2.1⟩
theorem sF : dw (Og n) 14 22 0 (lv n) := fun x => by kernel_rfl
def Oh : Cx := (Cx.bare (Og n)).addSpec 22 (lv n)
theorem Rm : Good (Oh n) := Good.fn (Rl n) 14 0 (sF n) (fun _ => rfl) rfl
def qj (n : Nat) (v1 : Int) (v2 : (List di)) (v3 v4 v5 v6 : Int) (v7 : (List Int)) (v8 : (List (List Int))) (v9 : da) (v10 : (List Nat)) (v11 : (List (List Int))) (v12 : (List Int)) : Option ((List Int) × (List di) × Int × Int × Int × Int × (List Int) × (List (List Int)) × da × (List Nat) × (List (List Int)) × (List Int)) := if (decide (v1 < 0)) then (some ([], v2, v3, v4, v5, v6, v7, v8, v9, v10, v11, v12)) else (if (decide (v1 ≥ (v8.length : Int))) then (some ([], v2, v3, v4, v5, v6, v7, v8, v9, v10, v11, v12)) else (if (decide (0 ≤ v1) && decide (v1 < 8)) then (if (decide (0 ≤ v1) && decide (v1 < (v8.length : Int))) then (if (decide (0 ≤ (((v8.getD v1.toNat []).length : Nat) : Int)) && decide ((((v8.getD v1.toNat []).length : Nat) : Int) ≤ 8)) then (if (decide (0 = 0) && decide (0 = 0) && decide (((v11.getD v1.toNat [0, 0, 0, 0, 0, 0, 0, 0]).take ((((v8.getD v1.toNat []).length : Nat) : Int)).toNat).length * 8 ≤ 140737488355328) && decide (1 ≤ 8)) then (some (((v11.getD v1.toNat [0, 0, 0, 0, 0, 0, 0, 0]).take ((((v8.getD v1.toNat []).length : Nat) : Int)).toNat), v2, v3, v4, v5, v6, v7, v8, v9, v10, v11, v12)) else none) else none) else none) else none))
def jR : FS := ⟨⟨[.obj 1, .val cY], [[.fam 120 dT], [.val cY, .val cY, .val cY, .val cY, .val dz, .val ep, .val eh, .row 71 (.fp 120), .val eL, .row 3 cY]]⟩, ⟨[.val dz], [[.fam 120 dT], [.val cY, .val cY, .val cY, .val cY, .val dz, .val ep, .val eh, .row 71 (.fp 120), .val eL, .row 3 cY]]⟩, ((List Int) × (List di) × Int × Int × Int × Int × (List Int) × (List (List Int)) × da × (List Nat) × (List (List Int)) × (List Int)), fun y => ((y.1, ()), (y.2.1, ()), (dD (U_ u_)) y.2.2, ()), fun (o : (kh × (fd × (Int × Int × Int × Int × (List Int) × (List (List Int)) × da × (List Nat) × (List (List Int)) × (List Int) × Unit) × Unit))) => (o.1.1, ((o.2.1.1, ((dD (U_ k_)) o.2.2.1)))), fun (x : (gX × (fd × (Int × Int × Int × Int × (List Int) × (List (List Int)) × da × (List Nat) × (List (List Int)) × (List Int) × Unit) × Unit))) => qj n x.1.1 x.2.1.1 x.2.2.1.1 x.2.2.1.2.1 x.2.2.1.2.2.1 x.2.2.1.2.2.2.1 x.2.2.1.2.2.2.2.1 x.2.2.1.2.2.2.2.2.1 x.2.2.1.2.2.2.2.2.2.1 x.2.2.1.2.2.2.2.2.2.2.1 x.2.2.1.2.2.2.2.2.2.2.2.1 x.2.2.1.2.2.2.2.2.2.2.2.2.1⟩
theorem ql : dw (Oh n) 14 22 0 (jR n) := fun x => by kernel_rfl
def Oi : Cx := (Cx.bare (Oh n)).addSpec 22 (jR n)
theorem Rn : Good (Oi n) := Good.fn (Rm n) 14 0 (ql n) (fun _ => rfl) rfl
def kH (n : Nat) (v1 : dm) (v2 v3 : (List Int)) (v4 : Bool) (v5 : Int) (v6 v7 v8 v9 : (List Int)) (v10 : Int) (v11 : (List Int)) (v12 v13 v14 : Int) : Option MT := some (v3, v1, v2, v3, v4, v5, v6, v7, v8, v9, v10, v11, v12, v13, v14)
def jS : FS := ⟨⟨[.obj 0], [nl]⟩, ⟨[.val pq], [nl]⟩, MT, fun y => ((y.1, ()), (dD (ec (U_ u_))) y.2, ()), fun (o : (kh × nh)) => (o.1.1, ((dD (ec (U_ k_))) o.2.1)), fun (x : (Unit × nh)) => kH n x.2.1.1 x.2.1.2.1 x.2.1.2.2.1 x.2.1.2.2.2.1 x.2.1.2.2.2.2.1 x.2.1.2.2.2.2.2.1 x.2.1.2.2.2.2.2.2.1 x.2.1.2.2.2.2.2.2.2.1 x.2.1.2.2.2.2.2.2.2.2.1 x.2.1.2.2.2.2.2.2.2.2.2.1 x.2.1.2.2.2.2.2.2.2.2.2.2.1 x.2.1.2.2.2.2.2.2.2.2.2.2.2.1 x.2.1.2.2.2.2.2.2.2.2.2.2.2.2.1 x.2.1.2.2.2.2.2.2.2.2.2.2.2.2.2.1⟩
theorem qm : dw (Oi n) 14 30 0 (jS n) := fun x => by kernel_rfl
def Oj : Cx := (Cx.bare (Oi n)).addSpec 30 (jS n)
theorem Ro : Good (Oj n) := Good.fn (Rn n) 14 0 (qm n) (fun _ => rfl) rfl
def eS (v1 : Nat) (v2 : (List di)) : Option ((List Int) × (List di)) := jd v2 v1 fun m3 => ((kH n m3.1 m3.2.1 m3.2.2.1 m3.2.2.2.1 m3.2.2.2.2.1 m3.2.2.2.2.2.1 m3.2.2.2.2.2.2.1 m3.2.2.2.2.2.2.2.1 m3.2.2.2.2.2.2.2.2.1 m3.2.2.2.2.2.2.2.2.2.1 m3.2.2.2.2.2.2.2.2.2.2.1 m3.2.2.2.2.2.2.2.2.2.2.2.1 m3.2.2.2.2.2.2.2.2.2.2.2.2.1 m3.2.2.2.2.2.2.2.2.2.2.2.2.2.1).bind fun y4 => (some (y4.1, (v2.set (v1 - 1) (y4.2.1, y4.2.2.1, y4.2.2.2.1, y4.2.2.2.2.1, y4.2.2.2.2.2.1, y4.2.2.2.2.2.2.1, y4.2.2.2.2.2.2.2.1, y4.2.2.2.2.2.2.2.2.1, y4.2.2.2.2.2.2.2.2.2.1, y4.2.2.2.2.2.2.2.2.2.2.1, y4.2.2.2.2.2.2.2.2.2.2.2.1, y4.2.2.2.2.2.2.2.2.2.2.2.2.1, y4.2.2.2.2.2.2.2.2.2.2.2.2.2.1, y4.2.2.2.2.2.2.2.2.2.2.2.2.2.2, ())))))
def jh : FS := ⟨⟨[.val (.fp 120)], [[.fam 120 dT]]⟩, ⟨[.val pq], [[.fam 120 dT]]⟩, ((List Int) × (List di)), fun y => ((y.1, ()), (y.2, ()), ()), fun (o : (kh × ng)) => (o.1.1, o.2.1.1), fun (x : ((Nat × Unit) × ng)) => eS n x.1.1 x.2.1.1⟩
theorem oN : mu (Oj n) 14 30 0 (jh n) true 0 120 dT false := fun x => by kernel_rfl
def Ol : Cx := (Cx.bare (Oj n)).addSpec 30 (jh n)
theorem Rp : Good (Ol n) := je (Ro n) 14 0 true 0 120 dT false (oN n) (fun _ => rfl) rfl (by decide) rfl
def gM (v1 : Int) (v2 : (List di)) (v3 v4 v5 v6 : Int) (v7 : (List Int)) (v8 : (List (List Int))) (v9 : da) (v10 : (List Nat)) (v11 : (List (List Int))) (v12 : (List Int)) : Option ((List Int) × (List di) × Int × Int × Int × Int × (List Int) × (List (List Int)) × da × (List Nat) × (List (List Int)) × (List Int)) := if (decide (v1 ≥ 0)) then (if (!(decide (v1 < (v10.length : Int)))) then (some ([0, 0, 0, 0, 0, 0, 0, 0], v2, v3, v4, v5, v6, v7, v8, v9, v10, v11, v12)) else (if (decide (0 ≤ v1) && decide (v1 < (v10.length : Int))) then ((eS n (v10.getD v1.toNat (0 : Nat)) v2).bind fun y13 => (some (y13.1, y13.2, v3, v4, v5, v6, v7, v8, v9, v10, v11, v12))) else none)) else (some ([0, 0, 0, 0, 0, 0, 0, 0], v2, v3, v4, v5, v6, v7, v8, v9, v10, v11, v12))
def jG : FS := ⟨⟨[.obj 1, .val cY], [[.fam 120 dT], [.val cY, .val cY, .val cY, .val cY, .val dz, .val ep, .val eh, .val (.sl (.fp 120)), .val eL, .row 3 cY]]⟩, ⟨[.val pq], [[.fam 120 dT], [.val cY, .val cY, .val cY, .val cY, .val dz, .val ep, .val eh, .val (.sl (.fp 120)), .val eL, .row 3 cY]]⟩, ((List Int) × (List di) × Int × Int × Int × Int × (List Int) × (List (List Int)) × da × (List Nat) × (List (List Int)) × (List Int)), fun y => ((y.1, ()), (y.2.1, ()), (dD (U_ u_)) y.2.2, ()), fun (o : (kh × (fd × (Int × Int × Int × Int × (List Int) × (List (List Int)) × da × (List Nat) × (List (List Int)) × (List Int) × Unit) × Unit))) => (o.1.1, ((o.2.1.1, ((dD (U_ k_)) o.2.2.1)))), fun (x : (gX × (fd × (Int × Int × Int × Int × (List Int) × (List (List Int)) × da × (List Nat) × (List (List Int)) × (List Int) × Unit) × Unit))) => gM n x.1.1 x.2.1.1 x.2.2.1.1 x.2.2.1.2.1 x.2.2.1.2.2.1 x.2.2.1.2.2.2.1 x.2.2.1.2.2.2.2.1 x.2.2.1.2.2.2.2.2.1 x.2.2.1.2.2.2.2.2.2.1 x.2.2.1.2.2.2.2.2.2.2.1 x.2.2.1.2.2.2.2.2.2.2.2.1 x.2.2.1.2.2.2.2.2.2.2.2.2.1⟩
theorem py : dw (Ol n) 14 24 0 (jG n) := fun x => by kernel_rfl
def Om : Cx := (Cx.bare (Ol n)).addSpec 24 (jG n)
theorem Rq : Good (Om n) := Good.fn (Rp n) 14 0 (py n) (fun _ => rfl) rfl
def Ii (F : (da × Int × Int × (List di) × Int × Int × Int × Int × (List Int) × (List (List Int)) × da × Int × Int × Int × Int × (List Int) × (List (List Int)) × da × (List Nat) × (List (List Int)) × (List Int)) → Option (((List di) × Int × Int × Int × Int × (List Int) × (List (List Int)) × da × Int × Int × Int × Int × (List Int) × (List (List Int)) × da × (List Nat) × (List (List Int)) × (List Int)))) (v21 : da) (v22 v23 : Int) (v24 : (List di)) (v25 v26 v27 v28 : Int) (v29 : (List Int)) (v30 : (List (List Int))) (v31 : da) (v32 v33 v34 v35 : Int) (v36 : (List Int)) (v37 : (List (List Int))) (v38 : da) (v39 : (List Nat)) (v40 : (List (List Int))) (v41 : (List Int)) : Option (((List di) × Int × Int × Int × Int × (List Int) × (List (List Int)) × da × Int × Int × Int × Int × (List Int) × (List (List Int)) × da × (List Nat) × (List (List Int)) × (List Int))) := if (decide (v23 < v22)) then (if (decide (0 ≤ v23) && decide (v23 < (v21.length : Int))) then ((jA n ((v21.getD v23.toNat (0, (0, (0, (0, ([], ([], []))))))).2.2.2.2.2.2) v24).bind fun y42 => (if (decide ((v39.length + 1) * 8 ≤ 140737488355328) && decide (1 ≤ 8)) then (F (v21, v22, (wrap .i64 (v23 + 1)), y42.2.2, v25, v26, v27, v28, v29, v30, v31, v32, v33, v34, v35, v36, v37, v38, (v39 ++ [y42.1]), v40, v41)) else none)) else none) else (some (v24, v25, v26, v27, v28, v29, v30, v31, v32, v33, v34, v35, v36, v37, v38, v39, v40, v41))
def Kw : (da × Int × Int × (List di) × Int × Int × Int × Int × (List Int) × (List (List Int)) × da × Int × Int × Int × Int × (List Int) × (List (List Int)) × da × (List Nat) × (List (List Int)) × (List Int)) → Option (((List di) × Int × Int × Int × Int × (List Int) × (List (List Int)) × da × Int × Int × Int × Int × (List Int) × (List (List Int)) × da × (List Nat) × (List (List Int)) × (List Int))) := it (fun F => (Cu (dZ (C_ q_))) (Ii n F)) n
def C2 : Loop := ⟨⟨dn 71 0 [(1, .obj 1), (6, .obj 2), (29, .val eh), (30, .val cY), (31, .val cY)], [[.fam 120 dT], [.val cY, .val cY, .val cY, .val cY, .row 3 cY, .row 22 dz, .val eh], [.val cY, .val cY, .val cY, .val cY, .val dz, .val ep, .val eh, .row 71 (.fp 120), .val eL, .row 3 cY]]⟩, [(.exit 0, ⟨dn 71 0 [(1, .obj 1), (6, .obj 2)], [[.fam 120 dT], [.val cY, .val cY, .val cY, .val cY, .row 3 cY, .row 22 dz, .val eh], [.val cY, .val cY, .val cY, .val cY, .val dz, .val ep, .val eh, .row 71 (.fp 120), .val eL, .row 3 cY]]⟩)], (da × Int × Int × (List di) × Int × Int × Int × Int × (List Int) × (List (List Int)) × da × Int × Int × Int × Int × (List Int) × (List (List Int)) × da × (List Nat) × (List (List Int)) × (List Int)), fun x => ((dF v_) x, (x.2.2.2.1, ()), (ec (dF v_)) x.2.2.2.2, (dD (U_ u_)) x.2.2.2.2.2.2.2.2.2.2.2, ()), fun (x : ((da × Int × Int × Unit) × (fd × Cw × (Int × Int × Int × Int × (List Int) × (List (List Int)) × da × (List Nat) × (List (List Int)) × (List Int) × Unit) × Unit))) => (fX j_) x.1 ((x.2.1.1, ((lE (fX j_)) x.2.2.1 ((dD (U_ k_)) x.2.2.2.1)))), ((List di) × Int × Int × Int × Int × (List Int) × (List (List Int)) × da × Int × Int × Int × Int × (List Int) × (List (List Int)) × da × (List Nat) × (List (List Int)) × (List Int)), fun y => ((), (y.1, ()), (ec (dF v_)) y.2, (dD (U_ u_)) y.2.2.2.2.2.2.2.2, ()), fun (o : (Unit × (fd × Cw × (Int × Int × Int × Int × (List Int) × (List (List Int)) × da × (List Nat) × (List (List Int)) × (List Int) × Unit) × Unit))) => (o.2.1.1, ((lE (fX j_)) o.2.2.1 ((dD (U_ k_)) o.2.2.2.1))), Kw n⟩
def Ij (n : Nat) (F : ((List (List Int)) × Int × Int × (List di) × Int × Int × Int × Int × (List Int) × (List (List Int)) × da × (List Nat) × (List (List Int)) × (List Int)) → Option (((List di) × Int × Int × Int × Int × (List Int) × (List (List Int)) × da × (List Nat) × (List (List Int)) × (List Int)))) (v22 : (List (List Int))) (v23 v24 : Int) (v25 : (List di)) (v26 v27 v28 v29 : Int) (v30 : (List Int)) (v31 : (List (List Int))) (v32 : da) (v33 : (List Nat)) (v34 : (List (List Int))) (v35 : (List Int)) : Option (((List di) × Int × Int × Int × Int × (List Int) × (List (List Int)) × da × (List Nat) × (List (List Int)) × (List Int))) := if (decide (v24 < v23)) then (if (decide (0 ≤ v24) && decide (v24 < (v22.length : Int))) then (if (decide (0 ≤ v24) && decide (v24 < 8)) then (F (v22, v23, (wrap .i64 (v24 + 1)), v25, v26, v27, v28, v29, v30, v31, v32, v33, (v34.set v24.toNat ((v22.getD v24.toNat []).take (min (v22.getD v24.toNat []).length 8) ++ (v34.getD v24.toNat [0, 0, 0, 0, 0, 0, 0, 0]).drop (min (v22.getD v24.toNat []).length 8))), v35)) else none) else none) else (some (v25, v26, v27, v28, v29, v30, v31, v32, v33, v34, v35))
def Kx : ((List (List Int)) × Int × Int × (List di) × Int × Int × Int × Int × (List Int) × (List (List Int)) × da × (List Nat) × (List (List Int)) × (List Int)) → Option (((List di) × Int × Int × Int × Int × (List Int) × (List (List Int)) × da × (List Nat) × (List (List Int)) × (List Int))) := it (fun F => (fg (eo q_)) (Ij n F)) n
def C3 : Loop := ⟨⟨dn 71 0 [(6, .obj 1), (53, .val ep), (54, .val cY), (55, .val cY)], [[.fam 120 dT], [.val cY, .val cY, .val cY, .val cY, .val dz, .val ep, .val eh, .row 71 (.fp 120), .val eL, .row 3 cY]]⟩, [(.exit 2, ⟨dn 71 0 [(6, .obj 1)], [[.fam 120 dT], [.val cY, .val cY, .val cY, .val cY, .val dz, .val ep, .val eh, .row 71 (.fp 120), .val eL, .row 3 cY]]⟩)], ((List (List Int)) × Int × Int × (List di) × Int × Int × Int × Int × (List Int) × (List (List Int)) × da × (List Nat) × (List (List Int)) × (List Int)), fun x => ((dF v_) x, (x.2.2.2.1, ()), (dD (U_ u_)) x.2.2.2.2, ()), fun (x : (((List (List Int)) × Int × Int × Unit) × (fd × (Int × Int × Int × Int × (List Int) × (List (List Int)) × da × (List Nat) × (List (List Int)) × (List Int) × Unit) × Unit))) => (fX j_) x.1 ((x.2.1.1, ((dD (U_ k_)) x.2.2.1))), ((List di) × Int × Int × Int × Int × (List Int) × (List (List Int)) × da × (List Nat) × (List (List Int)) × (List Int)), fun y => ((), (y.1, ()), (dD (U_ u_)) y.2, ()), fun (o : (Unit × (fd × (Int × Int × Int × Int × (List Int) × (List (List Int)) × da × (List Nat) × (List (List Int)) × (List Int) × Unit) × Unit))) => (o.2.1.1, ((dD (U_ k_)) o.2.2.1)), Kx n⟩
def mB : Option Bool := if Nat.beq n 30000 = true then some true else none
def Ik : FS := ⟨⟨[], []⟩, ⟨[.val .bool], []⟩, Bool, fun y => ((y, ()), ()), fun o => o.1.1, fun x => mB n ⟩
theorem Ky : ∀ F x, dL (Om n) 14 12 0 6 (C2 n) F x = (Cu (dZ (C_ q_))) (Ii n F) x := fun F x => by kernel_rfl
def xk : Cx := Cx.addLoop (Om n) 12 6 (C2 n)
theorem Kz : Good (xk n) := Good.loop (Rq n) 14 0 (by kernel_rfl) (Ky n) n (fun _ => rfl) (fun _ => rfl) (fun _ => rfl) rfl
theorem KA : ∀ F x, dL (xk n) 14 12 0 12 (C3 n) F x = (fg (eo q_)) (Ij n F) x := fun F x => by kernel_rfl
def rD : Cx := Cx.addLoop (xk n) 12 12 (C3 n)
theorem C4 : Good (rD n) := Good.loop (Kz n) 14 0 (by kernel_rfl) (KA n) n (fun _ => rfl) (fun _ => rfl) (fun _ => rfl) rfl
theorem O4 : FP ((fun n => rD n) 30000) 14 11 0 (Ik 30000) [(120, dT)] := fun x => by kernel_rfl
def On : Cx := (Cx.bare (rD n)).addSpec 11 (Ik n)
theorem Rr : Good (On n) := Good.known (cx := (fun n => rD n)) (fun n => C4 n) 30000 (fun hH hA hx hρ hk => EB ((fun n => C4 n) 30000) O4 (fun _ => rfl) (by decide) rfl rfl rfl rfl hH hA hx hρ hk) (fun n hn x => JB hn) n
def gj (v1 : Int) (v2 : (List di)) (v3 v4 v5 v6 : Int) (v7 : (List Int)) (v8 : (List (List Int))) (v9 : da) (v10 : (List Nat)) (v11 : (List (List Int))) (v12 : (List Int)) : Option ((List Int) × (List di) × Int × Int × Int × Int × (List Int) × (List (List Int)) × da × (List Nat) × (List (List Int)) × (List Int)) := if (decide (v1 ≥ 0)) then (if (!(decide (v1 < (v10.length : Int)))) then (some ([0, 0, 0, 0, 0, 0, 0, 0], v2, v3, v4, v5, v6, v7, v8, v9, v10, v11, v12)) else (if (decide (0 ≤ v1) && decide (v1 < (v10.length : Int))) then ((eS n (v10.getD v1.toNat (0 : Nat)) v2).bind fun y13 => (some (y13.1, y13.2, v3, v4, v5, v6, v7, v8, v9, v10, v11, v12))) else none)) else (some ([0, 0, 0, 0, 0, 0, 0, 0], v2, v3, v4, v5, v6, v7, v8, v9, v10, v11, v12))
def iV : FS := ⟨⟨[.obj 1, .val cY], [[.fam 120 dT], [.val cY, .val cY, .val cY, .val cY, .val dz, .val ep, .val eh, .row 71 (.fp 120), .val eL, .row 3 cY]]⟩, ⟨[.val pq], [[.fam 120 dT], [.val cY, .val cY, .val cY, .val cY, .val dz, .val ep, .val eh, .row 71 (.fp 120), .val eL, .row 3 cY]]⟩, ((List Int) × (List di) × Int × Int × Int × Int × (List Int) × (List (List Int)) × da × (List Nat) × (List (List Int)) × (List Int)), fun y => ((y.1, ()), (y.2.1, ()), (dD (U_ u_)) y.2.2, ()), fun (o : (kh × (fd × (Int × Int × Int × Int × (List Int) × (List (List Int)) × da × (List Nat) × (List (List Int)) × (List Int) × Unit) × Unit))) => (o.1.1, ((o.2.1.1, ((dD (U_ k_)) o.2.2.1)))), fun (x : (gX × (fd × (Int × Int × Int × Int × (List Int) × (List (List Int)) × da × (List Nat) × (List (List Int)) × (List Int) × Unit) × Unit))) => gj n x.1.1 x.2.1.1 x.2.2.1.1 x.2.2.1.2.1 x.2.2.1.2.2.1 x.2.2.1.2.2.2.1 x.2.2.1.2.2.2.2.1 x.2.2.1.2.2.2.2.2.1 x.2.2.1.2.2.2.2.2.2.1 x.2.2.1.2.2.2.2.2.2.2.1 x.2.2.1.2.2.2.2.2.2.2.2.1 x.2.2.1.2.2.2.2.2.2.2.2.2.1⟩
theorem oD : dw (On n) 14 24 0 (iV n) := fun x => by kernel_rfl
def Oo : Cx := (Cx.bare (On n)).addSpec 24 (iV n)
theorem Rs : Good (Oo n) := Good.fn (Rr n) 14 0 (oD n) (fun _ => rfl) rfl
def yy (F : JK → Option (FT)) (v17 : oq) (v18 : Int) (v19 : (List di)) (v20 v21 v22 v23 : Int) (v24 : (List Int)) (v25 : (List (List Int))) (v26 : da) (v27 : Int) (v28 : (List Int)) : Option (FT) := if (decide (0 ≤ v27) && decide (v27 < (v26.length : Int))) then (if (decide (v18 < (((v26.getD v27.toNat (0, (0, (0, (0, ([], ([], []))))))).2.2.2.2.2.2.length : Nat) : Int))) then (if (decide (0 ≤ v27) && decide (v27 < (v26.length : Int))) then (if (decide (0 ≤ v18) && decide (v18 < (((v26.getD v27.toNat (0, (0, (0, (0, ([], ([], []))))))).2.2.2.2.2.2.length : Nat) : Int))) then (if (((v26.getD v27.toNat (0, (0, (0, (0, ([], ([], []))))))).2.2.2.2.2.2.getD v18.toNat (0, (0, 0))).1 == 14) then ((mB n ).bind fun y29 => (some (.inl ((y29, ()), ((v19, ()), (v20, v21, v22, v23, v24, v25, v26, ()), (v27, v28, ()), ()))))) else (F (v17, (wrap .i64 (v18 + 1)), v19, v20, v21, v22, v23, v24, v25, v26, v27, v28))) else none) else none) else (some (.inr ((v17, ()), ((v19, ()), (v20, v21, v22, v23, v24, v25, v26, ()), (v27, v28, ()), ()))))) else none
def xl : JK → Option (FT) := it (fun F => (fg (dZ q_)) (yy n F)) n
def C5 : Loop := ⟨⟨dn 148 0 [(2, .val (.sl (.pair cY la))), (3, .obj 1), (4, .obj 2), (7, .val cY)], [[.fam 120 dT], iR, [.val cY, .val la]]⟩, [(.ret, ⟨dn 148 0 [(6, .val .bool)], [[.fam 120 dT], iR, [.val cY, .val la]]⟩), (.exit 0, ⟨dn 148 0 [(2, .val (.sl (.pair cY la))), (3, .obj 1), (4, .obj 2)], [[.fam 120 dT], iR, [.val cY, .val la]]⟩)], JK, fun x => ((U_ v_) x, (x.2.2.1, ()), (ec (dF v_)) x.2.2.2, (U_ u_) x.2.2.2.2.2.2.2.2.2.2, ()), fun (x : ((oq × Int × Unit) × Cz)) => (J_ j_) x.1 ((x.2.1.1, ((lE (fX j_)) x.2.2.1 ((U_ k_) x.2.2.2.1)))), FT, fun y => y, fun y => y, xl n⟩
def yz (F : (da × Int × Int × (List di) × Int × Int × Int × Int × (List Int) × (List (List Int)) × da × Int × Int × Int × Int × (List Int) × (List (List Int)) × da × (List Nat) × (List (List Int)) × (List Int)) → Option (((List di) × Int × Int × Int × Int × (List Int) × (List (List Int)) × da × Int × Int × Int × Int × (List Int) × (List (List Int)) × da × (List Nat) × (List (List Int)) × (List Int)))) (v30 : da) (v31 v32 : Int) (v33 : (List di)) (v34 v35 v36 v37 : Int) (v38 : (List Int)) (v39 : (List (List Int))) (v40 : da) (v41 v42 v43 v44 : Int) (v45 : (List Int)) (v46 : (List (List Int))) (v47 : da) (v48 : (List Nat)) (v49 : (List (List Int))) (v50 : (List Int)) : Option (((List di) × Int × Int × Int × Int × (List Int) × (List (List Int)) × da × Int × Int × Int × Int × (List Int) × (List (List Int)) × da × (List Nat) × (List (List Int)) × (List Int))) := if (decide (v32 < v31)) then (if (decide (0 ≤ v32) && decide (v32 < (v30.length : Int))) then ((jA n ((v30.getD v32.toNat (0, (0, (0, (0, ([], ([], []))))))).2.2.2.2.2.2) v33).bind fun y51 => (if (decide ((v48.length + 1) * 8 ≤ 140737488355328) && decide (1 ≤ 8)) then (F (v30, v31, (wrap .i64 (v32 + 1)), y51.2.2, v34, v35, v36, v37, v38, v39, v40, v41, v42, v43, v44, v45, v46, v47, (v48 ++ [y51.1]), v49, v50)) else none)) else none) else (some (v33, v34, v35, v36, v37, v38, v39, v40, v41, v42, v43, v44, v45, v46, v47, v48, v49, v50))
def rE : (da × Int × Int × (List di) × Int × Int × Int × Int × (List Int) × (List (List Int)) × da × Int × Int × Int × Int × (List Int) × (List (List Int)) × da × (List Nat) × (List (List Int)) × (List Int)) → Option (((List di) × Int × Int × Int × Int × (List Int) × (List (List Int)) × da × Int × Int × Int × Int × (List Int) × (List (List Int)) × da × (List Nat) × (List (List Int)) × (List Int))) := it (fun F => (Cu (dZ (C_ q_))) (yz n F)) n
def C6 : Loop := ⟨⟨dn 71 0 [(1, .obj 1), (6, .obj 2), (29, .val eh), (30, .val cY), (31, .val cY)], [[.fam 120 dT], iR, [.val cY, .val cY, .val cY, .val cY, .val dz, .val ep, .val eh, .row 71 (.fp 120), .val eL, .row 3 cY]]⟩, [(.exit 0, ⟨dn 71 0 [(1, .obj 1), (6, .obj 2)], [[.fam 120 dT], iR, [.val cY, .val cY, .val cY, .val cY, .val dz, .val ep, .val eh, .row 71 (.fp 120), .val eL, .row 3 cY]]⟩)], (da × Int × Int × (List di) × Int × Int × Int × Int × (List Int) × (List (List Int)) × da × Int × Int × Int × Int × (List Int) × (List (List Int)) × da × (List Nat) × (List (List Int)) × (List Int)), fun x => ((dF v_) x, (x.2.2.2.1, ()), (ec (dF v_)) x.2.2.2.2, (dD (U_ u_)) x.2.2.2.2.2.2.2.2.2.2.2, ()), fun (x : ((da × Int × Int × Unit) × (fd × Cw × (Int × Int × Int × Int × (List Int) × (List (List Int)) × da × (List Nat) × (List (List Int)) × (List Int) × Unit) × Unit))) => (fX j_) x.1 ((x.2.1.1, ((lE (fX j_)) x.2.2.1 ((dD (U_ k_)) x.2.2.2.1)))), ((List di) × Int × Int × Int × Int × (List Int) × (List (List Int)) × da × Int × Int × Int × Int × (List Int) × (List (List Int)) × da × (List Nat) × (List (List Int)) × (List Int)), fun y => ((), (y.1, ()), (ec (dF v_)) y.2, (dD (U_ u_)) y.2.2.2.2.2.2.2.2, ()), fun (o : (Unit × (fd × Cw × (Int × Int × Int × Int × (List Int) × (List (List Int)) × da × (List Nat) × (List (List Int)) × (List Int) × Unit) × Unit))) => (o.2.1.1, ((lE (fX j_)) o.2.2.1 ((dD (U_ k_)) o.2.2.2.1))), rE n⟩
def yA (n : Nat) (F : ((List (List Int)) × Int × Int × (List di) × Int × Int × Int × Int × (List Int) × (List (List Int)) × da × (List Nat) × (List (List Int)) × (List Int)) → Option (((List di) × Int × Int × Int × Int × (List Int) × (List (List Int)) × da × (List Nat) × (List (List Int)) × (List Int)))) (v31 : (List (List Int))) (v32 v33 : Int) (v34 : (List di)) (v35 v36 v37 v38 : Int) (v39 : (List Int)) (v40 : (List (List Int))) (v41 : da) (v42 : (List Nat)) (v43 : (List (List Int))) (v44 : (List Int)) : Option (((List di) × Int × Int × Int × Int × (List Int) × (List (List Int)) × da × (List Nat) × (List (List Int)) × (List Int))) := if (decide (v33 < v32)) then (if (decide (0 ≤ v33) && decide (v33 < (v31.length : Int))) then (if (decide (0 ≤ v33) && decide (v33 < 8)) then (F (v31, v32, (wrap .i64 (v33 + 1)), v34, v35, v36, v37, v38, v39, v40, v41, v42, (v43.set v33.toNat ((v31.getD v33.toNat []).take (min (v31.getD v33.toNat []).length 8) ++ (v43.getD v33.toNat [0, 0, 0, 0, 0, 0, 0, 0]).drop (min (v31.getD v33.toNat []).length 8))), v44)) else none) else none) else (some (v34, v35, v36, v37, v38, v39, v40, v41, v42, v43, v44))
def rF : ((List (List Int)) × Int × Int × (List di) × Int × Int × Int × Int × (List Int) × (List (List Int)) × da × (List Nat) × (List (List Int)) × (List Int)) → Option (((List di) × Int × Int × Int × Int × (List Int) × (List (List Int)) × da × (List Nat) × (List (List Int)) × (List Int))) := it (fun F => (fg (eo q_)) (yA n F)) n
def C7 : Loop := ⟨⟨dn 71 0 [(6, .obj 1), (53, .val ep), (54, .val cY), (55, .val cY)], [[.fam 120 dT], [.val cY, .val cY, .val cY, .val cY, .val dz, .val ep, .val eh, .row 71 (.fp 120), .val eL, .row 3 cY]]⟩, [(.exit 2, ⟨dn 71 0 [(6, .obj 1)], [[.fam 120 dT], [.val cY, .val cY, .val cY, .val cY, .val dz, .val ep, .val eh, .row 71 (.fp 120), .val eL, .row 3 cY]]⟩)], ((List (List Int)) × Int × Int × (List di) × Int × Int × Int × Int × (List Int) × (List (List Int)) × da × (List Nat) × (List (List Int)) × (List Int)), fun x => ((dF v_) x, (x.2.2.2.1, ()), (dD (U_ u_)) x.2.2.2.2, ()), fun (x : (((List (List Int)) × Int × Int × Unit) × (fd × (Int × Int × Int × Int × (List Int) × (List (List Int)) × da × (List Nat) × (List (List Int)) × (List Int) × Unit) × Unit))) => (fX j_) x.1 ((x.2.1.1, ((dD (U_ k_)) x.2.2.1))), ((List di) × Int × Int × Int × Int × (List Int) × (List (List Int)) × da × (List Nat) × (List (List Int)) × (List Int)), fun y => ((), (y.1, ()), (dD (U_ u_)) y.2, ()), fun (o : (Unit × (fd × (Int × Int × Int × Int × (List Int) × (List (List Int)) × da × (List Nat) × (List (List Int)) × (List Int) × Unit) × Unit))) => (o.2.1.1, ((dD (U_ k_)) o.2.2.1)), rF n⟩
def yB (F : (oq × eb × Int × Int × (List di) × Int × (List Int) × Int × Int × Int × Int × (List Int) × (List (List Int)) × da × (List Nat) × (List (List Int)) × (List Int)) → Option ((eb × Int × (List di) × Int × (List Int) × Int × Int × Int × Int × (List Int) × (List (List Int)) × da × (List Nat) × (List (List Int)) × (List Int)))) (v31 : oq) (v32 : eb) (v33 v34 : Int) (v35 : (List di)) (v36 : Int) (v37 : (List Int)) (v38 v39 v40 v41 : Int) (v42 : (List Int)) (v43 : (List (List Int))) (v44 : da) (v45 : (List Nat)) (v46 : (List (List Int))) (v47 : (List Int)) : Option ((eb × Int × (List di) × Int × (List Int) × Int × Int × Int × Int × (List Int) × (List (List Int)) × da × (List Nat) × (List (List Int)) × (List Int))) := if (decide (v34 < (v31.length : Int))) then (if (decide (v34 < 15)) then (if (decide (0 ≤ v34) && decide (v34 < (v31.length : Int))) then (if (decide (0 ≤ v34) && decide (v34 < (v31.length : Int))) then ((vv n ((v31.getD v34.toNat (0, [0, 0, 0, 0, 0, 0, 0, 0, 0, 0, 0, 0, 0, 0, 0, 0])).1) ((v31.getD v34.toNat (0, [0, 0, 0, 0, 0, 0, 0, 0, 0, 0, 0, 0, 0, 0, 0, 0])).2) v35 v38 v39 v40 v41 v42 v43 v44 v45 v46 v47).bind fun y48 => (F (v31, v32, v33, (wrap .i64 (v34 + 1)), y48.2.2.1, v36, v37, y48.2.2.2.1, y48.2.2.2.2.1, y48.2.2.2.2.2.1, y48.2.2.2.2.2.2.1, y48.2.2.2.2.2.2.2.1, y48.2.2.2.2.2.2.2.2.1, y48.2.2.2.2.2.2.2.2.2.1, y48.2.2.2.2.2.2.2.2.2.2.1, y48.2.2.2.2.2.2.2.2.2.2.2.1, y48.2.2.2.2.2.2.2.2.2.2.2.2))) else none) else none) else (some (v32, v33, v35, v36, v37, v38, v39, v40, v41, v42, v43, v44, v45, v46, v47))) else (some (v32, v33, v35, v36, v37, v38, v39, v40, v41, v42, v43, v44, v45, v46, v47))
def xm : (oq × eb × Int × Int × (List di) × Int × (List Int) × Int × Int × Int × Int × (List Int) × (List (List Int)) × da × (List Nat) × (List (List Int)) × (List Int)) → Option ((eb × Int × (List di) × Int × (List Int) × Int × Int × Int × Int × (List Int) × (List (List Int)) × da × (List Nat) × (List (List Int)) × (List Int))) := it (fun F => (fg (eo (dZ (C_ q_)))) (yB n F)) n
def C8 : Loop := ⟨⟨dn 148 0 [(2, .val (.sl (.pair cY la))), (4, .obj 1), (8, .obj 2), (10, .val (.sl iQ)), (11, .val cY), (12, .val cY)], [[.fam 120 dT], [.val cY, .val la], [.val cY, .val cY, .val cY, .val cY, .val dz, .val ep, .val eh, .row 71 (.fp 120), .val eL, .row 3 cY]]⟩, [(.exit 2, ⟨dn 148 0 [(4, .obj 1), (8, .obj 2), (10, .val (.sl iQ)), (11, .val cY)], [[.fam 120 dT], [.val cY, .val la], [.val cY, .val cY, .val cY, .val cY, .val dz, .val ep, .val eh, .row 71 (.fp 120), .val eL, .row 3 cY]]⟩)], (oq × eb × Int × Int × (List di) × Int × (List Int) × Int × Int × Int × Int × (List Int) × (List (List Int)) × da × (List Nat) × (List (List Int)) × (List Int)), fun x => ((dF (U_ v_)) x, (x.2.2.2.2.1, ()), (U_ v_) x.2.2.2.2.2, (dD (U_ u_)) x.2.2.2.2.2.2.2, ()), fun (x : ((oq × eb × Int × Int × Unit) × (fd × Cy × (Int × Int × Int × Int × (List Int) × (List (List Int)) × da × (List Nat) × (List (List Int)) × (List Int) × Unit) × Unit))) => (fX (J_ j_)) x.1 ((x.2.1.1, ((J_ j_) x.2.2.1 ((dD (U_ k_)) x.2.2.2.1)))), (eb × Int × (List di) × Int × (List Int) × Int × Int × Int × Int × (List Int) × (List (List Int)) × da × (List Nat) × (List (List Int)) × (List Int)), fun y => ((U_ v_) y, (y.2.2.1, ()), (U_ v_) y.2.2.2, (dD (U_ u_)) y.2.2.2.2.2, ()), fun (o : ((eb × Int × Unit) × (fd × Cy × (Int × Int × Int × Int × (List Int) × (List (List Int)) × da × (List Nat) × (List (List Int)) × (List Int) × Unit) × Unit))) => (J_ j_) o.1 ((o.2.1.1, ((J_ j_) o.2.2.1 ((dD (U_ k_)) o.2.2.2.1)))), xm n⟩
def Gb (a0 : ol) (a1 : (Int × (List Int))) (a2 : oq) : Option Bool := (yl n (a0.1, (a0.2.1, (a0.2.2.1, (a0.2.2.2.1, (a0.2.2.2.2.1, (a0.2.2.2.2.2.1, a0.2.2.2.2.2.2))))))).bind fun y1 => (if (!y1) then ((mB n ).bind fun y2 => (some y2)) else (if (decide (a1.1 < 0)) then ((mB n ).bind fun y3 => (some y3)) else (if (decide (a1.1 ≥ (a0.2.2.2.2.2.2.length : Int))) then ((mB n ).bind fun y4 => (some y4)) else (if (decide (0 ≤ a1.1) && decide (a1.1 < (a0.2.2.2.2.2.2.length : Int))) then (if (decide ((((a0.2.2.2.2.2.2.getD a1.1.toNat ((0 : Int), ((0 : Int), ((0 : Int), ((0 : Int), ([], ([], []))))))).2.2.2.2.1.length : Nat) : Int) > 0)) then ((mB n ).bind fun y5 => (some y5)) else ((xl n (a2, 0, [], a0.1, a0.2.1, a0.2.2.1, a0.2.2.2.1, a0.2.2.2.2.1, a0.2.2.2.2.2.1, a0.2.2.2.2.2.2, a1.1, a1.2)).bind fun y6 => ((Sum.elim (fun (z7 : (gg × Cz)) => (some z7.1.1)) (fun (z8 : ((oq × Unit) × Cz)) => ((mA n (z8.2.2.1.1, (z8.2.2.1.2.1, (z8.2.2.1.2.2.1, (z8.2.2.1.2.2.2.1, (z8.2.2.1.2.2.2.2.1, (z8.2.2.1.2.2.2.2.2.1, z8.2.2.1.2.2.2.2.2.2.1))))))).bind fun y9 => (if (y9.2 != 0) then (if (y9.2 != 0) then (if (y9.2 != 0) then ((mB n ).bind fun y10 => (some y10)) else (some false)) else (if (y9.2 != 0) then ((mB n ).bind fun y11 => (some y11)) else (some false))) else (if (decide (0 ≤ (z8.2.2.1.2.2.2.2.1.length : Int)) && ((z8.2.2.1.2.2.2.2.1.length : Int) == (z8.2.2.1.2.2.2.2.1.length : Int)) && decide ((z8.2.2.1.2.2.2.2.1.length : Int) * (8 : Int) ≤ 140737488355328) && decide (1 ≤ 8)) then ((rE n (z8.2.2.1.2.2.2.2.2.2.1, (z8.2.2.1.2.2.2.2.2.2.1.length : Int), 0, z8.2.1.1, z8.2.2.1.1, z8.2.2.1.2.1, z8.2.2.1.2.2.1, z8.2.2.1.2.2.2.1, z8.2.2.1.2.2.2.2.1, z8.2.2.1.2.2.2.2.2.1, z8.2.2.1.2.2.2.2.2.2.1, z8.2.2.1.1, z8.2.2.1.2.1, z8.2.2.1.2.2.1, z8.2.2.1.2.2.2.1, z8.2.2.1.2.2.2.2.1, z8.2.2.1.2.2.2.2.2.1, z8.2.2.1.2.2.2.2.2.2.1, [], [[0, 0, 0, 0, 0, 0, 0, 0], [0, 0, 0, 0, 0, 0, 0, 0], [0, 0, 0, 0, 0, 0, 0, 0], [0, 0, 0, 0, 0, 0, 0, 0], [0, 0, 0, 0, 0, 0, 0, 0], [0, 0, 0, 0, 0, 0, 0, 0], [0, 0, 0, 0, 0, 0, 0, 0], [0, 0, 0, 0, 0, 0, 0, 0]], (List.replicate ((z8.2.2.1.2.2.2.2.1.length : Int)).toNat (0 : Int)))).bind fun y12 => ((rF n (y12.2.2.2.2.2.2.1, (y12.2.2.2.2.2.2.1.length : Int), 0, y12.1, y12.2.2.2.2.2.2.2.2.1, y12.2.2.2.2.2.2.2.2.2.1, y12.2.2.2.2.2.2.2.2.2.2.1, y12.2.2.2.2.2.2.2.2.2.2.2.1, y12.2.2.2.2.2.2.2.2.2.2.2.2.1, y12.2.2.2.2.2.2.2.2.2.2.2.2.2.1, y12.2.2.2.2.2.2.2.2.2.2.2.2.2.2.1, y12.2.2.2.2.2.2.2.2.2.2.2.2.2.2.2.1, y12.2.2.2.2.2.2.2.2.2.2.2.2.2.2.2.2.1, y12.2.2.2.2.2.2.2.2.2.2.2.2.2.2.2.2.2)).bind fun y13 => ((vv n z8.2.2.2.1.1 z8.2.2.2.1.2.1 y13.1 y13.2.1 y13.2.2.1 y13.2.2.2.1 y13.2.2.2.2.1 y13.2.2.2.2.2.1 y13.2.2.2.2.2.2.1 y13.2.2.2.2.2.2.2.1 y13.2.2.2.2.2.2.2.2.1 y13.2.2.2.2.2.2.2.2.2.1 y13.2.2.2.2.2.2.2.2.2.2).bind fun y14 => ((xm n (z8.1.1, y14.1, y14.2.1, 0, y14.2.2.1, z8.2.2.2.1.1, z8.2.2.2.1.2.1, y14.2.2.2.1, y14.2.2.2.2.1, y14.2.2.2.2.2.1, y14.2.2.2.2.2.2.1, y14.2.2.2.2.2.2.2.1, y14.2.2.2.2.2.2.2.2.1, y14.2.2.2.2.2.2.2.2.2.1, y14.2.2.2.2.2.2.2.2.2.2.1, y14.2.2.2.2.2.2.2.2.2.2.2.1, y14.2.2.2.2.2.2.2.2.2.2.2.2)).bind fun y15 => ((vv n y15.2.2.2.1 y15.2.2.2.2.1 y15.2.2.1 y15.2.2.2.2.2.1 y15.2.2.2.2.2.2.1 y15.2.2.2.2.2.2.2.1 y15.2.2.2.2.2.2.2.2.1 y15.2.2.2.2.2.2.2.2.2.1 y15.2.2.2.2.2.2.2.2.2.2.1 y15.2.2.2.2.2.2.2.2.2.2.2.1 y15.2.2.2.2.2.2.2.2.2.2.2.2.1 y15.2.2.2.2.2.2.2.2.2.2.2.2.2.1 y15.2.2.2.2.2.2.2.2.2.2.2.2.2.2).bind fun y16 => (if (y15.2.1 == 0) then (if (y16.2.1 == 0) then ((uv n y15.1).bind fun y17 => ((uv n y16.1).bind fun y18 => ((yx n y17 y18).bind fun y19 => (if y19 then ((gj n y15.2.2.2.1 y16.2.2.1 y16.2.2.2.1 y16.2.2.2.2.1 y16.2.2.2.2.2.1 y16.2.2.2.2.2.2.1 y16.2.2.2.2.2.2.2.1 y16.2.2.2.2.2.2.2.2.1 y16.2.2.2.2.2.2.2.2.2.1 y16.2.2.2.2.2.2.2.2.2.2.1 y16.2.2.2.2.2.2.2.2.2.2.2.1 y16.2.2.2.2.2.2.2.2.2.2.2.2).bind fun y20 => (if (Sh.eqT pq y20.1 [0, 0, 0, 0, 0, 0, 0, 0]) then ((mB n ).bind fun y21 => (some y21)) else (some false))) else (some false))))) else (some false)) else (some false))))))) else none))))) y6))) else none))))
def C9 : FS := ⟨⟨[.val tm, .val (.pair cY la), .val (.sl (.pair cY la))], []⟩, ⟨[.val .bool], []⟩, Bool, fun y => ((y, ()), ()), fun o => o.1.1, fun x => Gb n x.1.1 x.1.2.1 x.1.2.2.1⟩
theorem KB : ∀ F x, dL (Oo n) 14 9 0 4 (C5 n) F x = (fg (dZ q_)) (yy n F) x := fun F x => by kernel_rfl
def xn : Cx := Cx.addLoop (Oo n) 9 4 (C5 n)
theorem KC : Good (xn n) := Good.loop (Rs n) 14 0 (by kernel_rfl) (KB n) n (fun _ => rfl) (fun _ => rfl) (fun _ => rfl) rfl
theorem KD : ∀ F x, dL (xn n) 14 12 0 6 (C6 n) F x = (Cu (dZ (C_ q_))) (yz n F) x := fun F x => by kernel_rfl
def xo : Cx := Cx.addLoop (xn n) 12 6 (C6 n)
theorem KE : Good (xo n) := Good.loop (KC n) 14 0 (by kernel_rfl) (KD n) n (fun _ => rfl) (fun _ => rfl) (fun _ => rfl) rfl
theorem KF : ∀ F x, dL (xo n) 14 12 0 12 (C7 n) F x = (fg (eo q_)) (yA n F) x := fun F x => by kernel_rfl
def xp : Cx := Cx.addLoop (xo n) 12 12 (C7 n)
theorem KG : Good (xp n) := Good.loop (KE n) 14 0 (by kernel_rfl) (KF n) n (fun _ => rfl) (fun _ => rfl) (fun _ => rfl) rfl
theorem KH : ∀ F x, dL (xp n) 14 9 0 13 (C8 n) F x = (fg (eo (dZ (C_ q_)))) (yB n F) x := fun F x => by kernel_rfl
def Da : Cx := Cx.addLoop (xp n) 9 13 (C8 n)
theorem KI : Good (Da n) := Good.loop (KG n) 14 0 (by kernel_rfl) (KH n) n (fun _ => rfl) (fun _ => rfl) (fun _ => rfl) rfl
theorem O5 : FP (Da n) 14 9 0 (C9 n) [(120, dT)] := fun x => by kernel_rfl
theorem Kq0.ok : SpecS Tryz.prog 9 (C9 n) := ⟨fun hH hA hx hρ hk => EB (KI n) (O5 n) (fun _ => rfl) (by decide) rfl rfl rfl rfl hH hA hx hρ hk⟩
end Go.Proofs.Dk
namespace Go.Proofs.Dk
open Go Go.RowKit Go.ChangeShapes Go.WideShapes
section
variable {P : Program}
theorem ES {t : TypeId} {s : Sh} (n : Nat) (ho : j7 P n t s = true) (hst : (match P.underlying t with | some (.struct _) => s.multi | _ => true) = true) {H : Type} {enc : TypeId × Value → H} {w : World} {base : Nat} {v : Value} {x : DataW H} {ps : List MemPlace} (hv : Value.okWide P w .any base t v) (h : DataW.Trod enc P w 0 (fun _ => true) true t v x ps) : ∃ a, VR (I0 w) w (s.val a) v ∧ s.Ok a ∧ s.K (th w) w a v.cells.toList := by
 obtain ⟨hc, hop⟩ := od n t s ho
 obtain ⟨fuel, hf⟩ := h
 obtain ⟨a, hk, hok⟩ := hop enc w fuel _ _ hf
 refine ⟨a, ?_, hok, hk⟩
 have one : ∀ {s : Sh} {a : s.T}, s.multi = false → s.K (th w) w a v.cells.toList → v.cells.toList = [v] → VR (I0 w) w (s.val a) v := by
  intro s a hm hk hc
  rw [hc] at hk
  cases s with
  | int k => cases hk; exact .sc _ rfl
  | bool => cases hk; exact .sc _ rfl
  | str => cases hk; exact .sc _ rfl
  | sl e => exact .vs e a v hk
  | fp t => exact .fp t a v hk
  | pair a b => cases hm
  | arr n e => cases hm
 have many : s.multi = true → (∃ cs, v = .agg cs) → VR (I0 w) w (s.val a) v := by
  rintro hm ⟨cs, rfl⟩
  unfold Sh.val
  rw [if_pos hm]
  exact .agg _ _ (Sh.enc_ok (I := I0 w) hk)
 cases n with
 | zero => simp [j7] at ho
 | succ n =>
 simp only [j7, aj, ah] at ho
 obtain ⟨_, ho⟩ := ho
 have scal : (∀ cs, v ≠ .agg cs) → v.cells.toList = [v] := fun hn => by
  cases v <;> first | rfl | exact absurd rfl (hn _)
 split at ho
 ·rename_i k ht
  split at ho
  ·refine one rfl hk (scal fun cs => ?_)
   rintro rfl
   simp [Value.okWide, ht, Cell.okWide, Cell.ok] at hv
  ·cases ho
 ·rename_i ht
  split at ho
  ·refine one rfl hk (scal fun cs => ?_)
   rintro rfl
   simp [Value.okWide, ht, Cell.okWide, Cell.ok] at hv
  ·cases ho
 ·rename_i ht
  split at ho
  ·refine one rfl hk (scal fun cs => ?_)
   rintro rfl
   simp [Value.okWide, ht, Cell.okWide, Cell.ok] at hv
  ·cases ho
 ·rename_i e ht
  split at ho
  ·refine one rfl hk (scal fun cs => ?_)
   rintro rfl
   obtain ⟨_, _, _, h⟩ := okWide_slice ht hv
   cases h
  ·cases ho
 ·rename_i m e ht
  split at ho
  ·refine many rfl ?_
   simp only [Value.okWide, ht] at hv
   obtain ⟨cs, h1, _⟩ := hv
   exact ⟨cs, h1⟩
  ·cases ho
 ·rename_i fs ht
  rw [ht] at hst
  obtain ⟨cs, h1, _⟩ := okWide_struct ht hv
  exact many hst ⟨cs, h1⟩
 ·cases ho
def Sh.Sm : (s : Sh) → s.T → Prop
 | .pair a b, x => a.Sm x.1 ∧ b.Sm x.2
 | .sl _, l => l.length ≤ 140737488351232
 | _, _ => True
def ET (g : TypeId → Sh → Bool) : List Field → Nat → Sh → Bool
 | [], _, _ => false
 | [f], o, s => f.offset == o && g f.type s
 | f :: f' :: r, o, s => match s with
  | .pair a b => f.offset == o && g f.type a && ET g (f' :: r) (o + a.sz) b
  | _ => false
def Il (P : Program) : Nat → TypeId → Sh → Bool
 | 0, _, _ => false
 | n + 1, t, s => P.cellsOf t == s.sz && match s with
  | .int _ => true
  | .bool => true
  | .str => true
  | .arr _ _ => true
  | .fp _ => false
  | .sl _ => (match P.underlying t with | some (.slice e) => decide (0 < P.bytesOf e) | _ => false)
  | .pair a b => (match P.underlying t with | some (.struct fs) => ET (Il P n) fs.toList 0 (.pair a b) | _ => false)
def EU (P : Program) (t : TypeId) (s : Sh) : Prop := P.cellsOf t = s.sz ∧ ∀ {H : Type} (enc : TypeId × Value → H) (w : World) (fuel : Nat) (cs : List Value) (x : DataW H × List MemPlace) (a : s.T), DataW.trod enc P w 0 (fun _ => true) true fuel t cs = some x → (∀ k ∈ x.1.weights P t, k ≤ reachBytes) → s.K (th w) w a cs → s.Sm a
theorem Im {g : TypeId → Sh → Bool} (hg : ∀ t s, g t s = true → EU P t s) : ∀ (fs : List Field) (o : Nat) (s : Sh), ET g fs o s = true → ∀ {H : Type} (enc : TypeId × Value → H) (w : World) (n : Nat) (cs : List Value) (a : s.T) (ds : List (DataW H)), o + s.sz ≤ cs.length → (∀ (i : Nat) (f : Field), fs[i]? = some f → ∃ x, DataW.trod enc P w 0 (fun _ => true) true n f.type ((cs.drop f.offset).take (P.cellsOf f.type)) = some x ∧ ds[i]? = some x.1) → (∀ k ∈ DataW.weightsEach P (fs.map (·.type)) ds, k ≤ reachBytes) → s.K (th w) w a ((cs.drop o).take s.sz) → s.Sm a
 | [], o, s, h => by simp [ET] at h
 | [f], o, s, h => by
  intro enc w n cs a ds hl hx hw hk
  simp only [ET, aj, ah] at h
  obtain ⟨ho, hs⟩ := h
  obtain ⟨hc, hop⟩ := hg _ _ hs
  obtain ⟨x, hx, hd⟩ := hx 0 f rfl
  rw [ho, hc] at hx
  exact hop enc w n _ _ a hx (fun k hk => hw k (DataW.weights_mem_each (j := 0) rfl hd k hk)) hk
 | f :: f' :: r, o, s, h => by
  intro enc w n cs a0 ds hl hx hw hk
  simp only [ET] at h
  split at h
  ·rename_i a b
   simp only [aj, ah] at h
   obtain ⟨⟨ho, hs⟩, hr⟩ := h
   obtain ⟨hc, hop⟩ := hg _ _ hs
   have hl' : o + (a.sz + b.sz) ≤ cs.length := hl
   obtain ⟨c1, c2, e, k1, k2⟩ := hk
   have e : (cs.drop o).take (a.sz + b.sz) = c1 ++ c2 := e
   have l1 := Sh.K_len k1
   have l2 := Sh.K_len k2
   have e1 : c1 = (cs.drop o).take a.sz := by
    have := congrArg (List.take a.sz) e
    rw [cg, cv (by omega), ← l1, List.take_left] at this
    rw [← this, l1]
   have e2 : c2 = (cs.drop (o + a.sz)).take b.sz := by
    have := congrArg (List.drop a.sz) e
    rw [List.drop_take, ← l1, List.drop_left, l1, bu] at this
    rw [← this]
    congr 1
    omega
   obtain ⟨x, hx0, hd0⟩ := hx 0 f rfl
   rw [ho, hc, ← e1] at hx0
   rw [e2] at k2
   refine ⟨hop enc w n _ _ _ hx0 (fun k hk => hw k (DataW.weights_mem_each (j := 0) rfl hd0 k hk)) k1, ?_⟩
   cases ds with
   | nil => cases hd0
   | cons d ds =>
    refine Im hg (f' :: r) (o + a.sz) b hr enc w n cs _ ds (by omega) (fun i g hg => hx (i + 1) g hg) (fun k hk => hw k ?_) k2
    show k ∈ d.weights P f.type ++ DataW.weightsEach P ((f' :: r).map (·.type)) ds
    exact aA.2 (.inr hk)
  ·cases h
theorem Ip : ∀ (n : Nat) (t : TypeId) (s : Sh), Il P n t s = true → EU P t s
 | 0, t, s, h => by simp [Il] at h
 | n + 1, t, s, h => by
  simp only [Il, aj, ah] at h
  obtain ⟨hc, h⟩ := h
  refine ⟨hc, ?_⟩
  intro H enc w fuel cs x a hx hw hk
  cases s with
  | int k => trivial
  | bool => trivial
  | str => trivial
  | arr m e => trivial
  | fp t => simp at h
  | sl e =>
   dsimp only at h
   split at h
   ·rename_i e' ht
    have hB : 0 < P.bytesOf e' := aT h
    obtain ⟨A, cap, hcs, _, _⟩ := hk
    rcases Go.Deep.open_slice ht hx with ⟨h0, _⟩ | ⟨b, len, cap', m, n', D, Pl, h0, _, hl, hm, hmm, hx1, _⟩
    ·rw [hcs] at h0
     simp only [bb, Value.slice.injEq, aR] at h0
     show a.length ≤ _
     omega
    ·rw [hcs] at h0
     simp only [bb, Value.slice.injEq, aR] at h0
     have hxd : x.1 = .slice ((List.range len).map D) ((List.range (m - len)).map fun j => D (len + j)) := by rw [hx1]
     have z := hw ((((List.range len).map D).length + ((List.range (m - len)).map fun j => D (len + j)).length) * P.bytesOf e') (by rw [hxd]; simp [DataW.weights, ht])
     have k1 : len * 1 ≤ len * P.bytesOf e' := Nat.mul_le_mul_left _ hB
     have k2 : len * P.bytesOf e' ≤ (((List.range len).map D).length + ((List.range (m - len)).map fun j => D (len + j)).length) * P.bytesOf e' := aQ _ (by simp)
     have k3 : reachBytes ≤ 140737488351232 := by decide
     have k4 := aS k2 (aS z k3)
     show a.length ≤ _
     omega
   ·cases h
  | pair s1 s2 =>
   dsimp only at h
   split at h
   ·rename_i fs ht
    obtain ⟨xs, k, _, hxe, hl, hxl, hx2⟩ := DataW.trod_struct ht hx
    have hw' : ∀ k ∈ DataW.weightsEach P (fs.toList.map (·.type)) (xs.map (·.1)), k ≤ reachBytes := fun k hk => hw k (by rw [hxe]; simpa [DataW.weights, ht] using hk)
    refine Im (fun t s h => Ip n t s h) fs.toList 0 (.pair s1 s2) h enc w k cs a (xs.map (·.1)) (by omega) (fun i f hi => ?_) hw' (by rw [bH, aW (by omega)]; exact hk)
    have h1 := hx2 i f (by simpa using hi)
    have hlt : i < xs.length := by
     have := (List.getElem?_eq_some_iff.1 hi).1
     rw [hxl]
     simpa using this
    rw [ax hlt] at h1
    exact ⟨_, h1, by rw [bI, ax hlt]; rfl⟩
   ·cases h
theorem Ap {t : TypeId} {s : Sh} (n j : Nat) (hB : Il P n t s = true) {H : Type} {enc : TypeId × Value → H} {w : World} {v : Value} {x : DataW H} {ps : List MemPlace} {a : s.T} {ts : List TypeId} {ds : List (DataW H)} (hsz : (DataW.weightsEach P ts ds).all (· ≤ reachBytes) = true) (h1 : ts[j]? = some t) (h2 : ds[j]? = some x) (hk : s.K (th w) w a v.cells.toList) (h : DataW.Trod enc P w 0 (fun _ => true) true t v x ps) : s.Sm a := by
 obtain ⟨fuel, hf⟩ := h
 refine (Ip n t s hB).2 enc w fuel _ _ a hf (fun k hk => ?_) hk
 have := aN.1 hsz _ (DataW.weights_mem_each h1 h2 k hk)
 simpa using this
end
end Go.Proofs.Dk
namespace Go.Proofs.Dk
open Go Go.IntKind
set_option maxRecDepth 100000
variable (n : Nat)
end Go.Proofs.Dk
namespace Go.Proofs.Dk
open Go Go.IntKind
set_option maxRecDepth 100000
theorem PD (n : Nat) (A B : Int) : db n (1, (A, B)) = (if decide (A ≥ (-9223372036854775808)) then (if decide (A ≤ 9223372036854775807) then some (B == 0) else some false) else some false) := by kernel_rfl
theorem PE (n : Nat) (A B : Int) : db n (2, (A, B)) = (if (A == 0) then some (B == 0) else some false) := by kernel_rfl
theorem PF (n : Nat) (A B : Int) : db n (3, (A, B)) = (if (A == 0) then some (B == 0) else some false) := by kernel_rfl
theorem PG (n : Nat) (A B : Int) : db n (4, (A, B)) = (if (A == 0) then some (B == 0) else some false) := by kernel_rfl
theorem Oq (n : Nat) (A B : Int) : db n (5, (A, B)) = (if decide (A ≥ 1) then (if decide (A ≤ 12) then some (B == 0) else some false) else some false) := by kernel_rfl
theorem PH (n : Nat) (A B : Int) : db n (6, (A, B)) = (if (A == 0) then some (B == 0) else some false) := by kernel_rfl
theorem PI (n : Nat) (A B : Int) : db n (7, (A, B)) = (if (A == 0) then some (B == 0) else some false) := by kernel_rfl
theorem PJ (n : Nat) (A B : Int) : db n (8, (A, B)) = (if (A == 0) then some (B == 0) else some false) := by kernel_rfl
theorem PK (n : Nat) (A B : Int) : db n (9, (A, B)) = (if (A == 0) then some (B == 0) else some false) := by kernel_rfl
theorem O6 (n : Nat) (A B : Int) : db n (10, (A, B)) = (if (A == 0) then some (B == 0) else some false) := by kernel_rfl
theorem Lm (n : Nat) (A B : Int) : db n (11, (A, B)) = (if decide (A ≥ 0) then (if decide (A ≤ 7) then some (B == 0) else some false) else some false) := by kernel_rfl
theorem Ln (n : Nat) (A B : Int) : db n (12, (A, B)) = (if decide (A ≥ 0) then (if decide (A ≤ 7) then some (B == 0) else some false) else some false) := by kernel_rfl
theorem Lo (n : Nat) (A B : Int) : db n (13, (A, B)) = (if decide (A ≥ 0) then (if decide (A ≤ 7) then some (B == 0) else some false) else some false) := by kernel_rfl
theorem Lp (n : Nat) (A B : Int) : db n (14, (A, B)) = (if decide (A ≥ 0) then (if decide (A ≤ 7) then some (B == 0) else some false) else some false) := by kernel_rfl
theorem Lq (n : Nat) (A B : Int) : db n (15, (A, B)) = (if decide (A ≥ 0) then (if decide (A ≤ 15) then some (B == 0) else some false) else some false) := by kernel_rfl
theorem Lr (n : Nat) (A B : Int) : db n (16, (A, B)) = (if decide (A ≥ 0) then (if decide (A ≤ 15) then some (B == 0) else some false) else some false) := by kernel_rfl
theorem Gc (n : Nat) (A B : Int) : db n (17, (A, B)) = (if decide (A ≥ 0) then (if decide (A ≤ 7) then (if decide (B ≥ 0) then some (decide (B ≤ 7)) else some false) else some false) else some false) := by kernel_rfl
theorem Gd (n : Nat) (A B : Int) : db n (18, (A, B)) = (if decide (A ≥ 0) then (if decide (A ≤ 7) then (if decide (B ≥ 0) then some (decide (B ≤ 7)) else some false) else some false) else some false) := by kernel_rfl
theorem Ls (n : Nat) (A B : Int) : db n (19, (A, B)) = (if decide (A ≥ 0) then (if decide (A ≤ 199) then some (B == 0) else some false) else some false) := by kernel_rfl
theorem Lt (n : Nat) (A B : Int) : db n (20, (A, B)) = (if decide (A ≥ 0) then (if decide (A ≤ 199) then some (B == 0) else some false) else some false) := by kernel_rfl
theorem Lu (n : Nat) (A B : Int) : db n (21, (A, B)) = (if decide (A ≥ 1) then (if decide (A ≤ 1000) then some (B == 0) else some false) else some false) := by kernel_rfl
theorem O7 (n : Nat) (A B : Int) : db n (22, (A, B)) = (if (A == 0) then some (B == 0) else some false) := by kernel_rfl
theorem Ge (n : Nat) (A B : Int) : db n (23, (A, B)) = (if decide (A ≥ 0) then (if decide (A ≤ 7) then some (B == 0) else some false) else some false) := by kernel_rfl
theorem Lv (n : Nat) (A B : Int) : db n (24, (A, B)) = (if decide (A ≥ 0) then (if decide (A ≤ 7) then some (B == 0) else some false) else some false) := by kernel_rfl
theorem O8 (n : Nat) (A B : Int) : db n (25, (A, B)) = (if (A == 0) then some (B == 0) else some false) := by kernel_rfl
theorem EV (n : Nat) (o A B : Int) (h : o < 1 ∨ o > 25) : db n (o, (A, B)) = some false := by
 have : lU n o = some (ByteArray.empty, ((-1), (0, 0))) := by
  unfold lU
  rcases h with h | h
  ·simp [h]
  ·by_cases h1 : o < 1 <;> simp [h, h1]
 unfold db
 simp [this]
theorem Gf (n : Nat) (x : Int × Int × Int) : ∃ b, db n x = some b := by
 obtain ⟨o, A, B⟩ := x
 by_cases h : o < 1 ∨ o > 25
 ·exact ⟨_, EV n o A B h⟩
 have ho : o = 1 ∨ o = 2 ∨ o = 3 ∨ o = 4 ∨ o = 5 ∨ o = 6 ∨ o = 7 ∨ o = 8 ∨ o = 9 ∨ o = 10 ∨ o = 11 ∨ o = 12 ∨ o = 13 ∨ o = 14 ∨ o = 15 ∨ o = 16 ∨ o = 17 ∨ o = 18 ∨ o = 19 ∨ o = 20 ∨ o = 21 ∨ o = 22 ∨ o = 23 ∨ o = 24 ∨ o = 25 := by omega
 rcases ho with rfl | rfl | rfl | rfl | rfl | rfl | rfl | rfl | rfl | rfl | rfl | rfl | rfl | rfl | rfl | rfl | rfl | rfl | rfl | rfl | rfl | rfl | rfl | rfl | rfl
 ·rw [PD]
  repeat' split
  all_goals exact ⟨_, rfl⟩
 ·rw [PE]
  repeat' split
  all_goals exact ⟨_, rfl⟩
 ·rw [PF]
  repeat' split
  all_goals exact ⟨_, rfl⟩
 ·rw [PG]
  repeat' split
  all_goals exact ⟨_, rfl⟩
 ·rw [Oq]
  repeat' split
  all_goals exact ⟨_, rfl⟩
 ·rw [PH]
  repeat' split
  all_goals exact ⟨_, rfl⟩
 ·rw [PI]
  repeat' split
  all_goals exact ⟨_, rfl⟩
 ·rw [PJ]
  repeat' split
  all_goals exact ⟨_, rfl⟩
 ·rw [PK]
  repeat' split
  all_goals exact ⟨_, rfl⟩
 ·rw [O6]
  repeat' split
  all_goals exact ⟨_, rfl⟩
 ·rw [Lm]
  repeat' split
  all_goals exact ⟨_, rfl⟩
 ·rw [Ln]
  repeat' split
  all_goals exact ⟨_, rfl⟩
 ·rw [Lo]
  repeat' split
  all_goals exact ⟨_, rfl⟩
 ·rw [Lp]
  repeat' split
  all_goals exact ⟨_, rfl⟩
 ·rw [Lq]
  repeat' split
  all_goals exact ⟨_, rfl⟩
 ·rw [Lr]
  repeat' split
  all_goals exact ⟨_, rfl⟩
 ·rw [Gc]
  repeat' split
  all_goals exact ⟨_, rfl⟩
 ·rw [Gd]
  repeat' split
  all_goals exact ⟨_, rfl⟩
 ·rw [Ls]
  repeat' split
  all_goals exact ⟨_, rfl⟩
 ·rw [Lt]
  repeat' split
  all_goals exact ⟨_, rfl⟩
 ·rw [Lu]
  repeat' split
  all_goals exact ⟨_, rfl⟩
 ·rw [O7]
  repeat' split
  all_goals exact ⟨_, rfl⟩
 ·rw [Ge]
  repeat' split
  all_goals exact ⟨_, rfl⟩
 ·rw [Lv]
  repeat' split
  all_goals exact ⟨_, rfl⟩
 ·rw [O8]
  repeat' split
  all_goals exact ⟨_, rfl⟩
def dg (x : Int × Int × Int) : Bool := (db 0 x).getD false
theorem eU (n : Nat) (x : Int × Int × Int) : db n x = some (dg x) := by
 have e : db n x = db 0 x := rfl
 obtain ⟨b, hb⟩ := Gf 0 x
 rw [e, dg, hb]
 rfl
abbrev cZ := Int × Int × Int
theorem dR {e : Int} (h1 : -9223372036854775808 ≤ e) (h2 : e ≤ 9223372036854775807) : wrap .i64 e = e := by
 rw [IntKind.wrap_i64]
 omega
theorem Ot {n : Int} (h : (Lit.int .i64 n).wf = true) : -9223372036854775808 ≤ n ∧ n ≤ 9223372036854775807 := by
 simp [Lit.wf, IntKind.bits, IntKind.signed, IntKind.min, IntKind.max] at h
 omega
def InR (l : List cZ) : Prop := ∀ x ∈ l, -9223372036854775808 ≤ x.2.1 ∧ x.2.1 ≤ 9223372036854775807
theorem InR.of {l : List cZ} (h : Sh.Ok (.sl (.pair (.int .i64) (.pair (.int .i64) (.int .i64)))) l) : InR l := fun x hx => Ot (h.2 x hx).2.1
theorem vy {l : List cZ} {k : Nat} (h : k < l.length) : l.getD k (0, 0, 0) = l[k] := by
 rw [au, ax h]
 rfl
def xq (l : List cZ) : Bool := l.all dg && (decide (0 < l.length) && decide (l.length ≤ 200))
theorem o7 (n : Nat) (l : List cZ) (hl : l.length < 9223372036854775807) : ∀ (m k : Nat), k ≤ l.length → l.length < m + k → it (fun F => (dZ q_) (gu n F)) m (l, l, (l.length : Int), (k : Int)) = some (if (l.drop k).all dg = true then .inr ((l, ()), ()) else .inl ((false, ()), ()))
 | 0, k, hk, hm => by omega
 | m + 1, k, hk, hm => by
  have ih := o7 n l hl m (k + 1)
  show gu n (it _ m) l l (l.length : Int) (k : Int) = _
  generalize it (fun F => (dZ q_) (gu n F)) m = F at ih ⊢
  unfold gu
  by_cases h : k < l.length
  ·have e1 : decide ((k : Int) < (l.length : Int)) = true := by simp [h]
   have e2 : decide (0 ≤ (k : Int)) = true := by simp
   rw [if_pos e1, if_pos (by rw [e1, e2]; rfl)]
   simp only [ai, vy h, eU, ae]
   rw [b8 h, b6]
   cases hr : dg (l[k].1, l[k].2.1, l[k].2.2)
   ·have hr' : dg l[k] = false := hr
    simp [hr']
   ·have hr' : dg l[k] = true := hr
    have hw : wrap .i64 ((k : Int) + 1) = ((k + 1 : Nat) : Int) := by rw [dR (by omega) (by omega)]; simp
    simp only [hr', cw, aL, aC, aU, hw]
    exact ih (by omega) (by omega)
  ·have hk' : k = l.length := by omega
   have e1 : decide ((k : Int) < (l.length : Int)) = false := by simp [hk']
   rw [if_neg (by rw [e1]; simp)]
   simp [hk']
theorem Bl (n : Nat) (l : List cZ) (hl : l.length < n) (hl2 : n < 9223372036854775807) : lf n l = some (xq l) := by
 unfold lf lb
 have h0 := o7 n l (by omega) n 0 (aB _) (by omega)
 have h1 : ((0 : Nat) : Int) = 0 := rfl
 rw [h1] at h0
 rw [h0]
 unfold xq
 cases h : l.all dg
 ·simp [h]
 ·by_cases h1 : 0 < l.length
  ·simp [h, h1]
   try omega
  ·simp [h, h1]
   try omega
def ends (x : cZ) : cZ := if x.1 = 21 then (22, 0, 0) else (24, x.2.1, 0)
def scanStep (x : cZ) (i : Nat) (m h : List Int) (op : List (Int × cZ)) : Option (List Int × List Int × List (Int × cZ)) :=
 let m1 := m.set i (-1)
 let h1 := if 0 < op.length then (h.set i (-1)).set i (op.getD (op.length - 1) (0, 0, 0, 0)).1 else h.set i (-1)
 if x.1 = 21 ∨ x.1 = 23 then some (m1, h1, op ++ [((i : Int), ends x)])
 else if x.1 = 22 ∨ x.1 = 24 then
  if op.length = 0 then none
  else if (op.getD (op.length - 1) (0, 0, 0, 0)).2 = x then some ((m1.set i (op.getD (op.length - 1) (0, 0, 0, 0)).1).set (op.getD (op.length - 1) (0, 0, 0, 0)).1.toNat i, h1, op.take (op.length - 1)) else none
 else some (m1, h1, op)
def scanS (l : List cZ) : Nat → Nat → List Int → List Int → List (Int × cZ) → Option (List Int × List Int × List (Int × cZ))
 | 0, _, m, h, op => some (m, h, op)
 | r + 1, i, m, h, op => match scanStep (l.getD i (0, 0, 0)) i m h op with
  | some (m, h, op) => scanS l r (i + 1) m h op
  | none => none
structure ScanI (l : List cZ) (i : Nat) (m h : List Int) (op : List (Int × cZ)) : Prop where
 hm : m.length = l.length
 hh : h.length = l.length
 hop : op.length ≤ i
 at_ : ∀ e ∈ op, ∃ k : Nat, k < i ∧ e.1 = (k : Int) ∧ k < l.length ∧ e.2 = ends (l.getD k (0, 0, 0)) ∧ ((l.getD k (0, 0, 0)).1 = 21 ∨ (l.getD k (0, 0, 0)).1 = 23)
theorem rG {α : Type} {l : List α} {d : α} (h : 0 < l.length) : l.getD (l.length - 1) d ∈ l := by
 rw [au, ax (by omega)]
 exact bP _
theorem ScanI.step {l : List cZ} {i : Nat} {m h m' h' : List Int} {op op' : List (Int × cZ)} (hI : ScanI l i m h op) (hi : i < l.length) (hs : scanStep (l.getD i (0, 0, 0)) i m h op = some (m', h', op')) : ScanI l (i + 1) m' h' op' := by
 have up : ∀ e ∈ op, ∃ k : Nat, k < i + 1 ∧ e.1 = (k : Int) ∧ k < l.length ∧ e.2 = ends (l.getD k (0, 0, 0)) ∧ ((l.getD k (0, 0, 0)).1 = 21 ∨ (l.getD k (0, 0, 0)).1 = 23) := fun e he => by
  obtain ⟨k, h1, h2⟩ := hI.at_ e he
  exact ⟨k, by omega, h2⟩
 have hl1 : (if 0 < op.length then (h.set i (-1)).set i (op.getD (op.length - 1) (0, 0, 0, 0)).1 else h.set i (-1)).length = l.length := by
  split <;> simp [hI.hh]
 unfold scanStep at hs
 simp only at hs
 split at hs
 ·rename_i hx
  simp only [ab, ag] at hs
  obtain ⟨rfl, rfl, rfl⟩ := hs
  refine ⟨by simp [hI.hm], hl1, by simp; have := hI.hop; omega, fun e he => ?_⟩
  rcases aA.1 he with he | he
  ·exact up e he
  ·simp only [aq] at he
   subst he
   exact ⟨i, by omega, rfl, hi, rfl, hx⟩
 ·split at hs
  ·split at hs
   ·cases hs
   ·split at hs
    ·simp only [ab, ag] at hs
     obtain ⟨rfl, rfl, rfl⟩ := hs
     exact ⟨by simp [hI.hm], hl1, by simp; have := hI.hop; omega, fun e he => up e (List.mem_of_mem_take he)⟩
    ·cases hs
  ·simp only [ab, ag] at hs
   obtain ⟨rfl, rfl, rfl⟩ := hs
   exact ⟨by simp [hI.hm], hl1, by have := hI.hop; omega, up⟩
theorem vz {k : Nat} (h : 0 < k) (h2 : k < 1000000) : wrap .i64 ((k : Int) - 1) = ((k - 1 : Nat) : Int) := by
 rw [dR (by omega) (by omega)]
 omega
theorem dB {k : Nat} (h2 : k < 1000000) : wrap .i64 ((k : Int) + 1) = ((k + 1 : Nat) : Int) := by
 rw [dR (by omega) (by omega)]
 simp
theorem dc {i k : Nat} (h : i < k) : (decide (0 ≤ (i : Int)) && decide ((i : Int) < (k : Int))) = true := by simp [h]
theorem LX (n : Nat) {m h : List Int} {op : List (Int × cZ)} {i : Nat} {l : List cZ} {N a b c : Int} (hi : i < h.length) (ho : op.length < 1000000) :
  vn n m h op (i : Int) l N (i : Int) a b c = some (m, (if 0 < op.length then h.set i (op.getD (op.length - 1) (0, 0, 0, 0)).1 else h), op, (i : Int), l, N, (i : Int), a, b, c) := by
 unfold vn
 by_cases h0 : 0 < op.length
 ·have e0 : decide ((op.length : Int) > 0) = true := af (by omega)
  rw [if_pos e0, vz h0 ho, if_pos (dc (by omega)), if_pos (dc hi), if_pos h0]
  simp only [ai]
 ·have e0 : ¬ decide ((op.length : Int) > 0) = true := by simp only [av]; omega
  rw [if_neg e0, if_neg h0]
theorem Iq (n : Nat) (F : ((List Int) × (List Int) × (List (Int × (Int × (Int × Int)))) × (List (Int × (Int × Int))) × Int × Int) → Option (((((List Int) × (List Int) × Int × Unit) × Unit) ⊕ (((List Int) × (List Int) × (List (Int × (Int × (Int × Int)))) × Unit) × Unit)))) {l : List cZ} {i : Nat} {m h : List Int} {op : List (Int × cZ)} (hI : ScanI l i m h op) (hi : i < l.length) (hl : l.length < 1000000) :
  kA n F m h op l (l.length : Int) (i : Int) = match scanStep (l.getD i (0, 0, 0)) i m h op with
   | some (m', h', op') => F (m', h', op', l, (l.length : Int), ((i + 1 : Nat) : Int))
   | none => some (.inl (([], [], 7, ()), ())) := by
 have hop := hI.hop
 unfold kA
 have e1 : decide ((i : Int) < (l.length : Int)) = true := by simp [hi]
 rw [if_pos e1, if_pos (dc hi), if_pos (by rw [hI.hm]; exact dc hi), if_pos (by rw [hI.hh]; exact dc hi)]
 simp only [ai]
 rw [LX n (by simp [hI.hh, hi]) (by omega), ae]
 generalize hx : l.getD i (0, 0, 0) = x
 obtain ⟨o, A, B⟩ := x
 simp only
 unfold scanStep
 simp only
 generalize hh1 : (if 0 < op.length then (h.set i (-1)).set i (op.getD (op.length - 1) (0, 0, 0, 0)).1 else h.set i (-1)) = h1
 have hcap : (decide ((op.length + 1) * 32 ≤ 140737488355328) && decide (1 ≤ 32)) = true := by simp; omega
 by_cases h21 : o = 21
 ·subst h21
  simp only [gY]
  simp only [bj, if_true, ae, hcap, dB (show i < 1000000 by omega), ends, true_or]
 by_cases h23 : o = 23
 ·subst h23
  have n1 : ((23 : Int) == 21) = false := rfl
  simp only [gY, n1, bj, if_true, ae, hcap, dB (show i < 1000000 by omega), ends, or_true, aL, aC, show ¬ ((23 : Int) = 21) by decide]
 have n1 : (o == 21) = false := by simpa using h21
 have n2 : (o == 23) = false := by simpa using h23
 have ho : ¬ (o = 21 ∨ o = 23) := fun h => h.elim h21 h23
 simp only [gY, n1, n2, aL, aC, ae, if_neg ho]
 by_cases hc : o = 22 ∨ o = 24
 ·rw [if_pos hc]
  have hj : nM n (m.set i (-1)) h1 op (i : Int) l (l.length : Int) (i : Int) o A B = some (.inr ((m.set i (-1), h1, op, (i : Int), l, (l.length : Int), (i : Int), ()), ((o, A, B, ()), ()))) := by
   unfold nM
   rcases hc with rfl | rfl <;> simp
  rw [hj, ae, cm]
  simp only
  by_cases h0 : op.length = 0
  ·have e0 : ((op.length : Int) == 0) = true := by simp [h0]
   rw [if_pos e0, if_pos h0]
  ·have e0 : ¬ ((op.length : Int) == 0) = true := by simp only [ah]; omega
   have h1l : h1.length = l.length := by rw [← hh1]; split <;> simp [hI.hh]
   have h1g : h1.getD i 0 = (op.getD (op.length - 1) (0, 0, 0, 0)).1 := by
    rw [← hh1, if_pos (by omega), au, List.getElem?_set_self (by simp [hI.hh, hi])]
    rfl
   rw [if_neg e0, if_neg h0, vz (by omega) (by omega), if_pos (dc (by omega))]
   simp only [ai, h1g]
   have hmem : op.getD (op.length - 1) (0, 0, 0, 0) ∈ op := rG (by omega)
   obtain ⟨k, k1, k2, k3, k4, k5⟩ := hI.at_ _ hmem
   generalize op.getD (op.length - 1) (0, 0, 0, 0) = e at *
   obtain ⟨e1', o', A', B'⟩ := e
   simp only at k2 k4
   subst k2
   simp only
   by_cases heq : o' = o ∧ A' = A ∧ B' = B
   ·obtain ⟨rfl, rfl, rfl⟩ := heq
    have c1 : decide (0 ≤ (op.length - 1 : Nat)) = true := by simp
    simp only [bj, Bool.and_self, cw, aL, aC, dc (show i < h1.length by omega), dc (show i < (m.set i (-1)).length by simp [hI.hm, hi]), if_true, aM, dc (show k < m.length by rw [hI.hm]; exact k3), ai]
    rw [if_pos (dc (by rw [hI.hm]; exact hi)), if_pos (by simp), bp, dB (by omega)]
   ·have hne : (o' == o && (A' == A && B' == B)) = false := by
     rw [Bool.eq_false_iff]
     intro h
     simp only [aj, ah] at h
     exact heq h
    have hne2 : ¬ ((o', A', B') = (o, A, B)) := fun h => by
     simp only [ag] at h
     exact heq h
    rw [hne, Bool.not_false, if_pos rfl, if_neg hne2]
 ·rw [if_neg hc]
  have hj : nM n (m.set i (-1)) h1 op (i : Int) l (l.length : Int) (i : Int) o A B = some (.inl ((m.set i (-1), h1, op, l, (l.length : Int), (i : Int), ()), ((o, A, B, ()), ()))) := by
   unfold nM
   have m1 : (o != 22) = true := by simp; exact fun h => hc (.inl h)
   have m2 : (o != 24) = true := by simp; exact fun h => hc (.inr h)
   rw [if_pos m1, if_pos m2]
  rw [hj, ae, Sum.elim_inl]
  simp only [dB (show i < 1000000 by omega)]
theorem Aq (n : Nat) {l : List cZ} (hl : l.length < 1000000) : ∀ (f i : Nat) {m h : List Int} {op : List (Int × cZ)}, ScanI l i m h op → i ≤ l.length → l.length < f + i →
  it (fun F => (eo q_) (kA n F)) f (m, h, op, l, (l.length : Int), (i : Int)) = match scanS l (l.length - i) i m h op with
   | some (m', h', op') => some (.inr ((m', h', op', ()), ()))
   | none => some (.inl (([], [], 7, ()), ()))
 | 0, i, m, h, op, hI, hi, hf => by omega
 | f + 1, i, m, h, op, hI, hi, hf => by
  have ih := fun {m h : List Int} {op : List (Int × cZ)} => Aq n hl f (i + 1) (m := m) (h := h) (op := op)
  show kA n (it _ f) m h op l (l.length : Int) (i : Int) = _
  generalize it (fun F => (eo q_) (kA n F)) f = F at ih ⊢
  rcases am i l.length with hlt | hge
  ·rw [Iq n F hI hlt hl, show l.length - i = (l.length - (i + 1)) + 1 by omega]
   simp only [scanS]
   cases hs : scanStep (l.getD i (0, 0, 0)) i m h op with
   | none => rfl
   | some p =>
    obtain ⟨m', h', op'⟩ := p
    exact ih (hI.step hlt hs) (by omega) (by omega)
  ·have : i = l.length := by omega
   subst this
   unfold kA
   have e1 : ¬ decide ((l.length : Int) < (l.length : Int)) = true := by simp
   rw [if_neg e1]
   simp [scanS]
def scanI (l : List cZ) : List Int × List Int × Int := if xq l = true then match scanS l l.length 0 (List.replicate l.length 0) (List.replicate l.length 0) [] with
  | some (m, h, op) => if 0 < op.length then ([], [], 7) else (m, h, 0)
  | none => ([], [], 7)
 else ([], [], 1)
theorem ScanI.start (l : List cZ) : ScanI l 0 (List.replicate l.length 0) (List.replicate l.length 0) [] := ⟨by simp, by simp, by simp, fun e he => by cases he⟩
theorem vA (n : Nat) (l : List cZ) (hl : l.length < n) (hn : n < 1000000) : ou n l = some (scanI l) := by
 unfold ou
 rw [Bl n l hl (by omega), ae]
 unfold scanI
 cases hr : xq l
 ·simp
 ·have c : (decide (0 ≤ (l.length : Int)) && ((l.length : Int) == (l.length : Int)) && decide ((l.length : Int) * (8 : Int) ≤ 140737488355328) && decide (1 ≤ 8)) = true := by
   simp
   omega
  simp only [cw, aL, aC, c, if_true, ai]
  have h0 := Aq n (by omega) n 0 (ScanI.start l) (aB _) (by omega)
  unfold tC
  have z : ((0 : Nat) : Int) = 0 := rfl
  rw [z] at h0
  rw [h0, bp]
  cases scanS l l.length 0 (List.replicate l.length 0) (List.replicate l.length 0) [] with
  | none => rfl
  | some p =>
   obtain ⟨m, h, op⟩ := p
   simp only [ae, cm]
   by_cases ho : 0 < op.length
   ·have : decide ((op.length : Int) > 0) = true := af (by omega)
    rw [if_pos this, if_pos ho]
   ·have : ¬ decide ((op.length : Int) > 0) = true := by simp only [av]; omega
    rw [if_neg this, if_neg ho]
end Go.Proofs.Dk
