/- A part of the proofs: Plain: a step of a machine whose state is in order. -/
import Derived.Test.YtofeifhecboinaaMB4
import Derived.Test.YtofeifhecboinaaMB3
set_option linter.unusedVariables false
set_option linter.unusedSimpArgs false
noncomputable section
namespace Go.Proofs.Dk
open Go Go.IntKind
set_option maxRecDepth 100000
theorem kM {o A B : Int} (ho : o = 11 ∨ o = 12 ∨ o = 13 ∨ o = 14 ∨ o = 23 ∨ o = 24) (h : cX (o, A, B) = true) : 0 ≤ A ∧ A ≤ 7 := by
 have key : cN 0 (o, A, B) = (if decide (A ≥ 0) then (if decide (A ≤ 7) then some (B == 0) else some false) else some false) := by
  rcases ho with rfl | rfl | rfl | rfl | rfl | rfl
  ·exact BA 0 A B
  ·exact BC 0 A B
  ·exact BD 0 A B
  ·exact BE 0 A B
  ·exact xN 0 A B
  ·exact BK 0 A B
 have h1 := (ei 0 (o, A, B)).symm.trans key
 rw [h] at h1
 by_cases h2 : A ≥ 0
 ·rw [if_pos (af h2)] at h1
  by_cases h3 : A ≤ 7
  ·exact ⟨h2, h3⟩
  ·rw [if_neg (by simpa using h3)] at h1; cases h1
 ·rw [if_neg (by simpa using h2)] at h1; cases h1
theorem w4 {o A B : Int} (ho : o = 15 ∨ o = 16) (h : cX (o, A, B) = true) : 0 ≤ A ∧ A ≤ 15 := by
 have key : cN 0 (o, A, B) = (if decide (A ≥ 0) then (if decide (A ≤ 15) then some (B == 0) else some false) else some false) := by
  rcases ho with rfl | rfl
  ·exact BF 0 A B
  ·exact BG 0 A B
 have h1 := (ei 0 (o, A, B)).symm.trans key
 rw [h] at h1
 by_cases h2 : A ≥ 0
 ·rw [if_pos (af h2)] at h1
  by_cases h3 : A ≤ 15
  ·exact ⟨h2, h3⟩
  ·rw [if_neg (by simpa using h3)] at h1; cases h1
 ·rw [if_neg (by simpa using h2)] at h1; cases h1
theorem w5 {o A B : Int} (ho : o = 17 ∨ o = 18) (h : cX (o, A, B) = true) : (0 ≤ A ∧ A ≤ 7) ∧ (0 ≤ B ∧ B ≤ 7) := by
 have key : cN 0 (o, A, B) = (if decide (A ≥ 0) then (if decide (A ≤ 7) then (if decide (B ≥ 0) then some (decide (B ≤ 7)) else some false) else some false) else some false) := by
  rcases ho with rfl | rfl
  ·exact xL 0 A B
  ·exact xM 0 A B
 have h1 := (ei 0 (o, A, B)).symm.trans key
 rw [h] at h1
 by_cases h2 : A ≥ 0
 ·rw [if_pos (af h2)] at h1
  by_cases h3 : A ≤ 7
  ·rw [if_pos (af h3)] at h1
   by_cases h4 : B ≥ 0
   ·rw [if_pos (af h4)] at h1
    exact ⟨⟨h2, h3⟩, h4, bA (am h1).symm⟩
   ·rw [if_neg (by simpa using h4)] at h1; cases h1
  ·rw [if_neg (by simpa using h3)] at h1; cases h1
 ·rw [if_neg (by simpa using h2)] at h1; cases h1
structure Row (l : List cL) (m h : List Int) (st : List ByteArray) : Prop where
 fine : Fine l m h
 stk : Stk l m st
 rise : Bj l m
theorem DS {l : List cL} (h1 : iM l = 0) (h2 : kl l = 0) : Row l (scanI l).1 (scanI l).2.1 (km l) :=
 ⟨m9 (oO h1), (xT h2).2, xX h1⟩
structure Ok (l : List cL) (m : List Int) (st : List ByteArray) (s : MS) (i : Nat) (rs : List (Nat × Int)) : Prop where
 place : s.at_ = (i : Int)
 lt : i < l.length
 vt : VT (nB st i) s.stk
 lps : rs.map (·.1) = lps l m i
 rds : s.rds = rs.map (·.2)
 rnd : ∀ e ∈ rs, 1 ≤ e.2 ∧ e.2 ≤ db l e.1
 held : ∃ v : Nat, s.held = (v : Int) ∧ HeldB l m i v
theorem ez {v : List Int} (h : v.length ≤ 1000) : (decide ((v.length + 1) * 8 ≤ 140737488355328) && decide (1 ≤ 8)) = true := by simp; omega
theorem ju {A k : Int} (h : 0 ≤ A ∧ A < k) : (decide (0 ≤ A) && decide (A < k)) = true := by simp; exact h
theorem ed (v : List Int) : (pr v).length = v.length - 1 := by
 unfold pr
 rw [List.length_take]
 omega
theorem dN {i : Nat} (h : i < 1000000) : wrap .i64 ((i : Int) + 1) = (i : Int) + 1 := dT (by omega) (by omega)
theorem Bm {r : List Int} {x y : Int} : (r ++ [x]).set r.length y = r ++ [y] := by
 rw [List.set_append_right _ _ (ak _), bT]
 rfl
abbrev dL (n : Nat) (l : List cL) (m : List Int) (x : cL) (mt : Int) (s : MS) (mem : dQ) : Prop :=
 BN n l m true s mem = some (EJ x, 0, DR l m (decide (x.1 ≠ 25)) (fe x mt s mem) (ta x s mem))
theorem F7 (n : Nat) {l : List cL} {m : List Int} {i : Nat} (hl : l.length ≤ 200) (hi : i < l.length) {A B : Int} (hx : l.getD i (0, 0, 0) = (1, A, B)) (hr : cX (1, A, B) = true) {ret stk loc inp out rds : List Int} {set held flt stp : Int} {mem : dQ} (hs : stk.length ≤ 16) {mt : Int} : dL n l m (1, A, B) mt ⟨ret, (i : Int), stk, loc, inp, out, set, rds, held, flt, stp⟩ mem := by
 have h0 : decide ((l.length : Int) > 0) = true := af (by omega)
 have hi2 : (decide (0 ≤ (i : Int)) && decide ((i : Int) < (l.length : Int))) = true := cP hi
 have hx2 : l.getD ((i : Int)).toNat (0, 0, 0) = (1, A, B) := by rw [ai]; exact hx
 have hn := dN (show i < 1000000 by omega)
 refine (EU n (v1 := l) (v2 := m) (v3 := ret) (v5 := (i : Int)) (v6 := stk) (v7 := loc) (v8 := inp) (v9 := out) (v10 := set) (v11 := rds) (v12 := held) (v13 := flt) (v14 := stp) (v15 := mem) h0 hi2 hx2).trans ?_
 rw [if_pos (ez (by omega)), hn]
 kernel_rfl
theorem F8 (n : Nat) {l : List cL} {m : List Int} {i : Nat} (hl : l.length ≤ 200) (hi : i < l.length) {A B : Int} (hx : l.getD i (0, 0, 0) = (2, A, B)) (hr : cX (2, A, B) = true) {ret stk loc inp out rds : List Int} {set held flt stp : Int} {mem : dQ} (hs : stk.length ≤ 16) (hd : 1 ≤ stk.length) {mt : Int} : dL n l m (2, A, B) mt ⟨ret, (i : Int), stk, loc, inp, out, set, rds, held, flt, stp⟩ mem := by
 have h0 : decide ((l.length : Int) > 0) = true := af (by omega)
 have hi2 : (decide (0 ≤ (i : Int)) && decide ((i : Int) < (l.length : Int))) = true := cP hi
 have hx2 : l.getD ((i : Int)).toNat (0, 0, 0) = (2, A, B) := by rw [ai]; exact hx
 have hn := dN (show i < 1000000 by omega)
 refine (EV n (v1 := l) (v2 := m) (v3 := ret) (v5 := (i : Int)) (v6 := stk) (v7 := loc) (v8 := inp) (v9 := out) (v10 := set) (v11 := rds) (v12 := held) (v13 := flt) (v14 := stp) (v15 := mem) h0 hi2 hx2).trans ?_
 rw [eJ n _ _ _ _ _ (v6 := stk) _ _ _ _ _ _ _ _ (by omega) (by omega), ab, hn]
 kernel_rfl
theorem F9 (n : Nat) {l : List cL} {m : List Int} {i : Nat} (hl : l.length ≤ 200) (hi : i < l.length) {A B : Int} (hx : l.getD i (0, 0, 0) = (3, A, B)) (hr : cX (3, A, B) = true) {ret stk loc inp out rds : List Int} {set held flt stp : Int} {mem : dQ} (hs : stk.length ≤ 16) (hd : 1 ≤ stk.length) {mt : Int} : dL n l m (3, A, B) mt ⟨ret, (i : Int), stk, loc, inp, out, set, rds, held, flt, stp⟩ mem := by
 have h0 : decide ((l.length : Int) > 0) = true := af (by omega)
 have hi2 : (decide (0 ≤ (i : Int)) && decide ((i : Int) < (l.length : Int))) = true := cP hi
 have hx2 : l.getD ((i : Int)).toNat (0, 0, 0) = (3, A, B) := by rw [ai]; exact hx
 have hn := dN (show i < 1000000 by omega)
 refine (EW n (v1 := l) (v2 := m) (v3 := ret) (v5 := (i : Int)) (v6 := stk) (v7 := loc) (v8 := inp) (v9 := out) (v10 := set) (v11 := rds) (v12 := held) (v13 := flt) (v14 := stp) (v15 := mem) h0 hi2 hx2).trans ?_
 rw [zJ (by omega) (by omega), if_pos (cP (by omega)), if_pos (ez (by omega)), hn, ai]
 kernel_rfl
theorem Ga (n : Nat) {l : List cL} {m : List Int} {i : Nat} (hl : l.length ≤ 200) (hi : i < l.length) {A B : Int} (hx : l.getD i (0, 0, 0) = (4, A, B)) (hr : cX (4, A, B) = true) {ret stk loc inp out rds : List Int} {set held flt stp : Int} {mem : dQ} (hs : stk.length ≤ 16) (hd : 2 ≤ stk.length) {mt : Int} : dL n l m (4, A, B) mt ⟨ret, (i : Int), stk, loc, inp, out, set, rds, held, flt, stp⟩ mem := by
 have h0 : decide ((l.length : Int) > 0) = true := af (by omega)
 have hi2 : (decide (0 ≤ (i : Int)) && decide ((i : Int) < (l.length : Int))) = true := cP hi
 have hx2 : l.getD ((i : Int)).toNat (0, 0, 0) = (4, A, B) := by rw [ai]; exact hx
 have hn := dN (show i < 1000000 by omega)
 refine (EX n (v1 := l) (v2 := m) (v3 := ret) (v5 := (i : Int)) (v6 := stk) (v7 := loc) (v8 := inp) (v9 := out) (v10 := set) (v11 := rds) (v12 := held) (v13 := flt) (v14 := stp) (v15 := mem) h0 hi2 hx2).trans ?_
 rw [eJ n _ _ _ _ _ (v6 := stk) _ _ _ _ _ _ _ _ (by omega) (by omega), ab, eJ n _ _ _ _ _ (v6 := pr stk) _ _ _ _ _ _ _ _ (by rw [ed]; omega) (by rw [ed]; omega), ab]
 simp only []
 rw [if_pos (ez (by rw [ed, ed]; omega)), if_pos (ez (by rw [aS, ed, ed, List.length_singleton]; omega)), hn]
 kernel_rfl
theorem Gb (n : Nat) {l : List cL} {m : List Int} {i : Nat} (hl : l.length ≤ 200) (hi : i < l.length) {A B : Int} (hx : l.getD i (0, 0, 0) = (5, A, B)) (hr : cX (5, A, B) = true) {ret stk loc inp out rds : List Int} {set held flt stp : Int} {mem : dQ} (hs : stk.length ≤ 16) (hd : 2 ≤ stk.length) {mt : Int} : dL n l m (5, A, B) mt ⟨ret, (i : Int), stk, loc, inp, out, set, rds, held, flt, stp⟩ mem := by
 have h0 : decide ((l.length : Int) > 0) = true := af (by omega)
 have hi2 : (decide (0 ≤ (i : Int)) && decide ((i : Int) < (l.length : Int))) = true := cP hi
 have hx2 : l.getD ((i : Int)).toNat (0, 0, 0) = (5, A, B) := by rw [ai]; exact hx
 have hn := dN (show i < 1000000 by omega)
 have hb : ∀ b : Bool, fw n b = some (if b = true then 1 else 0) := fun b => by cases b <;> rfl
 refine (EY n (v1 := l) (v2 := m) (v3 := ret) (v5 := (i : Int)) (v6 := stk) (v7 := loc) (v8 := inp) (v9 := out) (v10 := set) (v11 := rds) (v12 := held) (v13 := flt) (v14 := stp) (v15 := mem) h0 hi2 hx2).trans ?_
 rw [eJ n _ _ _ _ _ (v6 := stk) _ _ _ _ _ _ _ _ (by omega) (by omega), ab, eJ n _ _ _ _ _ (v6 := pr stk) _ _ _ _ _ _ _ _ (by rw [ed]; omega) (by rw [ed]; omega), ab]
 simp only []
 rw [(zK n (vP hr) _ _).1, ab]
 rw [hb, ab, if_pos (ez (by rw [ed, ed]; omega)), hn]
 kernel_rfl
theorem Gc (n : Nat) {l : List cL} {m : List Int} {i : Nat} (hl : l.length ≤ 200) (hi : i < l.length) {A B : Int} (hx : l.getD i (0, 0, 0) = (6, A, B)) (hr : cX (6, A, B) = true) {ret stk loc inp out rds : List Int} {set held flt stp : Int} {mem : dQ} (hs : stk.length ≤ 16) (hd : 1 ≤ stk.length) {mt : Int} : dL n l m (6, A, B) mt ⟨ret, (i : Int), stk, loc, inp, out, set, rds, held, flt, stp⟩ mem := by
 have h0 : decide ((l.length : Int) > 0) = true := af (by omega)
 have hi2 : (decide (0 ≤ (i : Int)) && decide ((i : Int) < (l.length : Int))) = true := cP hi
 have hx2 : l.getD ((i : Int)).toNat (0, 0, 0) = (6, A, B) := by rw [ai]; exact hx
 have hn := dN (show i < 1000000 by omega)
 refine (EZ n (v1 := l) (v2 := m) (v3 := ret) (v5 := (i : Int)) (v6 := stk) (v7 := loc) (v8 := inp) (v9 := out) (v10 := set) (v11 := rds) (v12 := held) (v13 := flt) (v14 := stp) (v15 := mem) h0 hi2 hx2).trans ?_
 rw [eJ n _ _ _ _ _ (v6 := stk) _ _ _ _ _ _ _ _ (by omega) (by omega), ab]
 simp only []
 rw [show lj n (pv stk) = some (wrap .i64 (0 - pv stk)) from rfl, ab, if_pos (ez (by rw [ed]; omega)), hn]
 kernel_rfl
theorem Gd (n : Nat) {l : List cL} {m : List Int} {i : Nat} (hl : l.length ≤ 200) (hi : i < l.length) {A B : Int} (hx : l.getD i (0, 0, 0) = (7, A, B)) (hr : cX (7, A, B) = true) {ret stk loc inp out rds : List Int} {set held flt stp : Int} {mem : dQ} (hs : stk.length ≤ 16) (hd : 1 ≤ stk.length) {mt : Int} : dL n l m (7, A, B) mt ⟨ret, (i : Int), stk, loc, inp, out, set, rds, held, flt, stp⟩ mem := by
 have h0 : decide ((l.length : Int) > 0) = true := af (by omega)
 have hi2 : (decide (0 ≤ (i : Int)) && decide ((i : Int) < (l.length : Int))) = true := cP hi
 have hx2 : l.getD ((i : Int)).toNat (0, 0, 0) = (7, A, B) := by rw [ai]; exact hx
 have hn := dN (show i < 1000000 by omega)
 have hb : jJ n (pv stk) = some (if pv stk = 0 then 1 else 0) := by
  unfold jJ fw
  by_cases h : pv stk = 0
  ·rw [if_pos (by simpa using h), if_pos h]; rfl
  ·rw [if_neg (by simpa using h), if_neg h]; rfl
 refine (E0 n (v1 := l) (v2 := m) (v3 := ret) (v5 := (i : Int)) (v6 := stk) (v7 := loc) (v8 := inp) (v9 := out) (v10 := set) (v11 := rds) (v12 := held) (v13 := flt) (v14 := stp) (v15 := mem) h0 hi2 hx2).trans ?_
 rw [eJ n _ _ _ _ _ (v6 := stk) _ _ _ _ _ _ _ _ (by omega) (by omega), ab]
 simp only []
 rw [hb, ab, if_pos (ez (by rw [ed]; omega)), hn]
 kernel_rfl
theorem Ge (n : Nat) {l : List cL} {m : List Int} {i : Nat} (hl : l.length ≤ 200) (hi : i < l.length) {A B : Int} (hx : l.getD i (0, 0, 0) = (8, A, B)) (hr : cX (8, A, B) = true) {ret stk loc inp out rds : List Int} {set held flt stp : Int} {mem : dQ} (hs : stk.length ≤ 16) (hd : 2 ≤ stk.length) {mt : Int} : dL n l m (8, A, B) mt ⟨ret, (i : Int), stk, loc, inp, out, set, rds, held, flt, stp⟩ mem := by
 have h0 : decide ((l.length : Int) > 0) = true := af (by omega)
 have hi2 : (decide (0 ≤ (i : Int)) && decide ((i : Int) < (l.length : Int))) = true := cP hi
 have hx2 : l.getD ((i : Int)).toNat (0, 0, 0) = (8, A, B) := by rw [ai]; exact hx
 have hn := dN (show i < 1000000 by omega)
 refine (E1 n (v1 := l) (v2 := m) (v3 := ret) (v5 := (i : Int)) (v6 := stk) (v7 := loc) (v8 := inp) (v9 := out) (v10 := set) (v11 := rds) (v12 := held) (v13 := flt) (v14 := stp) (v15 := mem) h0 hi2 hx2).trans ?_
 rw [eJ n _ _ _ _ _ (v6 := stk) _ _ _ _ _ _ _ _ (by omega) (by omega), ab, eJ n _ _ _ _ _ (v6 := pr stk) _ _ _ _ _ _ _ _ (by rw [ed]; omega) (by rw [ed]; omega), ab]
 simp only []
 rw [if_pos (ez (by rw [ed, ed]; omega)), hn]
 kernel_rfl
theorem Gf (n : Nat) {l : List cL} {m : List Int} {i : Nat} (hl : l.length ≤ 200) (hi : i < l.length) {A B : Int} (hx : l.getD i (0, 0, 0) = (9, A, B)) (hr : cX (9, A, B) = true) {ret stk loc inp out rds : List Int} {set held flt stp : Int} {mem : dQ} (hs : stk.length ≤ 16) (hd : 2 ≤ stk.length) {mt : Int} : dL n l m (9, A, B) mt ⟨ret, (i : Int), stk, loc, inp, out, set, rds, held, flt, stp⟩ mem := by
 have h0 : decide ((l.length : Int) > 0) = true := af (by omega)
 have hi2 : (decide (0 ≤ (i : Int)) && decide ((i : Int) < (l.length : Int))) = true := cP hi
 have hx2 : l.getD ((i : Int)).toNat (0, 0, 0) = (9, A, B) := by rw [ai]; exact hx
 have hn := dN (show i < 1000000 by omega)
 refine (E2 n (v1 := l) (v2 := m) (v3 := ret) (v5 := (i : Int)) (v6 := stk) (v7 := loc) (v8 := inp) (v9 := out) (v10 := set) (v11 := rds) (v12 := held) (v13 := flt) (v14 := stp) (v15 := mem) h0 hi2 hx2).trans ?_
 rw [eJ n _ _ _ _ _ (v6 := stk) _ _ _ _ _ _ _ _ (by omega) (by omega), ab, eJ n _ _ _ _ _ (v6 := pr stk) _ _ _ _ _ _ _ _ (by rw [ed]; omega) (by rw [ed]; omega), ab]
 simp only []
 rw [if_pos (ez (by rw [ed, ed]; omega)), hn]
 kernel_rfl
theorem E3 (n : Nat) {l : List cL} {m : List Int} {i : Nat} (hl : l.length ≤ 200) (hi : i < l.length) {A B : Int} (hx : l.getD i (0, 0, 0) = (10, A, B)) (hr : cX (10, A, B) = true) {ret stk loc inp out rds : List Int} {set held flt stp : Int} {mem : dQ} (hs : stk.length ≤ 16) {mt : Int} : dL n l m (10, A, B) mt ⟨ret, (i : Int), stk, loc, inp, out, set, rds, held, flt, stp⟩ mem := by
 have h0 : decide ((l.length : Int) > 0) = true := af (by omega)
 have hi2 : (decide (0 ≤ (i : Int)) && decide ((i : Int) < (l.length : Int))) = true := cP hi
 have hx2 : l.getD ((i : Int)).toNat (0, 0, 0) = (10, A, B) := by rw [ai]; exact hx
 have hn := dN (show i < 1000000 by omega)
 refine (Eo n (v1 := l) (v2 := m) (v3 := ret) (v5 := (i : Int)) (v6 := stk) (v7 := loc) (v8 := inp) (v9 := out) (v10 := set) (v11 := rds) (v12 := held) (v13 := flt) (v14 := stp) (v15 := mem) h0 hi2 hx2).trans ?_
 rw [hn]
 kernel_rfl
theorem E4 (n : Nat) {l : List cL} {m : List Int} {i : Nat} (hl : l.length ≤ 200) (hi : i < l.length) {A B : Int} (hx : l.getD i (0, 0, 0) = (11, A, B)) (hr : cX (11, A, B) = true) {ret stk loc inp out rds : List Int} {set held flt stp : Int} {mem : dQ} (hs : stk.length ≤ 16) {mt : Int} : dL n l m (11, A, B) mt ⟨ret, (i : Int), stk, loc, inp, out, set, rds, held, flt, stp⟩ mem := by
 have h0 : decide ((l.length : Int) > 0) = true := af (by omega)
 have hi2 : (decide (0 ≤ (i : Int)) && decide ((i : Int) < (l.length : Int))) = true := cP hi
 have hx2 : l.getD ((i : Int)).toNat (0, 0, 0) = (11, A, B) := by rw [ai]; exact hx
 have hn := dN (show i < 1000000 by omega)
 have ha := kM (by omega) hr
 refine (Ep n (v1 := l) (v2 := m) (v3 := ret) (v5 := (i : Int)) (v6 := stk) (v7 := loc) (v8 := inp) (v9 := out) (v10 := set) (v11 := rds) (v12 := held) (v13 := flt) (v14 := stp) (v15 := mem) h0 hi2 hx2).trans ?_
 rw [if_pos (ju (by omega)), if_pos (ez (by omega)), hn]
 kernel_rfl
theorem E5 (n : Nat) {l : List cL} {m : List Int} {i : Nat} (hl : l.length ≤ 200) (hi : i < l.length) {A B : Int} (hx : l.getD i (0, 0, 0) = (13, A, B)) (hr : cX (13, A, B) = true) {ret stk loc inp out rds : List Int} {set held flt stp : Int} {mem : dQ} (hs : stk.length ≤ 16) {mt : Int} : dL n l m (13, A, B) mt ⟨ret, (i : Int), stk, loc, inp, out, set, rds, held, flt, stp⟩ mem := by
 have h0 : decide ((l.length : Int) > 0) = true := af (by omega)
 have hi2 : (decide (0 ≤ (i : Int)) && decide ((i : Int) < (l.length : Int))) = true := cP hi
 have hx2 : l.getD ((i : Int)).toNat (0, 0, 0) = (13, A, B) := by rw [ai]; exact hx
 have hn := dN (show i < 1000000 by omega)
 have ha := kM (by omega) hr
 refine (Es n (v1 := l) (v2 := m) (v3 := ret) (v5 := (i : Int)) (v6 := stk) (v7 := loc) (v8 := inp) (v9 := out) (v10 := set) (v11 := rds) (v12 := held) (v13 := flt) (v14 := stp) (v15 := mem) h0 hi2 hx2).trans ?_
 rw [if_pos (ju (by omega)), if_pos (ez (by omega)), hn]
 kernel_rfl
theorem E6 (n : Nat) {l : List cL} {m : List Int} {i : Nat} (hl : l.length ≤ 200) (hi : i < l.length) {A B : Int} (hx : l.getD i (0, 0, 0) = (15, A, B)) (hr : cX (15, A, B) = true) {ret stk loc inp out rds : List Int} {set held flt stp : Int} {mem : dQ} (hs : stk.length ≤ 16) {mt : Int} : dL n l m (15, A, B) mt ⟨ret, (i : Int), stk, loc, inp, out, set, rds, held, flt, stp⟩ mem := by
 have h0 : decide ((l.length : Int) > 0) = true := af (by omega)
 have hi2 : (decide (0 ≤ (i : Int)) && decide ((i : Int) < (l.length : Int))) = true := cP hi
 have hx2 : l.getD ((i : Int)).toNat (0, 0, 0) = (15, A, B) := by rw [ai]; exact hx
 have hn := dN (show i < 1000000 by omega)
 have ha := w4 (by omega) hr
 refine (Eu n (v1 := l) (v2 := m) (v3 := ret) (v5 := (i : Int)) (v6 := stk) (v7 := loc) (v8 := inp) (v9 := out) (v10 := set) (v11 := rds) (v12 := held) (v13 := flt) (v14 := stp) (v15 := mem) h0 hi2 hx2).trans ?_
 rw [if_pos (ju (by omega)), if_pos (ez (by omega)), hn]
 kernel_rfl
theorem E7 (n : Nat) {l : List cL} {m : List Int} {i : Nat} (hl : l.length ≤ 200) (hi : i < l.length) {A B : Int} (hx : l.getD i (0, 0, 0) = (17, A, B)) (hr : cX (17, A, B) = true) {ret stk loc inp out rds : List Int} {set held flt stp : Int} {mem : dQ} (hs : stk.length ≤ 16) {mt : Int} : dL n l m (17, A, B) mt ⟨ret, (i : Int), stk, loc, inp, out, set, rds, held, flt, stp⟩ mem := by
 have h0 : decide ((l.length : Int) > 0) = true := af (by omega)
 have hi2 : (decide (0 ≤ (i : Int)) && decide ((i : Int) < (l.length : Int))) = true := cP hi
 have hx2 : l.getD ((i : Int)).toNat (0, 0, 0) = (17, A, B) := by rw [ai]; exact hx
 have hn := dN (show i < 1000000 by omega)
 have ha := w5 (by omega) hr
 refine (Ew n (v1 := l) (v2 := m) (v3 := ret) (v5 := (i : Int)) (v6 := stk) (v7 := loc) (v8 := inp) (v9 := out) (v10 := set) (v11 := rds) (v12 := held) (v13 := flt) (v14 := stp) (v15 := mem) h0 hi2 hx2).trans ?_
 rw [if_pos (ju (by omega)), if_pos (ju (by omega)), if_pos (ez (by omega)), hn]
 kernel_rfl
theorem E8 (n : Nat) {l : List cL} {m : List Int} {i : Nat} (hl : l.length ≤ 200) (hi : i < l.length) {A B : Int} (hx : l.getD i (0, 0, 0) = (12, A, B)) (hr : cX (12, A, B) = true) {ret stk loc inp out rds : List Int} {set held flt stp : Int} {mem : dQ} (hs : stk.length ≤ 16) (hd : 1 ≤ stk.length) {mt : Int} : dL n l m (12, A, B) mt ⟨ret, (i : Int), stk, loc, inp, out, set, rds, held, flt, stp⟩ mem := by
 have h0 : decide ((l.length : Int) > 0) = true := af (by omega)
 have hi2 : (decide (0 ≤ (i : Int)) && decide ((i : Int) < (l.length : Int))) = true := cP hi
 have hx2 : l.getD ((i : Int)).toNat (0, 0, 0) = (12, A, B) := by rw [ai]; exact hx
 have hn := dN (show i < 1000000 by omega)
 have ha := kM (by omega) hr
 refine (Er n (v1 := l) (v2 := m) (v3 := ret) (v5 := (i : Int)) (v6 := stk) (v7 := loc) (v8 := inp) (v9 := out) (v10 := set) (v11 := rds) (v12 := held) (v13 := flt) (v14 := stp) (v15 := mem) h0 hi2 hx2).trans ?_
 rw [eJ n _ _ _ _ _ (v6 := stk) _ _ _ _ _ _ _ _ (by omega) (by omega), ab, if_pos (ju (by omega)), hn]
 kernel_rfl
theorem E9 (n : Nat) {l : List cL} {m : List Int} {i : Nat} (hl : l.length ≤ 200) (hi : i < l.length) {A B : Int} (hx : l.getD i (0, 0, 0) = (14, A, B)) (hr : cX (14, A, B) = true) {ret stk loc inp out rds : List Int} {set held flt stp : Int} {mem : dQ} (hs : stk.length ≤ 16) (hd : 1 ≤ stk.length) {mt : Int} : dL n l m (14, A, B) mt ⟨ret, (i : Int), stk, loc, inp, out, set, rds, held, flt, stp⟩ mem := by
 have h0 : decide ((l.length : Int) > 0) = true := af (by omega)
 have hi2 : (decide (0 ≤ (i : Int)) && decide ((i : Int) < (l.length : Int))) = true := cP hi
 have hx2 : l.getD ((i : Int)).toNat (0, 0, 0) = (14, A, B) := by rw [ai]; exact hx
 have hn := dN (show i < 1000000 by omega)
 have ha := kM (by omega) hr
 refine (Et n (v1 := l) (v2 := m) (v3 := ret) (v5 := (i : Int)) (v6 := stk) (v7 := loc) (v8 := inp) (v9 := out) (v10 := set) (v11 := rds) (v12 := held) (v13 := flt) (v14 := stp) (v15 := mem) h0 hi2 hx2).trans ?_
 rw [eJ n _ _ _ _ _ (v6 := stk) _ _ _ _ _ _ _ _ (by omega) (by omega), ab, if_pos (ju (by omega)), hn]
 kernel_rfl
theorem Fa (n : Nat) {l : List cL} {m : List Int} {i : Nat} (hl : l.length ≤ 200) (hi : i < l.length) {A B : Int} (hx : l.getD i (0, 0, 0) = (16, A, B)) (hr : cX (16, A, B) = true) {ret stk loc inp out rds : List Int} {set held flt stp : Int} {mem : dQ} (hs : stk.length ≤ 16) (hd : 1 ≤ stk.length) {mt : Int} : dL n l m (16, A, B) mt ⟨ret, (i : Int), stk, loc, inp, out, set, rds, held, flt, stp⟩ mem := by
 have h0 : decide ((l.length : Int) > 0) = true := af (by omega)
 have hi2 : (decide (0 ≤ (i : Int)) && decide ((i : Int) < (l.length : Int))) = true := cP hi
 have hx2 : l.getD ((i : Int)).toNat (0, 0, 0) = (16, A, B) := by rw [ai]; exact hx
 have hn := dN (show i < 1000000 by omega)
 have ha := w4 (by omega) hr
 refine (Ev n (v1 := l) (v2 := m) (v3 := ret) (v5 := (i : Int)) (v6 := stk) (v7 := loc) (v8 := inp) (v9 := out) (v10 := set) (v11 := rds) (v12 := held) (v13 := flt) (v14 := stp) (v15 := mem) h0 hi2 hx2).trans ?_
 rw [eJ n _ _ _ _ _ (v6 := stk) _ _ _ _ _ _ _ _ (by omega) (by omega), ab, if_pos (ju (by omega)), if_neg (by simp; omega), hn]
 kernel_rfl
theorem Fb (n : Nat) {l : List cL} {m : List Int} {i : Nat} (hl : l.length ≤ 200) (hi : i < l.length) {A B : Int} (hx : l.getD i (0, 0, 0) = (18, A, B)) (hr : cX (18, A, B) = true) {ret stk loc inp out rds : List Int} {set held flt stp : Int} {mem : dQ} (hs : stk.length ≤ 16) (hd : 1 ≤ stk.length) {mt : Int} : dL n l m (18, A, B) mt ⟨ret, (i : Int), stk, loc, inp, out, set, rds, held, flt, stp⟩ mem := by
 have h0 : decide ((l.length : Int) > 0) = true := af (by omega)
 have hi2 : (decide (0 ≤ (i : Int)) && decide ((i : Int) < (l.length : Int))) = true := cP hi
 have hx2 : l.getD ((i : Int)).toNat (0, 0, 0) = (18, A, B) := by rw [ai]; exact hx
 have hn := dN (show i < 1000000 by omega)
 have ha := w5 (by omega) hr
 refine (Ey n (v1 := l) (v2 := m) (v3 := ret) (v5 := (i : Int)) (v6 := stk) (v7 := loc) (v8 := inp) (v9 := out) (v10 := set) (v11 := rds) (v12 := held) (v13 := flt) (v14 := stp) (v15 := mem) h0 hi2 hx2).trans ?_
 rw [eJ n _ _ _ _ _ (v6 := stk) _ _ _ _ _ _ _ _ (by omega) (by omega), ab, if_pos (ju (by omega)), if_pos (ju (by omega)), hn]
 kernel_rfl
theorem Fc (n : Nat) {l : List cL} {m : List Int} {i : Nat} (hl : l.length ≤ 200) (hi : i < l.length) {A B : Int} (hx : l.getD i (0, 0, 0) = (19, A, B)) (hr : cX (19, A, B) = true) {ret stk loc inp out rds : List Int} {set held flt stp : Int} {mem : dQ} (hs : stk.length ≤ 16) {mt : Int} : dL n l m (19, A, B) mt ⟨ret, (i : Int), stk, loc, inp, out, set, rds, held, flt, stp⟩ mem := by
 have h0 : decide ((l.length : Int) > 0) = true := af (by omega)
 have hi2 : (decide (0 ≤ (i : Int)) && decide ((i : Int) < (l.length : Int))) = true := cP hi
 have hx2 : l.getD ((i : Int)).toNat (0, 0, 0) = (19, A, B) := by rw [ai]; exact hx
 have hn := dN (show i < 1000000 by omega)
 have ha := oK (.inl rfl) hr
 refine (Ez n (v1 := l) (v2 := m) (v3 := ret) (v5 := (i : Int)) (v6 := stk) (v7 := loc) (v8 := inp) (v9 := out) (v10 := set) (v11 := rds) (v12 := held) (v13 := flt) (v14 := stp) (v15 := mem) h0 hi2 hx2).trans ?_
 rw [hn, dT (show -9223372036854775808 ≤ (i : Int) + 1 + A by omega) (by omega)]
 kernel_rfl
theorem Fd (n : Nat) {l : List cL} {m : List Int} {i : Nat} (hl : l.length ≤ 200) (hi : i < l.length) {A B : Int} (hx : l.getD i (0, 0, 0) = (20, A, B)) (hr : cX (20, A, B) = true) {ret stk loc inp out rds : List Int} {set held flt stp : Int} {mem : dQ} (hs : stk.length ≤ 16) (hd : 1 ≤ stk.length) {mt : Int} : dL n l m (20, A, B) mt ⟨ret, (i : Int), stk, loc, inp, out, set, rds, held, flt, stp⟩ mem := by
 have h0 : decide ((l.length : Int) > 0) = true := af (by omega)
 have hi2 : (decide (0 ≤ (i : Int)) && decide ((i : Int) < (l.length : Int))) = true := cP hi
 have hx2 : l.getD ((i : Int)).toNat (0, 0, 0) = (20, A, B) := by rw [ai]; exact hx
 have hn := dN (show i < 1000000 by omega)
 have ha := oK (.inr rfl) hr
 refine (EA n (v1 := l) (v2 := m) (v3 := ret) (v5 := (i : Int)) (v6 := stk) (v7 := loc) (v8 := inp) (v9 := out) (v10 := set) (v11 := rds) (v12 := held) (v13 := flt) (v14 := stp) (v15 := mem) h0 hi2 hx2).trans ?_
 rw [eJ n _ _ _ _ _ (v6 := stk) _ _ _ _ _ _ _ _ (by omega) (by omega), ab]
 simp only []
 rw [hn, dT (show -9223372036854775808 ≤ (i : Int) + 1 + A by omega) (by omega)]
 by_cases h : pv stk = 0
 ·rw [if_pos (by simpa using h)]
  unfold fe
  rw [show ep (20, A, B) mt ⟨ret, (i : Int), stk, loc, inp, out, set, rds, held, flt, stp⟩ = (i : Int) + 1 + A by
   unfold ep
   rw [if_neg (show ¬ (20 : Int) = 19 by decide), if_pos rfl, if_pos h]]
  kernel_rfl
 ·rw [if_neg (by simpa using h)]
  unfold fe
  rw [show ep (20, A, B) mt ⟨ret, (i : Int), stk, loc, inp, out, set, rds, held, flt, stp⟩ = (i : Int) + 1 by
   unfold ep
   rw [if_neg (show ¬ (20 : Int) = 19 by decide), if_pos rfl, if_neg h]]
  kernel_rfl
theorem Fe (n : Nat) {l : List cL} {m : List Int} {i : Nat} (hl : l.length ≤ 200) (hi : i < l.length) {A B : Int} (hx : l.getD i (0, 0, 0) = (21, A, B)) (hr : cX (21, A, B) = true) {ret stk loc inp out rds : List Int} {set held flt stp : Int} {mem : dQ} (hs : stk.length ≤ 16) (hd : rds.length ≤ 200) {mt : Int} : dL n l m (21, A, B) mt ⟨ret, (i : Int), stk, loc, inp, out, set, rds, held, flt, stp⟩ mem := by
 have h0 : decide ((l.length : Int) > 0) = true := af (by omega)
 have hi2 : (decide (0 ≤ (i : Int)) && decide ((i : Int) < (l.length : Int))) = true := cP hi
 have hx2 : l.getD ((i : Int)).toNat (0, 0, 0) = (21, A, B) := by rw [ai]; exact hx
 have hn := dN (show i < 1000000 by omega)
 refine (EB n (v1 := l) (v2 := m) (v3 := ret) (v5 := (i : Int)) (v6 := stk) (v7 := loc) (v8 := inp) (v9 := out) (v10 := set) (v11 := rds) (v12 := held) (v13 := flt) (v14 := stp) (v15 := mem) h0 hi2 hx2).trans ?_
 rw [if_pos (ez (by omega)), hn]
 kernel_rfl
theorem Ff (n : Nat) {l : List cL} {m : List Int} {i : Nat} (hl : l.length ≤ 200) (hi : i < l.length) {A B : Int} (hx : l.getD i (0, 0, 0) = (22, A, B)) (hr : cX (22, A, B) = true) {ret stk loc inp out rds : List Int} {set held flt stp : Int} {mem : dQ} (hs : stk.length ≤ 16) {r0 : List Int} {r : Int} (hrd : rds = r0 ++ [r]) (hr1 : 1 ≤ r ∧ r ≤ 1000) (hd : r0.length ≤ 200) (hm : m.length = l.length) {k : Nat} (hk : m.getD i 0 = (k : Int)) (hk2 : k < i) {mt : Int} (hmt : mt = m.getD i 0) : dL n l m (22, A, B) mt ⟨ret, (i : Int), stk, loc, inp, out, set, rds, held, flt, stp⟩ mem := by
 have h0 : decide ((l.length : Int) > 0) = true := af (by omega)
 have hi2 : (decide (0 ≤ (i : Int)) && decide ((i : Int) < (l.length : Int))) = true := cP hi
 have hx2 : l.getD ((i : Int)).toNat (0, 0, 0) = (22, A, B) := by rw [ai]; exact hx
 have hn := dN (show i < 1000000 by omega)
 have hlen : (r0 ++ [r]).length = r0.length + 1 := by simp
 subst hrd
 have e1 : wrap .i64 (((r0 ++ [r]).length : Int) - 1) = (r0.length : Int) := by
  rw [dT (by omega) (by omega)]; omega
 have e2 : (r0 ++ [r]).getD r0.length 0 = r := by
  have := fz r0 r
  unfold pv at this
  rw [hlen, Nat.add_sub_cancel] at this
  exact this
 have e3 : wrap .i64 (r - 1) = r - 1 := dT (by omega) (by omega)
 have e4 : (r0 ++ [r - 1]).getD r0.length 0 = r - 1 := by
  have := fz r0 (r - 1)
  unfold pv at this
  rw [show (r0 ++ [r - 1]).length = r0.length + 1 by simp, Nat.add_sub_cancel] at this
  exact this
 have e5 : (r0 ++ [r - 1]).length = r0.length + 1 := by simp
 have e6 : (r0 ++ [r - 1]).take r0.length = r0 := by rw [List.take_left]
 have a1 : r - 1 > 0 → ep (22, A, B) mt ⟨ret, (i : Int), stk, loc, inp, out, set, r0 ++ [r], held, flt, stp⟩ = (k : Int) + 1 ∧ jh (22, A, B) ⟨ret, (i : Int), stk, loc, inp, out, set, r0 ++ [r], held, flt, stp⟩ = r0 ++ [r - 1] := fun h => by
  unfold ep jh
  simp only [fz, fZ]
  simp only [if_true, if_pos h, hmt, hk]
  exact ⟨rfl, rfl⟩
 have a2 : ¬ r - 1 > 0 → ep (22, A, B) mt ⟨ret, (i : Int), stk, loc, inp, out, set, r0 ++ [r], held, flt, stp⟩ = (i : Int) + 1 ∧ jh (22, A, B) ⟨ret, (i : Int), stk, loc, inp, out, set, r0 ++ [r], held, flt, stp⟩ = r0 := fun h => by
  unfold ep jh
  simp only [fz, fZ]
  simp only [if_true, if_neg h]
  exact ⟨rfl, rfl⟩
 refine (EC n (v1 := l) (v2 := m) (v3 := ret) (v5 := (i : Int)) (v6 := stk) (v7 := loc) (v8 := inp) (v9 := out) (v10 := set) (v11 := r0 ++ [r]) (v12 := held) (v13 := flt) (v14 := stp) (v15 := mem) h0 hi2 hx2).trans ?_
 rw [e1]
 simp only [ai, e2, e3, Bm, e4, bj, e6, hk]
 rw [if_pos (cP (by omega)), if_pos (cP (by omega)), if_pos (cP (by omega)), hn, dN (show k < 1000000 by omega)]
 by_cases h : r - 1 > 0
 ·rw [if_pos (af h), if_pos (cP (by omega))]
  unfold fe
  rw [(a1 h).1, (a1 h).2]
  kernel_rfl
 ·rw [if_neg (by simpa using h), if_pos (by simp only [e5, ag, aj]; omega)]
  unfold fe
  rw [(a2 h).1, (a2 h).2]
  kernel_rfl
theorem Fg (n : Nat) {l : List cL} {m : List Int} {i : Nat} (hl : l.length ≤ 200) (hi : i < l.length) {A B : Int} (hx : l.getD i (0, 0, 0) = (23, A, B)) (hr : cX (23, A, B) = true) {ret stk loc inp out rds : List Int} {set held flt stp : Int} {mem : dQ} (hs : stk.length ≤ 16) {mt : Int} : dL n l m (23, A, B) mt ⟨ret, (i : Int), stk, loc, inp, out, set, rds, held, flt, stp⟩ mem := by
 have h0 : decide ((l.length : Int) > 0) = true := af (by omega)
 have hi2 : (decide (0 ≤ (i : Int)) && decide ((i : Int) < (l.length : Int))) = true := cP hi
 have hx2 : l.getD ((i : Int)).toNat (0, 0, 0) = (23, A, B) := by rw [ai]; exact hx
 have hn := dN (show i < 1000000 by omega)
 have ha := kM (by omega) hr
 refine (ED n (v1 := l) (v2 := m) (v3 := ret) (v5 := (i : Int)) (v6 := stk) (v7 := loc) (v8 := inp) (v9 := out) (v10 := set) (v11 := rds) (v12 := held) (v13 := flt) (v14 := stp) (v15 := mem) h0 hi2 hx2).trans ?_
 rw [if_neg (by simp; omega), hn]
 kernel_rfl
theorem Fh (n : Nat) {l : List cL} {m : List Int} {i : Nat} (hl : l.length ≤ 200) (hi : i < l.length) {A B : Int} (hx : l.getD i (0, 0, 0) = (24, A, B)) (hr : cX (24, A, B) = true) {ret stk loc inp out rds : List Int} {set held flt stp : Int} {mem : dQ} (hs : stk.length ≤ 16) {mt : Int} : dL n l m (24, A, B) mt ⟨ret, (i : Int), stk, loc, inp, out, set, rds, held, flt, stp⟩ mem := by
 have h0 : decide ((l.length : Int) > 0) = true := af (by omega)
 have hi2 : (decide (0 ≤ (i : Int)) && decide ((i : Int) < (l.length : Int))) = true := cP hi
 have hx2 : l.getD ((i : Int)).toNat (0, 0, 0) = (24, A, B) := by rw [ai]; exact hx
 have hn := dN (show i < 1000000 by omega)
 have ha := kM (by omega) hr
 refine (EE n (v1 := l) (v2 := m) (v3 := ret) (v5 := (i : Int)) (v6 := stk) (v7 := loc) (v8 := inp) (v9 := out) (v10 := set) (v11 := rds) (v12 := held) (v13 := flt) (v14 := stp) (v15 := mem) h0 hi2 hx2).trans ?_
 rw [if_neg (by simp; omega), hn]
 kernel_rfl
theorem Fi (n : Nat) {l : List cL} {m : List Int} {i : Nat} (hl : l.length ≤ 200) (hi : i < l.length) {A B : Int} (hx : l.getD i (0, 0, 0) = (25, A, B)) (hr : cX (25, A, B) = true) {ret stk loc inp out rds : List Int} {set held flt stp : Int} {mem : dQ} (hs : stk.length ≤ 16) {mt : Int} : dL n l m (25, A, B) mt ⟨ret, (i : Int), stk, loc, inp, out, set, rds, held, flt, stp⟩ mem := by
 have h0 : decide ((l.length : Int) > 0) = true := af (by omega)
 have hi2 : (decide (0 ≤ (i : Int)) && decide ((i : Int) < (l.length : Int))) = true := cP hi
 have hx2 : l.getD ((i : Int)).toNat (0, 0, 0) = (25, A, B) := by rw [ai]; exact hx
 have hn := dN (show i < 1000000 by omega)
 refine (EF n (v1 := l) (v2 := m) (v3 := ret) (v5 := (i : Int)) (v6 := stk) (v7 := loc) (v8 := inp) (v9 := out) (v10 := set) (v11 := rds) (v12 := held) (v13 := flt) (v14 := stp) (v15 := mem) h0 hi2 hx2).trans ?_
 rw [hn]
 kernel_rfl
theorem zL {x y : Int} (hx : x = 0 ∨ x = 1) (hy : y = 0 ∨ y = 1) : (bits .and .i64 y x = 0 ∨ bits .and .i64 y x = 1) ∧ (bits .or .i64 y x = 0 ∨ bits .or .i64 y x = 1) := by
 rcases hx with rfl | rfl <;> rcases hy with rfl | rfl
 ·exact ⟨.inl (by kernel_rfl), .inl (by kernel_rfl)⟩
 ·exact ⟨.inl (by kernel_rfl), .inr (by kernel_rfl)⟩
 ·exact ⟨.inl (by kernel_rfl), .inr (by kernel_rfl)⟩
 ·exact ⟨.inr (by kernel_rfl), .inr (by kernel_rfl)⟩
theorem w6 {o A B : Int} {t : ByteArray} {S : MS} {mem : dQ} (hr : cX (o, A, B) = true) (h : (cW (o, A, B) t).2 = 0) (hv : VT t S.stk) :
  VT (cW (o, A, B) t).1 (fT (o, A, B) S mem) ∧ (o = 2 ∨ o = 3 ∨ o = 6 ∨ o = 7 ∨ o = 12 ∨ o = 14 ∨ o = 16 ∨ o = 18 ∨ o = 20 → 1 ≤ S.stk.length) ∧ (o = 4 ∨ o = 5 ∨ o = 8 ∨ o = 9 → 2 ≤ S.stk.length) := by
 have hA := fun (h5 : o = 5) => vP (h5 ▸ hr)
 have in_ : ∀ y, (o = 1 ∨ o = 11 ∨ o = 13 ∨ o = 15 ∨ o = 17) → fT (o, A, B) S mem = S.stk ++ [y] → VT (cW (o, A, B) t).1 (fT (o, A, B) S mem) ∧ (o = 2 ∨ o = 3 ∨ o = 6 ∨ o = 7 ∨ o = 12 ∨ o = 14 ∨ o = 16 ∨ o = 18 ∨ o = 20 → 1 ≤ S.stk.length) ∧ (o = 4 ∨ o = 5 ∨ o = 8 ∨ o = 9 → 2 ≤ S.stk.length) := fun y ho e => by
  rw [e]
  exact ⟨En h hv ho y, fun h => by omega, fun h => by omega⟩
 have out : (o = 2 ∨ o = 12 ∨ o = 14 ∨ o = 16 ∨ o = 18 ∨ o = 20) → VT (cW (o, A, B) t).1 (fT (o, A, B) S mem) ∧ (o = 2 ∨ o = 3 ∨ o = 6 ∨ o = 7 ∨ o = 12 ∨ o = 14 ∨ o = 16 ∨ o = 18 ∨ o = 20 → 1 ≤ S.stk.length) ∧ (o = 4 ∨ o = 5 ∨ o = 8 ∨ o = 9 → 2 ≤ S.stk.length) := fun ho => by
  obtain ⟨r, x, e1, e2⟩ := DL h hv ho
  have e : fT (o, A, B) S mem = pr S.stk := by
   unfold fT
   rw [if_neg (by show ¬ o = 1; omega), if_pos (show o = 2 ∨ o = 12 ∨ o = 14 ∨ o = 16 ∨ o = 18 ∨ o = 20 from ho)]
  rw [e, e1, fZ]
  exact ⟨e2, fun _ => by simp, fun h => by omega⟩
 have no : (o = 19 ∨ o = 21 ∨ o = 22 ∨ o = 23 ∨ o = 24 ∨ o = 25) → fT (o, A, B) S mem = S.stk → VT (cW (o, A, B) t).1 (fT (o, A, B) S mem) ∧ (o = 2 ∨ o = 3 ∨ o = 6 ∨ o = 7 ∨ o = 12 ∨ o = 14 ∨ o = 16 ∨ o = 18 ∨ o = 20 → 1 ≤ S.stk.length) ∧ (o = 4 ∨ o = 5 ∨ o = 8 ∨ o = 9 → 2 ≤ S.stk.length) := fun ho e => by
  rw [e]
  exact ⟨BM h hv ho, fun h => by omega, fun h => by omega⟩
 rcases kI (jf hr) with ho | ho | ho | ho | ho | ho | ho | ho | ho | ho | ho | ho | ho | ho | ho | ho | ho | ho | ho | ho | ho | ho | ho | ho | ho
 ·exact in_ A (by omega) (by subst ho; kernel_rfl)
 ·exact out (by omega)
 ·obtain ⟨r, x, e1, e2⟩ := DM h hv ho
  have e : fT (o, A, B) S mem = S.stk ++ [pv S.stk] := by subst ho; kernel_rfl
  rw [e, e1, fz, aH]
  exact ⟨e2, fun _ => by simp, fun h => by omega⟩
 ·obtain ⟨r, x, y, e1, e2⟩ := Cg h hv ho
  have e : fT (o, A, B) S mem = (pr (pr S.stk) ++ [pv S.stk]) ++ [pv (pr S.stk)] := by subst ho; kernel_rfl
  rw [e, e1, pu, pw, fz, fZ, aH]
  exact ⟨e2, fun h => by omega, fun _ => by simp⟩
 ·obtain ⟨r, x, y, e1, e2⟩ := DP h hv ho
  have e : fT (o, A, B) S mem = pr (pr S.stk) ++ [(nb A (pv (pr S.stk)) (pv S.stk)).1] := by subst ho; kernel_rfl
  rw [e, e1, pu, pw, fz, fZ]
  exact ⟨e2 _ (zK 0 (hA ho) _ _).2, fun h => by omega, fun _ => by simp⟩
 ·obtain ⟨r, x, e1, e2⟩ := DN h hv ho
  have e : fT (o, A, B) S mem = pr S.stk ++ [wrap .i64 (0 - pv S.stk)] := by subst ho; kernel_rfl
  rw [e, e1, fZ]
  exact ⟨e2 _, fun _ => by simp, fun h => by omega⟩
 ·obtain ⟨r, x, e1, e2, e3⟩ := DO h hv ho
  have e : fT (o, A, B) S mem = pr S.stk ++ [if pv S.stk = 0 then 1 else 0] := by subst ho; kernel_rfl
  rw [e, e1, fZ]
  exact ⟨e3 _ (by split; exact .inr rfl; exact .inl rfl), fun _ => by simp, fun h => by omega⟩
 ·obtain ⟨r, x, y, e1, e2, e3, e4⟩ := zH h hv (.inl ho)
  have e : fT (o, A, B) S mem = pr (pr S.stk) ++ [bits .and .i64 (pv S.stk) (pv (pr S.stk))] := by subst ho; kernel_rfl
  rw [e, e1, pu, pw, fz, fZ]
  exact ⟨e4 _ (zL e2 e3).1, fun h => by omega, fun _ => by simp⟩
 ·obtain ⟨r, x, y, e1, e2, e3, e4⟩ := zH h hv (.inr ho)
  have e : fT (o, A, B) S mem = pr (pr S.stk) ++ [bits .or .i64 (pv S.stk) (pv (pr S.stk))] := by subst ho; kernel_rfl
  rw [e, e1, pu, pw, fz, fZ]
  exact ⟨e4 _ (zL e2 e3).2, fun h => by omega, fun _ => by simp⟩
 ·have e : fT (o, A, B) S mem = S.stk := by subst ho; kernel_rfl
  rw [e]
  exact ⟨Cf h hv ho, fun h => by omega, fun h => by omega⟩
 ·exact in_ (S.loc.getD A.toNat 0) (by omega) (by subst ho; kernel_rfl)
 ·exact out (by omega)
 ·exact in_ (S.ret.getD A.toNat 0) (by omega) (by subst ho; kernel_rfl)
 ·exact out (by omega)
 ·exact in_ (S.inp.getD A.toNat 0) (by omega) (by subst ho; kernel_rfl)
 ·exact out (by omega)
 ·exact in_ ((mem.getD A.toNat z8).getD B.toNat 0) (by omega) (by subst ho; kernel_rfl)
 ·exact out (by omega)
 ·exact no (by omega) (by subst ho; kernel_rfl)
 ·exact out (by omega)
 ·exact no (by omega) (by subst ho; kernel_rfl)
 ·exact no (by omega) (by subst ho; kernel_rfl)
 ·exact no (by omega) (by subst ho; kernel_rfl)
 ·exact no (by omega) (by subst ho; kernel_rfl)
 ·exact no (by omega) (by subst ho; kernel_rfl)
theorem Ok.len {l : List cL} {m h : List Int} {st : List ByteArray} (hR : Row l m h st) {s : MS} {i : Nat} {rs : List (Nat × Int)} (hO : Ok l m st s i rs) : s.stk.length ≤ 16 ∧ s.rds.length ≤ 200 ∧ l.length ≤ 200 := by
 have h1 := hO.vt.len
 have h2 := hR.stk.sz i
 have h3 := hR.fine.len
 have h4 : rs.length ≤ i := by
  have e : (rs.map (·.1)).length = rs.length := b6 _
  rw [← e, hO.lps]
  unfold Go.Proofs.Dk.lps
  exact aP (List.length_filter_le _ _) (by rw [List.length_range]; exact ak _)
 have h5 := hO.lt
 rw [hO.rds, b6]
 omega
theorem Ch {l : List cL} {m h : List Int} {st : List ByteArray} (hR : Row l m h st) {s : MS} {i : Nat} {rs : List (Nat × Int)} (hO : Ok l m st s i rs) (n : Nat) (mem : dQ) : dL n l m (l.getD i (0, 0, 0)) (m.getD i 0) s mem := by
 obtain ⟨hstk, hrl, hl⟩ := hO.len hR
 have hi := hO.lt
 have hF := hR.fine
 have hr := hF.right hi
 have hok := hR.stk.ok i hi
 have hlast : opAt l i = 22 → ∃ (k : Nat) (r0 : List Int) (r : Int), m.getD i 0 = (k : Int) ∧ k < i ∧ s.rds = r0 ++ [r] ∧ 1 ≤ r ∧ r ≤ 1000 ∧ r0.length ≤ 200 := fun h22 => by
  obtain ⟨k, a1, a2, a3, a4, a5, a6, a7⟩ := re hF hi h22
  have e := hO.lps
  rw [a5] at e
  obtain ⟨rs0, rs1, e1, e2, e3⟩ := List.map_eq_append_iff.1 e
  obtain ⟨q, e4, e5⟩ := List.map_eq_singleton_iff.1 e3
  have hb := hO.rnd q (by rw [e1, e4]; simp)
  have hA := xY (hF.right (show k < l.length by omega)) a3
  rw [e5] at hb
  refine ⟨k, rs0.map (·.2), q.2, a1, a2, by rw [hO.rds, e1, e4]; simp, hb.1, by omega, ?_⟩
  have := hrl
  rw [hO.rds, e1, e4] at this
  simp at this ⊢
  omega
 have hv := w6 (o := (l.getD i (0, 0, 0)).1) (A := (l.getD i (0, 0, 0)).2.1) (B := (l.getD i (0, 0, 0)).2.2) (S := s) (mem := mem) hr hok hO.vt
 have d1 := hv.2.1
 have d2 := hv.2.2
 have hp := hO.place
 clear hv hok hO
 unfold opAt at hlast
 generalize hx : l.getD i (0, 0, 0) = x at hr d1 d2 hlast
 obtain ⟨o, A, B⟩ := x
 obtain ⟨ret, at_, stk, loc, inp, out, set, rds, held, flt, stp⟩ := s
 simp only at hstk hrl d1 d2 hp hlast
 subst hp
 rcases kI (jf hr) with rfl | rfl | rfl | rfl | rfl | rfl | rfl | rfl | rfl | rfl | rfl | rfl | rfl | rfl | rfl | rfl | rfl | rfl | rfl | rfl | rfl | rfl | rfl | rfl | rfl
 ·exact F7 n hl hi hx hr hstk
 ·exact F8 n hl hi hx hr hstk (d1 (by decide))
 ·exact F9 n hl hi hx hr hstk (d1 (by decide))
 ·exact Ga n hl hi hx hr hstk (d2 (by decide))
 ·exact Gb n hl hi hx hr hstk (d2 (by decide))
 ·exact Gc n hl hi hx hr hstk (d1 (by decide))
 ·exact Gd n hl hi hx hr hstk (d1 (by decide))
 ·exact Ge n hl hi hx hr hstk (d2 (by decide))
 ·exact Gf n hl hi hx hr hstk (d2 (by decide))
 ·exact E3 n hl hi hx hr hstk
 ·exact E4 n hl hi hx hr hstk
 ·exact E8 n hl hi hx hr hstk (d1 (by decide))
 ·exact E5 n hl hi hx hr hstk
 ·exact E9 n hl hi hx hr hstk (d1 (by decide))
 ·exact E6 n hl hi hx hr hstk
 ·exact Fa n hl hi hx hr hstk (d1 (by decide))
 ·exact E7 n hl hi hx hr hstk
 ·exact Fb n hl hi hx hr hstk (d1 (by decide))
 ·exact Fc n hl hi hx hr hstk
 ·exact Fd n hl hi hx hr hstk (d1 (by decide))
 ·exact Fe n hl hi hx hr hstk hrl
 ·obtain ⟨k, r0, r, e1, e2, e3, e4, e5, e6⟩ := hlast rfl
  exact Ff n hl hi hx hr hstk e3 ⟨e4, e5⟩ e6 hF.nest.hm e1 e2 rfl
 ·exact Fg n hl hi hx hr hstk
 ·exact Fh n hl hi hx hr hstk
 ·exact Fi n hl hi hx hr hstk
theorem w7 {A : Int} {a : Nat} (h : A = (a : Int)) (ha : a ≤ 7) : s9 A = ((2 ^ a : Nat) : Int) := by
 subst h
 exact tN ha
theorem zM (v a : Nat) (hv : v < 256) (ha : a ≤ 7) : ∃ w : Nat, bits .andNot .i64 (v : Int) ((2 ^ a : Nat) : Int) = (w : Int) ∧ w < 256 ∧ ∀ b, w.testBit b = (v.testBit b && decide (b ≠ a)) := by
 have h2 : 2 ^ a < 2 ^ 8 := Nat.pow_lt_pow_right (by omega) (by omega)
 have key : bits .andNot .i64 (v : Int) ((2 ^ a : Nat) : Int) = IntKind.i64.wrap (((BitVec.ofInt 64 (v : Int)) &&& ~~~ (BitVec.ofInt 64 ((2 ^ a : Nat) : Int))).toNat : Int) := rfl
 have hw : ∀ b, ((BitVec.ofInt 64 (v : Int)) &&& ~~~ (BitVec.ofInt 64 ((2 ^ a : Nat) : Int))).toNat.testBit b = (v.testBit b && decide (b ≠ a)) := fun b => by
  rw [BitVec.toNat_and, Nat.testBit_and, ofInt_u64 v (by omega)]
  by_cases hb : b < 64
  ·rw [BitVec.testBit_toNat, BitVec.getLsbD_not, ← BitVec.testBit_toNat, ofInt_u64 _ (by omega), Nat.testBit_two_pow, af hb, aR]
   congr 1
   by_cases hab : a = b
   ·rw [af hab, aM (by omega)]; rfl
   ·rw [aM hab, af (by omega)]; rfl
  ·have : v.testBit b = false := Nat.testBit_lt_two_pow (bc hv (by
    have := Nat.pow_le_pow_right (n := 2) (by decide) (show 8 ≤ b by omega)
    omega))
   rw [this, ba, ba]
 generalize hW : ((BitVec.ofInt 64 (v : Int)) &&& ~~~ (BitVec.ofInt 64 ((2 ^ a : Nat) : Int))).toNat = W at key hw
 have hlt : W < 256 := by
  have hle : W ≤ v := by
   rw [← hW, BitVec.toNat_and, ofInt_u64 v (by omega)]
   exact Nat.and_le_left
  omega
 refine ⟨W, ?_, hlt, hw⟩
 rw [key, dT (by omega) (by omega)]
structure NextI (l : List cL) (m : List Int) (st : List ByteArray) (i : Nat) (rs : List (Nat × Int)) (s' : MS) : Prop where
 ex : ∃ q rs', Ok l m st s' q rs' ∧ p6 l m q rs' + 1 ≤ p6 l m i rs
theorem ji {l : List cL} {i : Nat} (h19 : opAt l i ≠ 19) (h25 : opAt l i ≠ 25) : i + 1 ∈ dK l i := by
 unfold dK
 rw [if_neg h19]
 split
 ·exact aI ..
 ·exact aw.2 rfl
theorem Bn {l : List cL} {m h : List Int} {st : List ByteArray} (hR : Row l m h st) {s s' : MS} {i : Nat} {rs : List (Nat × Int)} (hO : Ok l m st s i rs) (h21 : opAt l i ≠ 21) (h22 : opAt l i ≠ 22) (h23 : opAt l i ≠ 23) (h24 : opAt l i ≠ 24) {q : Nat} (hq : q ∈ dK l i)
  (e1 : s'.at_ = (q : Int)) (e2 : VT (cW (l.getD i (0, 0, 0)) (nB st i)).1 s'.stk) (e3 : s'.rds = s.rds) (e4 : s'.held = s.held) : NextI l m st i rs s' := by
 have hF := hR.fine
 have hi := hO.lt
 have hql := hF.next hi q hq
 have hlps : lps l m q = lps l m i ∧ ∀ v, HeldB l m i v → HeldB l m q v := by
  unfold dK at hq
  split at hq
  ·rename_i h19
   rw [aw] at hq
   subst hq
   exact ⟨vV hF hi (.inl h19), fun v hv => hv.jump hF hi (.inl h19)⟩
  ·split at hq
   ·rename_i h20
    rw [aA, aw] at hq
    rcases hq with rfl | rfl
    ·exact ⟨oN hF hi h21 h22 h24, fun v hv => hv.plain hF hi h23 h22 h24⟩
    ·exact ⟨vV hF hi (.inr h20), fun v hv => hv.jump hF hi (.inr h20)⟩
   ·split at hq
    ·cases hq
    ·rw [aw] at hq
     subst hq
     exact ⟨oN hF hi h21 h22 h24, fun v hv => hv.plain hF hi h23 h22 h24⟩
 refine ⟨q, rs, ⟨e1, hql, ?_, by rw [hlps.1]; exact hO.lps, by rw [e3]; exact hO.rds, hO.rnd, ?_⟩, vX hF hi (vU hq) hO.lps⟩
 ·rw [hR.stk.nx i hi q hq]
  exact e2
 ·obtain ⟨v, v1, v2⟩ := hO.held
  exact ⟨v, e4.trans v1, hlps.2 v v2⟩
theorem zN {l : List cL} {m h : List Int} {st : List ByteArray} (hR : Row l m h st) {s : MS} {i : Nat} {rs : List (Nat × Int)} (hO : Ok l m st s i rs) (mem : dQ) (h25 : opAt l i ≠ 25) : NextI l m st i rs (fe (l.getD i (0, 0, 0)) (m.getD i 0) s mem) := by
 have hi := hO.lt
 have hF := hR.fine
 have hr := hF.right hi
 have hok := hR.stk.ok i hi
 have hp := hO.place
 have hv := (w6 (o := (l.getD i (0, 0, 0)).1) (A := (l.getD i (0, 0, 0)).2.1) (B := (l.getD i (0, 0, 0)).2.2) (S := s) (mem := mem) hr hok hO.vt).1
 have hx : l.getD i (0, 0, 0) = (opAt l i, db l i, (l.getD i (0, 0, 0)).2.2) := rfl
 have hstk : VT (cW (l.getD i (0, 0, 0)) (nB st i)).1 (fe (l.getD i (0, 0, 0)) (m.getD i 0) s mem).stk := hv
 have hrds : opAt l i ≠ 21 → opAt l i ≠ 22 → (fe (l.getD i (0, 0, 0)) (m.getD i 0) s mem).rds = s.rds := fun h1 h2 => by
  show jh _ _ = _
  unfold jh
  rw [if_neg h1, if_neg h2]
 have hheld : opAt l i ≠ 23 → opAt l i ≠ 24 → (fe (l.getD i (0, 0, 0)) (m.getD i 0) s mem).held = s.held := fun h1 h2 => by
  show (if _ then _ else if _ then _ else _) = _
  rw [if_neg h1, if_neg h2]
 have hon : opAt l i ≠ 19 → opAt l i ≠ 20 → opAt l i ≠ 22 → (fe (l.getD i (0, 0, 0)) (m.getD i 0) s mem).at_ = ((i + 1 : Nat) : Int) := fun h1 h2 h3 => by
  show ep _ _ _ = _
  unfold ep
  rw [if_neg h1, if_neg h2, if_neg h3, hp]
  rfl
 by_cases h22 : opAt l i = 22
 ·obtain ⟨k, a1, a2, a3, a4, a5, a6, a7⟩ := re hF hi h22
  obtain ⟨k', b1, b2, b3⟩ : ∃ k' : Nat, m.getD i 0 = (k' : Int) ∧ (∀ v, HeldB l m i v → HeldB l m (k' + 1) v) ∧ (∀ v, HeldB l m i v → HeldB l m (i + 1) v) := by
   refine ⟨k, a1, fun v hv => ?_, fun v hv => ?_⟩
   ·obtain ⟨k2, c1, c2, c3⟩ := hv.next hF hi h22
    have : k = k2 := by rw [a1] at c1; omega
    rw [this]; exact c2
   ·obtain ⟨k2, c1, c2, c3⟩ := hv.next hF hi h22
    exact c3
  have hkk : k = k' := by rw [a1] at b1; omega
  subst hkk
  obtain ⟨v, v1, v2⟩ := hO.held
  have e := hO.lps
  rw [a5] at e
  obtain ⟨rs0, rs1, e1, e2, e3⟩ := List.map_eq_append_iff.1 e
  obtain ⟨q, e4, e5⟩ := List.map_eq_singleton_iff.1 e3
  obtain ⟨qk, qr⟩ := q
  simp only at e5
  subst e5
  subst e4
  subst e1
  have hsr : s.rds = rs0.map (·.2) ++ [qr] := by rw [hO.rds]; simp
  have hb := hO.rnd (qk, qr) (by simp)
  have hph := Bl hF hi a2 a3 a4 a5 e2 (r := qr)
  have hst22 := hR.stk.nt i hi h22
  rw [a1, ai] at hst22
  -- the types ahead of the loop's first instruction are those of its Next
  have hgo : nB st (qk + 1) = (cW (l.getD qk (0, 0, 0)) (nB st i)).1 := by
   rw [hR.stk.nx qk (by omega) (qk + 1) (ji (by rw [a3]; decide) (by rw [a3]; decide)), hst22]
  have hx22 : l.getD i (0, 0, 0) = (22, db l i, (l.getD i (0, 0, 0)).2.2) := by rw [← h22]
  have hst : (fe (l.getD i (0, 0, 0)) (m.getD i 0) s mem).stk = s.stk := by
   have e : ∀ A B, fT (22, A, B) s mem = s.stk := fun A B => by kernel_rfl
   show fT (l.getD i (0, 0, 0)) s mem = _
   rw [hx22, e]
  by_cases hq : qr - 1 > 0
  ·refine ⟨qk + 1, rs0 ++ [(qk, qr - 1)], ⟨?_, by omega, ?_, ?_, ?_, ?_, v, (hheld (by omega) (by omega)).trans v1, b2 v v2⟩, hph.1⟩
   ·show ep _ _ _ = _
    unfold ep
    rw [if_neg (show ¬ opAt l i = 19 by omega), if_neg (show ¬ opAt l i = 20 by omega), if_pos h22, hsr, fz, if_pos hq, a1]
    rfl
   ·rw [hst, hgo]
    have hr2 := hF.right (show qk < l.length by omega)
    have hok2 := hR.stk.ok qk (by omega)
    rw [hst22] at hok2
    exact BM (o := (l.getD qk (0, 0, 0)).1) (A := (l.getD qk (0, 0, 0)).2.1) (B := (l.getD qk (0, 0, 0)).2.2) hok2 hO.vt (.inr (.inl a3))
   ·rw [a6]; simp [e2]
   ·show jh _ _ = _
    unfold jh
    rw [if_neg (show ¬ opAt l i = 21 by omega), if_pos h22, hsr, fz, fZ, if_pos hq]
    simp
   ·intro e he
    rw [au, aw] at he
    rcases he with he | he
    ·exact hO.rnd e (aZ _ he)
    ·subst he
     exact ⟨by show 1 ≤ qr - 1; omega, by have := hb.2; show qr - 1 ≤ db l qk; simp only at this; omega⟩
  ·have hq1 : qr = 1 := by have := hb.1; simp only at this; omega
   have hnx := ji (l := l) (i := i) (by omega) h25
   refine ⟨i + 1, rs0, ⟨?_, hF.next hi _ hnx, ?_, ?_, ?_, fun e he => hO.rnd e (aZ _ he), v, (hheld (by omega) (by omega)).trans v1, b3 v v2⟩, hph.2 hq1⟩
   ·show ep _ _ _ = _
    unfold ep
    rw [if_neg (show ¬ opAt l i = 19 by omega), if_neg (show ¬ opAt l i = 20 by omega), if_pos h22, hsr, fz, if_neg hq, hp]
    rfl
   ·rw [hR.stk.nx i hi _ hnx]
    exact hstk
   ·rw [a7]; exact e2
   ·show jh _ _ = _
    unfold jh
    rw [if_neg (show ¬ opAt l i = 21 by omega), if_pos h22, hsr, fz, fZ, if_neg hq]
 by_cases h21 : opAt l i = 21
 ·have hnx := ji (l := l) (i := i) (by omega) h25
  obtain ⟨v, v1, v2⟩ := hO.held
  refine ⟨i + 1, rs ++ [(i, db l i)], ⟨hon (by omega) (by omega) h22, hF.next hi _ hnx, ?_, ?_, ?_, ?_, v, (hheld (by omega) (by omega)).trans v1, v2.plain hF hi (by omega) h22 (by omega)⟩, Bk hF hi hO.lps⟩
  ·rw [hR.stk.nx i hi _ hnx]; exact hstk
  ·rw [rc hF hi h21]; simp [hO.lps]
  ·show jh _ _ = _
   unfold jh
   rw [if_pos h21, hO.rds, List.map_append]
   rfl
  ·intro e he
   rw [au, aw] at he
   rcases he with he | he
   ·exact hO.rnd e he
   ·subst he
    exact ⟨(xY hr h21).1, Int.le_refl _⟩
 by_cases h23 : opAt l i = 23
 ·have hnx := ji (l := l) (i := i) (by omega) h25
  obtain ⟨v, v1, v2⟩ := hO.held
  obtain ⟨a, ha, ha7⟩ := ra hr (.inl h23)
  refine ⟨i + 1, rs, ⟨hon (by omega) (by omega) h22, hF.next hi _ hnx, ?_, ?_, ?_, hO.rnd, v ||| 2 ^ a, ?_, v2.lockS hF hi h23 ha ha7⟩, vX hF hi (by omega) hO.lps⟩
  ·rw [hR.stk.nx i hi _ hnx]; exact hstk
  ·rw [oN hF hi h21 h22 (by omega)]; exact hO.lps
  ·rw [hrds h21 h22]; exact hO.rds
  ·show (if _ then _ else if _ then _ else _) = _
   rw [if_pos h23, v1]
   show bits .or .i64 (v : Int) (s9 (db l i)) = _
   rw [w7 ha ha7]
   exact zy v (2 ^ a) v2.1 (by have := Nat.pow_lt_pow_right (a := 2) (by omega) (show a < 8 by omega); omega)
 by_cases h24 : opAt l i = 24
 ·have hnx := ji (l := l) (i := i) (by omega) h25
  obtain ⟨v, v1, v2⟩ := hO.held
  have h0 := kM (o := (l.getD i (0, 0, 0)).1) (A := (l.getD i (0, 0, 0)).2.1) (B := (l.getD i (0, 0, 0)).2.2) (by rw [show (l.getD i (0, 0, 0)).1 = 24 from h24]; omega) hr
  obtain ⟨a, ha, ha7⟩ : ∃ a : Nat, db l i = (a : Int) ∧ a ≤ 7 := ⟨(db l i).toNat, by unfold db; omega, by unfold db; omega⟩
  obtain ⟨w, w1, w2, w3⟩ := zM v a v2.1 ha7
  refine ⟨i + 1, rs, ⟨hon (by omega) (by omega) h22, hF.next hi _ hnx, ?_, ?_, ?_, hO.rnd, w, ?_, v2.unlock hF hR.rise hi h24 ha w2 w3⟩, vX hF hi (by omega) hO.lps⟩
  ·rw [hR.stk.nx i hi _ hnx]; exact hstk
  ·rw [xW hF hi h24]; exact hO.lps
  ·rw [hrds h21 h22]; exact hO.rds
  ·show (if _ then _ else if _ then _ else _) = _
   rw [if_neg h23, if_pos h24, v1]
   show bits .andNot .i64 (v : Int) (s9 (db l i)) = _
   rw [w7 ha ha7]
   exact w1
 have key := fun {q : Nat} (hq : q ∈ dK l i) (e1 : (fe (l.getD i (0, 0, 0)) (m.getD i 0) s mem).at_ = (q : Int)) => Bn hR hO h21 h22 h23 h24 hq e1 hstk (hrds h21 h22) (hheld h23 h24)
 by_cases h19 : opAt l i = 19
 ·have hj := oK (o := (l.getD i (0, 0, 0)).1) (A := (l.getD i (0, 0, 0)).2.1) (B := (l.getD i (0, 0, 0)).2.2) (.inl h19) hr
  refine key (q := dm l i) (by unfold dK; rw [if_pos h19]; exact aw.2 rfl) ?_
  show ep _ _ _ = _
  unfold ep dm
  rw [if_pos h19, hp]
  omega
 by_cases h20 : opAt l i = 20
 ·have hj := oK (o := (l.getD i (0, 0, 0)).1) (A := (l.getD i (0, 0, 0)).2.1) (B := (l.getD i (0, 0, 0)).2.2) (.inr h20) hr
  by_cases hz : pv s.stk = 0
  ·refine key (q := dm l i) (by unfold dK; rw [if_neg h19, if_pos h20]; simp) ?_
   show ep _ _ _ = _
   unfold ep dm
   rw [if_neg h19, if_pos h20, if_pos hz, hp]
   omega
  ·refine key (q := i + 1) (by unfold dK; rw [if_neg h19, if_pos h20]; simp) ?_
   show ep _ _ _ = _
   unfold ep
   rw [if_neg h19, if_pos h20, if_neg hz, hp]
   rfl
 ·exact key (q := i + 1) (ji h19 h25) (hon h19 h20 h22)
theorem px {X R : Type} {S : (X → Option R) → X → Option R} (Q : Nat → X → Prop) (P : R → Prop) (h0 : ∀ x, ¬ Q 0 x) (h : ∀ f x F, (∀ y, Q f y → ∃ r, F y = some r ∧ P r) → Q (f + 1) x → ∃ r, S F x = some r ∧ P r) : ∀ f x, Q f x → ∃ r, it S f x = some r ∧ P r
 | 0, x, hq => absurd hq (h0 x)
 | f + 1, x, hq => h f x (it S f) (px Q P h0 h f) hq
abbrev z16 : List Int := [0, 0, 0, 0, 0, 0, 0, 0, 0, 0, 0, 0, 0, 0, 0, 0]
abbrev vZ (ret inp : List Int) : MS := ⟨ret, 0, [], z8, inp, z16, 0, [], 0, 0, 0⟩
theorem Bo {l : List cL} {m h : List Int} {st : List ByteArray} (hR : Row l m h st) (ret inp : List Int) : Ok l m st (vZ ret inp) 0 [] := by
 have hl := hR.fine.len
 refine ⟨rfl, by omega, ?_, rfl, rfl, (fun e he => by cases he), 0, rfl, by omega, fun b => ?_⟩
 ·rw [hR.stk.z]
  exact trivial
 ·rw [Nat.zero_testBit]
  exact ⟨(fun h => by cases h), fun ⟨k, k1, _⟩ => by have := (d5 k1).1; omega⟩
theorem Bp (n : Nat) {l : List cL} (hl : 0 < l.length) (m ret inp : List Int) (at_ : Int) (stk loc inp2 out : List Int) (set : Int) (rds : List Int) (held flt stp : Int) :
  fx n inp l m ret false at_ stk loc inp2 out set rds held flt stp = some (0, l, m, ret, true, 0, [], z8, inp, z16, 0, [], 0, 0, 0) := by
 unfold fx
 rw [af (show (l.length : Int) > 0 by omega), if_neg (by decide), if_neg (by decide)]
theorem zO {l : List cL} (h : l.length ≤ 200) : (decide (0 = 0) && decide (0 = 0) && decide (l.length * 24 ≤ 140737488355328) && decide (1 ≤ 24)) = true := by simp; omega
theorem BO (a : List Int) (k : Nat) : Sh.eqT (.arr k (.int .i64)) a a = true := by
 show (List.range k).all (fun i => (a.getD i (0 : Int) == a.getD i 0)) = true
 rw [aK]
 intro i _
 exact bx _
theorem DT (a : List (List Int)) (k j : Nat) : Sh.eqT (.arr k (.arr j (.int .i64))) a a = true := by
 show (List.range k).all (fun i => Sh.eqT (.arr j (.int .i64)) (a.getD i _) (a.getD i _)) = true
 rw [aK]
 intro i _
 exact BO _ _
def DU (set : Int) (k : Nat) : Bool := bits .and .i64 (set.fdiv (2 ^ (min ((k : Int)).toNat 64))) 1 == 1
def nc (out : List Int) (set : Int) : Nat → Nat → List (Int × Int)
 | 0, _ => []
 | r + 1, k => (if DU set k = true then [((k : Int), out.getD k 0)] else []) ++ nc out set r (k + 1)
def ne (out : List Int) (set : Int) : List (Int × Int) := nc out set 16 0
theorem Ci (n : Nat) (hn : 16 < n) (l : List cL) (m ret : List Int) (on : Bool) (at_ : Int) (stk loc inp out : List Int) (set : Int) (rds : List Int) (held flt stp : Int) :
  sf n l m ret on at_ stk loc inp out set rds held flt stp = some (ne out set, l, m, ret, on, at_, stk, loc, inp, out, set, rds, held, flt, stp) := by
 unfold sf
 have key : ∃ r, oH n ([], out, 0, l, m, ret, on, at_, stk, loc, inp, out, set, rds, held, flt, stp) = some r ∧ r = (ne out set, l, m, ret, on, at_, stk, loc, inp, out, set, rds, held, flt, stp) := by
  show ∃ r, it _ n _ = some r ∧ _
  refine px (fun f x => ∃ (k : Nat) (o : List (Int × Int)), k ≤ 16 ∧ 16 < f + k ∧ o.length ≤ k ∧ o ++ nc out set (16 - k) k = ne out set ∧ x = (o, out, (k : Int), l, m, ret, on, at_, stk, loc, inp, out, set, rds, held, flt, stp)) _ (fun x ⟨k, o, h1, h2, _⟩ => by omega) ?_ n _ ⟨0, [], by omega, by omega, az _, by unfold ne; rw [bv, bj], rfl⟩
  rintro f x F hF ⟨k, o, h1, h2, h3, h4, rfl⟩
  show ∃ r, po n F o out (k : Int) l m ret on at_ stk loc inp out set rds held flt stp = some r ∧ _
  unfold po
  rcases aq k 16 with hk | hk
  ·rw [if_pos (af (by omega)), if_pos (by simp; omega), if_neg (by simp), d8 (by omega)]
   rw [show 16 - k = (16 - (k + 1)) + 1 by omega] at h4
   unfold nc DU at h4
   rw [ai] at h4
   rw [ai]
   by_cases hb : (bits .and .i64 (set.fdiv (2 ^ (min k 64))) 1 == 1) = true
   ·rw [if_pos hb, if_pos (by simp; omega)]
    rw [if_pos hb] at h4
    exact hF _ ⟨k + 1, _, by omega, by omega, by simp; omega, by rw [aH]; exact h4, rfl⟩
   ·rw [if_neg hb]
    rw [if_neg hb, bv] at h4
    exact hF _ ⟨k + 1, o, by omega, by omega, by omega, h4, rfl⟩
  ·have : k = 16 := by omega
   subst this
   rw [if_neg (by decide)]
   rw [bT] at h4
   unfold nc at h4
   rw [aE] at h4
   subst h4
   exact ⟨_, rfl, rfl⟩
 obtain ⟨r, e1, e2⟩ := key
 subst e2
 rw [e1]
 rfl
structure CS where
 on : Bool
 s : MS
 mem : dQ
def sA (l : List cL) (m : List Int) (c : CS) : CS :=
 if c.on = true then ⟨decide ((l.getD c.s.at_.toNat (0, 0, 0)).1 ≠ 25), fe (l.getD c.s.at_.toNat (0, 0, 0)) (m.getD c.s.at_.toNat 0) c.s c.mem, ta (l.getD c.s.at_.toNat (0, 0, 0)) c.s c.mem⟩ else c
theorem tY (out : List Int) (set : Int) : ∀ r k, (nc out set r k).length ≤ r
 | 0, k => ak _
 | r + 1, k => by
  have := tY out set r (k + 1)
  unfold nc
  rw [aS]
  split <;> simp <;> omega
theorem zP (out : List Int) (set : Int) : (ne out set).length ≤ 16 := tY out set 16 0
theorem wa (n : Nat) {x : List (Int × Int)} (h : x.length ≤ 16) (hn : 16 < n) : si n x = some x := by
 unfold si
 have key : ∃ r, qQ n (x, [], 0) = some r ∧ r = x := by
  show ∃ r, it _ n _ = some r ∧ _
  refine px (fun f y => ∃ k : Nat, k ≤ x.length ∧ x.length < f + k ∧ y = (x, x.take k, (k : Int))) _ (fun y ⟨k, h1, h2, _⟩ => by omega) ?_ n _ ⟨0, by omega, by omega, rfl⟩
  rintro f y F hF ⟨k, h1, h2, rfl⟩
  show ∃ r, sg n F x (x.take k) (k : Int) = some r ∧ _
  unfold sg
  rcases aq k x.length with hk | hk
  ·have e : x.take k ++ [((x.getD k (0, 0)).1, (x.getD k (0, 0)).2)] = x.take (k + 1) := by
    rw [List.take_add_one, aC hk, ax, aC hk]
    rfl
   rw [if_pos (af (by omega)), if_pos (cP hk), if_pos (cP hk), if_pos (by simp; omega), d8 (by omega), ai, e]
   exact hF _ ⟨k + 1, by omega, by omega, rfl⟩
  ·rw [if_neg (by simp; omega)]
   exact ⟨_, rfl, aO hk⟩
 obtain ⟨r, e1, e2⟩ := key
 subst e2
 first
  | exact e1
  | (rw [e1]; rfl)
theorem Bq (n : Nat) {x : List (Int × Int)} (h : x.length ≤ 16) (hn : 16 < n) : ur n x x = some true := by
 unfold ur
 have key : ∃ r, qS n (x, x, 0) = some r ∧ r = .inr ((), ()) := by
  show ∃ r, it _ n _ = some r ∧ _
  refine px (fun f y => ∃ k : Nat, k ≤ x.length ∧ x.length < f + k ∧ y = (x, x, (k : Int))) _ (fun y ⟨k, h1, h2, _⟩ => by omega) ?_ n _ ⟨0, by omega, by omega, rfl⟩
  rintro f y F hF ⟨k, h1, h2, rfl⟩
  show ∃ r, sj n F x x (k : Int) = some r ∧ _
  unfold sj
  rcases aq k x.length with hk | hk
  ·rw [if_pos (af (by omega)), if_pos (cP hk), if_pos (cP hk), bx, bx, if_neg (by decide), d8 (by omega)]
   exact hF _ ⟨k + 1, by omega, by omega, rfl⟩
  ·rw [if_neg (by simp; omega)]
   exact ⟨_, rfl, rfl⟩
 obtain ⟨r, e1, e2⟩ := key
 subst e2
 rw [e1]
 simp
structure TM where
 sw : Int
 la : Int
 co : Int
structure TOk (t : TM) : Prop where
 s0 : 0 ≤ t.sw
 s1 : t.sw ≤ 100
 l0 : 1 ≤ t.la
 l1 : t.la ≤ 100
 c0 : 1 ≤ t.co
 c1 : t.co ≤ 100
structure IS where
 ph : Int
 left : Int
 used : Int
 inn : List Int
 c : CS
def dM (t : TM) (ph left : Int) : Int × Int :=
 if left ≠ 0 then (ph, left)
 else if ph = 0 then (1, t.la) else if ph = 1 then (2, 1) else if ph = 2 then (3, t.co) else if ph = 3 then (if t.sw = 0 then (5, 1) else (4, t.sw)) else if ph = 4 then (5, 1) else (ph, left)
abbrev oU (t : TM) : List Int := [t.sw, t.la, 1, t.co, t.sw, 1]
abbrev oV (j1 j2 j3 : Int) (t : TM) (ph left used : Int) (inn : List Int) (l : List cL) (m : List Int) (on : Bool) (s : MS) := (j1, j2, j3, t.sw, t.la, t.co, ph, left, used, inn, oU t, l, m, s.ret, on, s.at_, s.stk, s.loc, s.inp, s.out, s.set, s.rds, s.held, s.flt, s.stp)
theorem oW (n : Nat) (hn : 8 ≤ n) (j1 j2 j3 : Int) {t : TM} (ht : TOk t) {ph left : Int} (h0 : 0 ≤ ph ∧ ph ≤ 5) (used : Int) (inn : List Int) (l : List cL) (m : List Int) (on : Bool) (s : MS) :
  eB n (oV j1 j2 j3 t ph left used inn l m on s) = some (oV j1 j2 j3 t (dM t ph left).1 (dM t ph left).2 used inn l m on s) := by
 have key : ∃ r, eB n (oV j1 j2 j3 t ph left used inn l m on s) = some r ∧ r = oV j1 j2 j3 t (dM t ph left).1 (dM t ph left).2 used inn l m on s := by
  show ∃ r, it _ n _ = some r ∧ _
  refine px (fun f x => ∃ p q : Int, 0 ≤ p ∧ p ≤ 5 ∧ 5 - p < f ∧ dM t p q = dM t ph left ∧ x = oV j1 j2 j3 t p q used inn l m on s) _ (fun x ⟨p, q, h1, h2, h3, _⟩ => by omega) ?_ n _ ⟨ph, left, h0.1, h0.2, by omega, rfl, rfl⟩
  rintro f x F hF ⟨p, q, h1, h2, h3, h4, rfl⟩
  show ∃ r, se n F j1 j2 j3 t.sw t.la t.co p q used inn (oU t) l m s.ret on s.at_ s.stk s.loc s.inp s.out s.set s.rds s.held s.flt s.stp = some r ∧ _
  unfold se
  by_cases hq : q = 0
  ·subst hq
   rw [if_pos (by decide)]
   by_cases hp : p < 5
   ·have hl0 := ht.l0
    have hc0 := ht.c0
    rw [if_pos (af hp), dT (by omega) (by omega), if_pos (by simp; omega)]
    have hc : p = 0 ∨ p = 1 ∨ p = 2 ∨ p = 3 ∨ p = 4 := by omega
    rcases hc with rfl | rfl | rfl | rfl | rfl
    ·exact hF _ ⟨1, t.la, by omega, by omega, by omega, by rw [← h4]; unfold dM; rw [if_pos (by omega)]; rfl, rfl⟩
    ·exact hF _ ⟨2, 1, by omega, by omega, by omega, by rw [← h4]; rfl, rfl⟩
    ·exact hF _ ⟨3, t.co, by omega, by omega, by omega, by rw [← h4]; unfold dM; rw [if_pos (by omega)]; rfl, rfl⟩
    ·exact hF _ ⟨4, t.sw, by omega, by omega, by omega, by
      rw [← h4]
      by_cases hs : t.sw = 0
      ·rw [hs]; unfold dM; rw [if_neg (by decide), if_neg (by decide), if_neg (by decide), if_neg (by decide), if_neg (by decide), if_pos rfl, if_neg (by decide), if_neg (by decide), if_neg (by decide), if_neg (by decide), if_pos rfl, if_pos hs]
      ·unfold dM; rw [if_pos hs, if_neg (by decide), if_neg (by decide), if_neg (by decide), if_neg (by decide), if_pos rfl, if_neg hs], rfl⟩
    ·exact hF _ ⟨5, 1, by omega, by omega, by omega, by rw [← h4]; rfl, rfl⟩
   ·have : p = 5 := by omega
    subst this
    rw [if_neg (by decide)]
    refine ⟨_, rfl, ?_⟩
    rw [← h4]
    rfl
  ·rw [if_neg (by simpa using hq)]
   refine ⟨_, rfl, ?_⟩
   rw [← h4]
   unfold dM
   rw [if_pos hq]
 obtain ⟨r, e1, e2⟩ := key
 rw [e1, e2]
abbrev Fj (j1 j2 j3 : Int) (t : TM) (l : List cL) (m : List Int) (x : IS) := (j1, j2, j3, t.sw, t.la, t.co, x.ph, x.left, x.used, x.inn, x.c.mem, l, m, x.c.s.ret, x.c.on, x.c.s.at_, x.c.s.stk, x.c.s.loc, x.c.s.inp, x.c.s.out, x.c.s.set, x.c.s.rds, x.c.s.held, x.c.s.flt, x.c.s.stp)
abbrev xZ (n : Nat) (inp : List Int) (j1 j2 j3 : Int) (t : TM) (l : List cL) (m : List Int) (x : IS) := mS n inp j1 j2 j3 t.sw t.la t.co x.ph x.left x.used x.inn x.c.mem l m x.c.s.ret x.c.on x.c.s.at_ x.c.s.stk x.c.s.loc x.c.s.inp x.c.s.out x.c.s.set x.c.s.rds x.c.s.held x.c.s.flt x.c.s.stp
abbrev rf (l : List cL) (x : IS) : cL := l.getD x.c.s.at_.toNat (0, 0, 0)
def zQ (l : List cL) (x : IS) : Int × Int :=
 if x.ph = 2 then (if (rf l x).1 = 23 then (2, (rf l x).2.1) else if (rf l x).1 = 24 then (3, (rf l x).2.1) else (0, 0))
 else if 1 < x.left then (0, 0) else if x.ph = 1 then (1, 0) else if x.ph = 3 then (4, 0) else (0, 0)
def jw (l : List cL) (x : IS) : Int := if x.ph = 2 then (if (rf l x).1 = 25 then 0 else x.left) else x.left - 1
def iN (x : IS) : Bool := decide (x.ph = 1) && decide (x.left = 1)
def dw (t : TM) (l : List cL) (m : List Int) (inp : List Int) (x : IS) : IS where
 ph := (dM t x.ph (jw l x)).1
 left := (dM t x.ph (jw l x)).2
 used := x.used + 1
 inn := if iN x = true then inp else x.inn
 c := if x.ph = 2 then sA l m x.c else if iN x = true then ⟨true, vZ x.c.s.ret inp, x.c.mem⟩ else x.c
structure IOk (t : TM) (l : List cL) (m : List Int) (st : List ByteArray) (x : IS) : Prop where
 ph : 0 ≤ x.ph ∧ x.ph ≤ 5
 left : 1 ≤ x.left ∧ x.left ≤ 100
 used : 0 ≤ x.used
 on : x.c.on = decide (x.ph = 2)
 one : x.ph = 2 → x.left = 1
 run : x.ph = 2 → ∃ i rs, Ok l m st x.c.s i rs
 off : 3 ≤ x.ph → x.c.s.held = 0
theorem DW (x : cL) : EJ x = if x.1 = 25 then (3, 0) else if x.1 = 24 then (2, x.2.1) else if x.1 = 23 then (1, x.2.1) else (0, 0) := rfl
theorem wb {l : List cL} {m h : List Int} {st : List ByteArray} (hR : Row l m h st) {t : TM} (ht : TOk t) {x : IS} (hx : IOk t l m st x) (h5 : x.ph ≠ 5) (hu : x.used < 1000000) (n : Nat) (hn : 8 ≤ n) (inp : List Int) (j1 j2 j3 : Int) :
  xZ n inp j1 j2 j3 t l m x = some (((zQ l x).1, ((zQ l x).2, (dw t l m inp x).ph == 5)), 0, Fj j1 j2 j3 t l m (dw t l m inp x)) := by
 have hl := hR.fine.len
 obtain ⟨x1, x2, x3, x4, x5, x6, x7⟩ := hx
 obtain ⟨ph, left, used, inn, ⟨on, s, mem⟩⟩ := x
 simp only at x1 x2 x3 x4 x5 x6 x7 h5 hu
 unfold xZ mS
 dsimp only
 rw [if_neg (show ¬ (ph == 5) = true by simpa using h5), show wrap .i64 (used + 1) = used + 1 from dT (by omega) (by omega)]
 by_cases h2 : ph = 2
 ·subst h2
  obtain ⟨i, rs, hO⟩ := x6 rfl
  have hp : s.at_ = (i : Int) := hO.place
  have hi : s.at_.toNat = i := by rw [hp]; exact ai i
  have hS := Ch hR hO n mem
  unfold dL BN DR at hS
  have x4' : on = true := x4
  subst x4'
  have h1 := x5 rfl
  subst h1
  rw [if_pos (by decide), hS, ab]
  dsimp only
  have eI : rf l ⟨2, 1, used, inn, ⟨true, s, mem⟩⟩ = l.getD i (0, 0, 0) := by show l.getD s.at_.toNat _ = _; rw [hi]
  have e1 : sA l m ⟨true, s, mem⟩ = ⟨decide ((l.getD i (0, 0, 0)).1 ≠ 25), fe (l.getD i (0, 0, 0)) (m.getD i 0) s mem, ta (l.getD i (0, 0, 0)) s mem⟩ := by
   unfold sA
   rw [if_pos rfl]
   dsimp only
   rw [hi]
  have eN : dw t l m inp ⟨2, 1, used, inn, ⟨true, s, mem⟩⟩ = ⟨(dM t 2 (if (l.getD i (0, 0, 0)).1 = 25 then 0 else 1)).1, (dM t 2 (if (l.getD i (0, 0, 0)).1 = 25 then 0 else 1)).2, used + 1, inn, ⟨decide ((l.getD i (0, 0, 0)).1 ≠ 25), fe (l.getD i (0, 0, 0)) (m.getD i 0) s mem, ta (l.getD i (0, 0, 0)) s mem⟩⟩ := by
   unfold dw
   rw [if_pos rfl, e1]
   unfold jw
   rw [if_pos rfl, eI]
   rfl
  have eE : zQ l ⟨2, 1, used, inn, ⟨true, s, mem⟩⟩ = if (l.getD i (0, 0, 0)).1 = 23 then (2, (l.getD i (0, 0, 0)).2.1) else if (l.getD i (0, 0, 0)).1 = 24 then (3, (l.getD i (0, 0, 0)).2.1) else (0, 0) := by
   unfold zQ
   rw [if_pos rfl, eI]
  rw [eN, eE, DW]
  have hs := fun left => oW n hn j1 j2 j3 ht (ph := 2) (left := left) (by omega) (used + 1) inn l m (decide ((l.getD i (0, 0, 0)).1 ≠ 25)) (fe (l.getD i (0, 0, 0)) (m.getD i 0) s mem)
  unfold oV oU at hs
  by_cases h25 : (l.getD i (0, 0, 0)).1 = 25
  ·simp only [if_pos h25]
   rw [if_neg (by decide), if_neg (by decide), if_pos (by decide), hs 0, ab, if_neg (by rw [h25]; decide), if_neg (by rw [h25]; decide)]
  ·simp only [if_neg h25]
   by_cases h24 : (l.getD i (0, 0, 0)).1 = 24
   ·simp only [if_pos h24]
    rw [if_neg (by decide), if_pos (by decide), hs 1, ab, if_neg (by rw [h24]; decide)]
   ·simp only [if_neg h24]
    by_cases h23 : (l.getD i (0, 0, 0)).1 = 23
    ·simp only [if_pos h23]
     rw [if_pos (by decide), hs 1, ab]
    ·simp only [if_neg h23]
     rw [if_neg (by decide), if_neg (by decide), if_neg (by decide), hs 1, ab]
 ·have x4' : on = false := x4.trans (aM h2)
  subst x4'
  rw [if_neg (show ¬ (ph == 2) = true by simpa using h2), show wrap .i64 (left - 1) = left - 1 from dT (by omega) (by omega)]
  have hs := fun inn on s => oW n hn j1 j2 j3 ht (ph := ph) (left := left - 1) x1 (used + 1) inn l m on s
  unfold oV oU at hs
  have eL : jw l ⟨ph, left, used, inn, ⟨false, s, mem⟩⟩ = left - 1 := if_neg h2
  unfold zQ dw
  rw [eL]
  dsimp only
  rw [if_neg h2, if_neg h2]
  by_cases hg : 1 < left
  ·have hla : iN ⟨ph, left, used, inn, ⟨false, s, mem⟩⟩ = false := by
    unfold iN
    rw [aM (show ¬ left = 1 by omega), Bool.and_false]
   rw [if_pos (af (show left - 1 > 0 by omega)), hs inn false s, ab, if_pos hg, hla]
   rfl
  ·have hl1 : left = 1 := by omega
   rw [if_neg (by simp; omega), if_neg hg]
   by_cases p1 : ph = 1
   ·have hla : iN ⟨ph, left, used, inn, ⟨false, s, mem⟩⟩ = true := by
     unfold iN
     rw [p1, hl1]
     rfl
    rw [if_pos (show (ph == 1) = true from ah.2 p1), Bp n hl.1, ab, if_pos p1, hla]
    dsimp only
    have := hs inp true (vZ s.ret inp)
    dsimp only at this
    rw [this, ab]
    rfl
   ·have hla : iN ⟨ph, left, used, inn, ⟨false, s, mem⟩⟩ = false := by
     unfold iN
     rw [aM p1, ba]
    rw [if_neg (show ¬ (ph == 1) = true by simpa using p1), if_neg p1, hla]
    by_cases p3 : ph = 3
    ·rw [if_pos (show (ph == 3) = true from ah.2 p3), hs inn false s, ab, if_pos p3]
     rfl
    ·rw [if_neg (show ¬ (ph == 3) = true by simpa using p3), hs inn false s, ab, if_neg p3]
     rfl
theorem zR {l : List cL} {m h : List Int} {st : List ByteArray} (hR : Row l m h st) {s : MS} {i : Nat} {rs : List (Nat × Int)} (hO : Ok l m st s i rs) (h25 : opAt l i = 25) : s.held = 0 := by
 obtain ⟨v, v1, v2⟩ := hO.held
 have hF := hR.fine
 have hi := hO.lt
 have hlast : i + 1 = l.length := by
  have h1 := hF.ends i hi
  unfold mX at h1
  rw [show ((l.getD i (0, 0, 0)).1 == 25) = true from ah.2 h25] at h1
  cases h4 : ((i : Int) == ((l.length - 1 : Nat) : Int))
  ·rw [h4] at h1; cases h1
  ·have := eq_of_beq h4; omega
 have : v = 0 := by
  apply Nat.eq_of_testBit_eq
  intro b
  rw [Nat.zero_testBit]
  cases hb : v.testBit b
  ·rfl
  ·exfalso
   obtain ⟨k, k1, k2, k3⟩ := (v2.2 b).1 hb
   have ho := (d5 k1).2
   obtain ⟨j, j1, j2, j3, j4, j5⟩ := hF.closed.op_ k (fo ho) ho
   have := (fm ho j1).1 k1
   have hji : j = i := by omega
   subst hji
   have := pq (l.getD k (0, 0, 0))
   rw [← j4] at this
   unfold opAt at h25
   rw [h25] at this
   rcases this with h | h <;> cases h
 rw [v1, this]
 rfl
theorem Br {l : List cL} {m h : List Int} {st : List ByteArray} (hR : Row l m h st) {t : TM} (ht : TOk t) {x : IS} (hx : IOk t l m st x) (h5 : x.ph ≠ 5) (inp : List Int) : IOk t l m st (dw t l m inp x) := by
 obtain ⟨x1, x2, x3, x4, x5, x6, x7⟩ := hx
 obtain ⟨ph, left, used, inn, ⟨on, s, mem⟩⟩ := x
 simp only at x1 x2 x3 x4 x5 x6 x7 h5
 have hl0 := ht.l0
 have hl1 := ht.l1
 have hc0 := ht.c0
 have hc1 := ht.c1
 have hs0 := ht.s0
 have hs1 := ht.s1
 have hc : ph = 0 ∨ ph = 1 ∨ ph = 2 ∨ ph = 3 ∨ ph = 4 := by omega
 by_cases h2 : ph = 2
 ·subst h2
  obtain ⟨i, rs, hO⟩ := x6 rfl
  have hp : s.at_ = (i : Int) := hO.place
  have hi : s.at_.toNat = i := by rw [hp]; exact ai i
  have x4' : on = true := x4
  subst x4'
  have h1 := x5 rfl
  subst h1
  have e1 : sA l m ⟨true, s, mem⟩ = ⟨decide ((l.getD i (0, 0, 0)).1 ≠ 25), fe (l.getD i (0, 0, 0)) (m.getD i 0) s mem, ta (l.getD i (0, 0, 0)) s mem⟩ := by
   unfold sA
   rw [if_pos rfl]
   dsimp only
   rw [hi]
  have eN : dw t l m inp ⟨2, 1, used, inn, ⟨true, s, mem⟩⟩ = ⟨(dM t 2 (if (l.getD i (0, 0, 0)).1 = 25 then 0 else 1)).1, (dM t 2 (if (l.getD i (0, 0, 0)).1 = 25 then 0 else 1)).2, used + 1, inn, ⟨decide ((l.getD i (0, 0, 0)).1 ≠ 25), fe (l.getD i (0, 0, 0)) (m.getD i 0) s mem, ta (l.getD i (0, 0, 0)) s mem⟩⟩ := by
   unfold dw
   rw [if_pos rfl, e1]
   unfold jw
   rw [if_pos rfl]
   show _ = _
   unfold rf
   dsimp only
   rw [hi]
   rfl
  rw [eN]
  by_cases h25 : opAt l i = 25
  ·have hh := zR hR hO h25
   rw [if_pos h25]
   refine ⟨by show 0 ≤ (3 : Int) ∧ (3 : Int) ≤ 5; omega, by show 1 ≤ t.co ∧ t.co ≤ 100; omega, by show 0 ≤ used + 1; omega, ?_, (fun h => by cases h), (fun h => by cases h), fun _ => ?_⟩
   ·show decide (opAt l i ≠ 25) = decide ((3 : Int) = 2)
    rw [h25]
    rfl
   ·show (if _ then _ else if _ then _ else _) = _
    rw [if_neg (show ¬ opAt l i = 23 by omega), if_neg (show ¬ opAt l i = 24 by omega)]
    exact hh
  ·rw [if_neg h25]
   obtain ⟨q, rs', hq, _⟩ := (zN hR hO mem h25).ex
   refine ⟨by show 0 ≤ (2 : Int) ∧ (2 : Int) ≤ 5; omega, by show 1 ≤ (1 : Int) ∧ (1 : Int) ≤ 100; omega, by show 0 ≤ used + 1; omega, ?_, fun _ => rfl, fun _ => ⟨q, rs', hq⟩, fun h => ?_⟩
   ·show decide (opAt l i ≠ 25) = decide ((2 : Int) = 2)
    rw [af h25]
    rfl
   ·have h' : (3 : Int) ≤ 2 := h
    omega
 ·have x4' : on = false := x4.trans (aM h2)
  subst x4'
  have eL : jw l ⟨ph, left, used, inn, ⟨false, s, mem⟩⟩ = left - 1 := if_neg h2
  unfold dw
  rw [eL]
  dsimp only
  rw [if_neg h2]
  by_cases hg : 1 < left
  ·have hla : iN ⟨ph, left, used, inn, ⟨false, s, mem⟩⟩ = false := by
    unfold iN
    rw [aM (show ¬ left = 1 by omega), Bool.and_false]
   have hs : dM t ph (left - 1) = (ph, left - 1) := if_pos (by omega)
   rw [hla, hs]
   exact ⟨x1, by show 1 ≤ left - 1 ∧ left - 1 ≤ 100; omega, by show 0 ≤ used + 1; omega, by show false = decide (ph = 2); rw [aM h2], fun h => absurd h h2, fun h => absurd h h2, x7⟩
  ·have hl1 : left = 1 := by omega
   subst hl1
   rcases hc with rfl | rfl | rfl | rfl | rfl
   ·exact ⟨by show 0 ≤ (1 : Int) ∧ (1 : Int) ≤ 5; omega, by show 1 ≤ t.la ∧ t.la ≤ 100; omega, by show 0 ≤ used + 1; omega, rfl, (fun h => by cases h), (fun h => by cases h), fun h => by have h' : (3 : Int) ≤ 1 := h; omega⟩
   ·exact ⟨by show 0 ≤ (2 : Int) ∧ (2 : Int) ≤ 5; omega, by show 1 ≤ (1 : Int) ∧ (1 : Int) ≤ 100; omega, by show 0 ≤ used + 1; omega, rfl, fun _ => rfl, fun _ => ⟨0, [], Bo hR s.ret inp⟩, fun h => by have h' : (3 : Int) ≤ 2 := h; omega⟩
   ·exact absurd rfl h2
   ·have hh := x7 (by omega)
    by_cases hs : t.sw = 0
    ·have e : dM t 3 (1 - 1) = (5, 1) := by
      unfold dM
      rw [if_neg (by decide), if_neg (by decide), if_neg (by decide), if_neg (by decide), if_pos rfl, if_pos hs]
     rw [e]
     exact ⟨by show 0 ≤ (5 : Int) ∧ (5 : Int) ≤ 5; omega, by show 1 ≤ (1 : Int) ∧ (1 : Int) ≤ 100; omega, by show 0 ≤ used + 1; omega, rfl, (fun h => by cases h), (fun h => by cases h), fun _ => hh⟩
    ·have e : dM t 3 (1 - 1) = (4, t.sw) := by
      unfold dM
      rw [if_neg (by decide), if_neg (by decide), if_neg (by decide), if_neg (by decide), if_pos rfl, if_neg hs]
     rw [e]
     exact ⟨by show 0 ≤ (4 : Int) ∧ (4 : Int) ≤ 5; omega, by show 1 ≤ t.sw ∧ t.sw ≤ 100; omega, by show 0 ≤ used + 1; omega, rfl, (fun h => by cases h), (fun h => by cases h), fun _ => hh⟩
   ·have hh := x7 (by omega)
    exact ⟨by show 0 ≤ (5 : Int) ∧ (5 : Int) ≤ 5; omega, by show 1 ≤ (1 : Int) ∧ (1 : Int) ≤ 100; omega, by show 0 ≤ used + 1; omega, rfl, (fun h => by cases h), (fun h => by cases h), fun _ => hh⟩
theorem rg (x lo : Int) (h : lo ≤ 100) : (x == (if (if (100 : Int) < x then 100 else x) > lo then (if (100 : Int) < x then 100 else x) else lo)) = (decide (lo ≤ x) && decide (x ≤ 100)) := by
 rw [cb, ah, ag, aj, aj]
 split <;> split <;> omega
def oX (t : TM) : Bool := (decide ((0 : Int) ≤ t.sw) && decide (t.sw ≤ 100)) && ((decide ((1 : Int) ≤ t.la) && decide (t.la ≤ 100)) && (decide ((1 : Int) ≤ t.co) && decide (t.co ≤ 100)))
theorem Bs (n : Nat) (a b c : Int) : dk n (a, (b, c)) = some (oX ⟨a, b, c⟩) := by
 unfold dk oX
 dsimp only
 rw [rg a 0 (by omega), rg b 1 (by omega), rg c 1 (by omega)]
theorem times_ok {t : TM} : oX t = true ↔ TOk t := by
 unfold oX
 simp only [ag, aj]
 exact ⟨fun ⟨⟨a, b⟩, ⟨c, d⟩, e, f⟩ => ⟨a, b, c, d, e, f⟩, fun ⟨a, b, c, d, e, f⟩ => ⟨⟨a, b⟩, ⟨c, d⟩, e, f⟩⟩
abbrev EK : MS := ⟨z8, 0, [], z8, z16, z16, 0, [], 0, 0, 0⟩
abbrev mf (t : TM) (s : MS) (mem : dQ) : IS := ⟨(dM t 0 t.sw).1, (dM t 0 t.sw).2, 0, z16, ⟨false, s, mem⟩⟩
theorem Bt {t : TM} (ht : TOk t) (l : List cL) (m : List Int) (st : List ByteArray) (s : MS) (mem : dQ) : IOk t l m st (mf t s mem) := by
 obtain ⟨s0, s1, l0, l1, c0, c1⟩ := ht
 by_cases h : t.sw = 0
 ·have e : dM t 0 t.sw = (1, t.la) := by unfold dM; rw [if_neg (fun h2 => h2 h), if_pos rfl]
  unfold mf
  rw [e]
  exact ⟨by show 0 ≤ (1 : Int) ∧ (1 : Int) ≤ 5; omega, ⟨l0, l1⟩, by show (0 : Int) ≤ 0; omega, rfl, (fun h => by cases h), (fun h => by cases h), fun h => by have h' : (3 : Int) ≤ 1 := h; omega⟩
 ·have e : dM t 0 t.sw = (0, t.sw) := by unfold dM; rw [if_pos h]
  unfold mf
  rw [e]
  exact ⟨by show 0 ≤ (0 : Int) ∧ (0 : Int) ≤ 5; omega, ⟨by show 1 ≤ t.sw; omega, s1⟩, by show (0 : Int) ≤ 0; omega, rfl, (fun h => by cases h), (fun h => by cases h), fun h => by have h' : (3 : Int) ≤ 0 := h; omega⟩
theorem Cj : cV 30000 = some true := by kernel_rfl
theorem Ck {t : TM} {ph q : Int} (h : 2 ≤ ph) : 2 ≤ (dM t ph q).1 := by
 unfold dM
 split
 ·exact h
 ·rw [if_neg (by omega), if_neg (by omega)]
  split
  ·show (2 : Int) ≤ 3; omega
  ·split
   ·split
    ·show (2 : Int) ≤ 5; omega
    ·show (2 : Int) ≤ 4; omega
   ·split
    ·show (2 : Int) ≤ 5; omega
    ·exact h
structure WOk (t : TM) (x : IS) : Prop where
 w0 : x.ph = 0 → x.used + x.left = t.sw
 w1 : x.ph = 1 → x.used + x.left = t.sw + t.la
theorem zS {t : TM} {l : List cL} {m : List Int} (inp : List Int) {x : IS} (h0 : 0 ≤ x.ph) (hl : 1 ≤ x.left) (hw : WOk t x) : WOk t (dw t l m inp x) := by
 obtain ⟨w0, w1⟩ := hw
 obtain ⟨ph, left, used, inn, c⟩ := x
 simp only at h0 hl w0 w1
 by_cases h2 : 2 ≤ ph
 ·have := Ck (t := t) (q := jw l ⟨ph, left, used, inn, c⟩) h2
  exact ⟨fun h => by have h' : (dM t ph (jw l ⟨ph, left, used, inn, c⟩)).1 = 0 := h; omega, fun h => by have h' : (dM t ph (jw l ⟨ph, left, used, inn, c⟩)).1 = 1 := h; omega⟩
 ·have eL : jw l ⟨ph, left, used, inn, c⟩ = left - 1 := if_neg (show ¬ ph = 2 by omega)
  have e : (dw t l m inp ⟨ph, left, used, inn, c⟩).ph = (dM t ph (left - 1)).1 ∧ (dw t l m inp ⟨ph, left, used, inn, c⟩).left = (dM t ph (left - 1)).2 ∧ (dw t l m inp ⟨ph, left, used, inn, c⟩).used = used + 1 := by
   unfold dw
   rw [eL]
   exact ⟨rfl, rfl, rfl⟩
  constructor <;> rw [e.1, e.2.1, e.2.2] <;> (
   have hc : ph = 0 ∨ ph = 1 := by omega
   by_cases h1 : left - 1 = 0
   ·rw [h1]
    rcases hc with rfl | rfl
    ·have := w0 rfl
     have e : dM t 0 0 = (1, t.la) := rfl
     rw [e]
     dsimp only
     omega
    ·have e : dM t 1 0 = (2, 1) := rfl
     rw [e]
     dsimp only
     omega
   ·have e : dM t ph (left - 1) = (ph, left - 1) := if_pos h1
    rw [e]
    dsimp only
    intro h
    rcases hc with rfl | rfl
    ·have := w0 rfl; omega
    ·have := w1 rfl; omega)
theorem zT {t : TM} {l : List cL} {m : List Int} (i j : List Int) {x : IS} (h : iN x = false) : dw t l m i x = dw t l m j x := by
 unfold dw
 rw [h]
 rfl
theorem Bu {t : TM} {x : IS} (hw : WOk t x) (h : iN x = true) : x.used + 1 = t.sw + t.la := by
 unfold iN at h
 rw [ag, aj, aj] at h
 have := hw.w1 h.1
 omega
theorem x0 {t : TM} (s : MS) (mem : dQ) : WOk t (mf t s mem) := by
 by_cases h : t.sw = 0
 ·have e : dM t 0 t.sw = (1, t.la) := by unfold dM; rw [if_neg (fun h2 => h2 h), if_pos rfl]
  unfold mf
  rw [e]
  exact ⟨(fun h => by cases h), fun _ => show (0 : Int) + t.la = t.sw + t.la by omega⟩
 ·have e : dM t 0 t.sw = (0, t.sw) := by unfold dM; rw [if_pos h]
  unfold mf
  rw [e]
  exact ⟨fun _ => show (0 : Int) + t.sw = t.sw by omega, fun h => by cases h⟩
abbrev x8 (t : TM) (j1 j2 j3 : Int) (l : List cL) (m : List Int) (i : Int) (a2 : List (List Int)) (x y : IS) := (i, t.sw, t.la, t.co, a2, j1, j2, j3, t.sw, t.la, t.co, x.ph, x.left, x.used, x.inn, j1, j2, j3, t.sw, t.la, t.co, y.ph, y.left, y.used, y.inn, x.c.mem, y.c.mem, l, m, x.c.s.ret, x.c.on, x.c.s.at_, x.c.s.stk, x.c.s.loc, x.c.s.inp, x.c.s.out, x.c.s.set, x.c.s.rds, x.c.s.held, x.c.s.flt, x.c.s.stp, l, m, y.c.s.ret, y.c.on, y.c.s.at_, y.c.s.stk, y.c.s.loc, y.c.s.inp, y.c.s.out, y.c.s.set, y.c.s.rds, y.c.s.held, y.c.s.flt, y.c.s.stp)
theorem zU (n : Nat) (hn : 900 < n) {l : List cL} {m h : List Int} {st : List ByteArray} (hR : Row l m h st) {t : TM} (ht : TOk t) (a2 : List (List Int)) (j1 j2 j3 : Int) {x : IS} (hx : IOk t l m st x) (hu : x.used = 0) (hw : WOk t x) :
  ∃ r, mU n (x8 t j1 j2 j3 l m 1 a2 x x) = some r ∧ ∃ x' : IS, r = .inr ((), ((t.sw, t.la, t.co, ()), (a2, ()), (j1, j2, j3, t.sw, t.la, t.co, x'.ph, x'.left, x'.used, x'.inn, ()), (j1, j2, j3, t.sw, t.la, t.co, x'.ph, x'.left, x'.used, x'.inn, ()), (x'.c.mem, ()), (x'.c.mem, ()), (l, m, x'.c.s.ret, x'.c.on, x'.c.s.at_, x'.c.s.stk, x'.c.s.loc, x'.c.s.inp, x'.c.s.out, x'.c.s.set, x'.c.s.rds, x'.c.s.held, x'.c.s.flt, x'.c.s.stp, ()), (l, m, x'.c.s.ret, x'.c.on, x'.c.s.at_, x'.c.s.stk, x'.c.s.loc, x'.c.s.inp, x'.c.s.out, x'.c.s.set, x'.c.s.rds, x'.c.s.held, x'.c.s.flt, x'.c.s.stp, ()), ())) := by
 show ∃ r, it _ n _ = some r ∧ _
 refine px (fun f y => ∃ (k : Nat) (x : IS), k ≤ 800 ∧ 800 < f + k ∧ IOk t l m st x ∧ x.used + 1 = (k : Int) ∧ WOk t x ∧ y = x8 t j1 j2 j3 l m (k : Int) a2 x x) _ (fun y ⟨k, x, h1, h2, _⟩ => by omega) ?_ n _ ⟨1, x, by omega, by omega, hx, by rw [hu]; rfl, hw, rfl⟩
 clear hx hu hw x
 rintro f y F hF ⟨k, x, h1, h2, hx, hu, hw, rfl⟩
 show ∃ r, sm n F (k : Int) t.sw t.la t.co a2 j1 j2 j3 t.sw t.la t.co x.ph x.left x.used x.inn j1 j2 j3 t.sw t.la t.co x.ph x.left x.used x.inn x.c.mem x.c.mem l m x.c.s.ret x.c.on x.c.s.at_ x.c.s.stk x.c.s.loc x.c.s.inp x.c.s.out x.c.s.set x.c.s.rds x.c.s.held x.c.s.flt x.c.s.stp l m x.c.s.ret x.c.on x.c.s.at_ x.c.s.stk x.c.s.loc x.c.s.inp x.c.s.out x.c.s.set x.c.s.rds x.c.s.held x.c.s.flt x.c.s.stp = some r ∧ _
 unfold sm
 rcases aq k 800 with hk | hk
 ·rw [if_pos (af (by omega))]
  have eD : ∀ (v1 v2 v3 v4 v5 v6 v7 v8 v9 : Int) (v10 : List Int) (v11 : List cL) (v12 v13 : List Int) (v14 : Bool) (v15 : Int) (v16 v17 v18 v19 : List Int) (v20 : Int) (v21 : List Int) (v22 v23 v24 : Int), ea n v1 v2 v3 v4 v5 v6 v7 v8 v9 v10 v11 v12 v13 v14 v15 v16 v17 v18 v19 v20 v21 v22 v23 v24 = some ((v7 == 5), v1, v2, v3, v4, v5, v6, v7, v8, v9, v10, v11, v12, v13, v14, v15, v16, v17, v18, v19, v20, v21, v22, v23, v24) := fun _ _ _ _ _ _ _ _ _ _ _ _ _ _ _ _ _ _ _ _ _ _ _ _ => rfl
  have eU : ∀ (v1 v2 v3 v4 v5 v6 v7 v8 v9 : Int) (v10 : List Int) (v11 : List cL) (v12 v13 : List Int) (v14 : Bool) (v15 : Int) (v16 v17 v18 v19 : List Int) (v20 : Int) (v21 : List Int) (v22 v23 v24 : Int), e8 n v1 v2 v3 v4 v5 v6 v7 v8 v9 v10 v11 v12 v13 v14 v15 v16 v17 v18 v19 v20 v21 v22 v23 v24 = some (v9, v1, v2, v3, v4, v5, v6, v7, v8, v9, v10, v11, v12, v13, v14, v15, v16, v17, v18, v19, v20, v21, v22, v23, v24) := fun _ _ _ _ _ _ _ _ _ _ _ _ _ _ _ _ _ _ _ _ _ _ _ _ => rfl
  rw [eD, ab]
  dsimp only
  by_cases h5 : x.ph = 5
  ·rw [show (x.ph == 5) = true from ah.2 h5, if_neg (by decide)]
   exact ⟨_, rfl, x, rfl⟩
  ·rw [show (x.ph == 5) = false by simpa using h5, if_pos (by decide)]
   have hT := hx.used
   have t1 := ht.s0
   have t2 := ht.s1
   have t3 := ht.l0
   have t4 := ht.l1
   have hS := fun inp => wb hR ht hx h5 (by omega) n (by omega) inp j1 j2 j3
   have hx' := Br hR ht hx h5 (a2.getD 0 z16)
   have hw' := zS (l := l) (m := m) (a2.getD 0 z16) hx.ph.1 hx.left.1 hw
   have hu' : (dw t l m (a2.getD 0 z16) x).used + 1 = ((k + 1 : Nat) : Int) := by
    show x.used + 1 + 1 = _
    omega
   have h1' : (k : Int) ≠ t.sw + t.la → dw t l m (a2.getD 1 z16) x = dw t l m (a2.getD 0 z16) x := fun h => zT _ _ (by
    cases hb : iN x
    ·rfl
    ·exact absurd (Bu hw hb) (by omega))
   unfold xZ at hS
   rw [hS, ab]
   dsimp only
   have hj : sk n (k : Int) t.sw t.la t.co a2 j1 j2 j3 t.sw t.la t.co (dw t l m (a2.getD 0 z16) x).ph (dw t l m (a2.getD 0 z16) x).left (dw t l m (a2.getD 0 z16) x).used (dw t l m (a2.getD 0 z16) x).inn j1 j2 j3 t.sw t.la t.co x.ph x.left x.used x.inn (dw t l m (a2.getD 0 z16) x).c.mem x.c.mem l m (dw t l m (a2.getD 0 z16) x).c.s.ret (dw t l m (a2.getD 0 z16) x).c.on (dw t l m (a2.getD 0 z16) x).c.s.at_ (dw t l m (a2.getD 0 z16) x).c.s.stk (dw t l m (a2.getD 0 z16) x).c.s.loc (dw t l m (a2.getD 0 z16) x).c.s.inp (dw t l m (a2.getD 0 z16) x).c.s.out (dw t l m (a2.getD 0 z16) x).c.s.set (dw t l m (a2.getD 0 z16) x).c.s.rds (dw t l m (a2.getD 0 z16) x).c.s.held (dw t l m (a2.getD 0 z16) x).c.s.flt (dw t l m (a2.getD 0 z16) x).c.s.stp l m x.c.s.ret x.c.on x.c.s.at_ x.c.s.stk x.c.s.loc x.c.s.inp x.c.s.out x.c.s.set x.c.s.rds x.c.s.held x.c.s.flt x.c.s.stp = some (x8 t j1 j2 j3 l m (k : Int) a2 (dw t l m (a2.getD 0 z16) x) (dw t l m (a2.getD 0 z16) x)) := by
    unfold sk
    rw [dT (show -9223372036854775808 ≤ t.sw + t.la by omega) (by omega)]
    by_cases hi : (k : Int) = t.sw + t.la
    ·rw [if_pos (ah.2 hi), hS, ab]
    ·rw [if_neg (fun h => hi (ah.1 h)), hS, ab, h1' hi]
   rw [hj, ab]
   generalize dw t l m (a2.getD 0 z16) x = x' at hx' hw' hu'
   dsimp only
   have eH : ∀ (v1 v2 v3 v4 v5 v6 v7 v8 v9 : Int) (v10 : List Int) (v11 : List cL) (v12 v13 : List Int) (v14 : Bool) (v15 : Int) (v16 v17 v18 v19 : List Int) (v20 : Int) (v21 : List Int) (v22 v23 v24 : Int), fa n v1 v2 v3 v4 v5 v6 v7 v8 v9 v10 v11 v12 v13 v14 v15 v16 v17 v18 v19 v20 v21 v22 v23 v24 = some ((if v7 < 2 then 0 else v22), v1, v2, v3, v4, v5, v6, v7, v8, v9, v10, v11, v12, v13, v14, v15, v16, v17, v18, v19, v20, v21, v22, v23, v24) := fun v1 v2 v3 v4 v5 v6 v7 v8 v9 v10 v11 v12 v13 v14 v15 v16 v17 v18 v19 v20 v21 v22 v23 v24 => by
    unfold fa
    by_cases hv : v7 < 2
    ·rw [if_pos (af hv), if_pos hv]
    ·rw [if_neg (fun h => hv (bA h)), if_neg hv]
     rfl
   rw [eU, ab, ab]
   dsimp only
   rw [if_neg (by simp), eD, ab, ab]
   dsimp only
   rw [if_neg (by simp), eH, ab, ab]
   dsimp only
   rw [if_neg (by simp), d8 (by omega)]
   exact hF _ ⟨k + 1, x', by omega, by omega, hx', hu', hw', rfl⟩
 ·rw [if_neg (by simp; omega)]
  exact ⟨_, rfl, x, rfl⟩
theorem iP (a0 : (List (Int × (Int × Int)))) (a1 : (Int × (Int × Int))) (a2 : (List (List Int))) (ok0 : Sh.Ok (.sl (.pair (.int .i64) (.pair (.int .i64) (.int .i64)))) a0) (ok1 : Sh.Ok (.pair (.int .i64) (.pair (.int .i64) (.int .i64))) a1) (ok2 : Sh.Ok (.arr 2 (.arr 16 (.int .i64))) a2) : ∃ n, xK n a0 a1 a2 = some true := by
 refine ⟨30000, ?_⟩
 unfold xK
 rw [Cj]
 rcases aq 200 a0.length with hl | hl
 ·rw [if_pos (af (by omega))]
  rfl
 rw [if_neg (by simp; omega), zC 30000 a0 (by omega) (by omega), ab]
 dsimp only
 by_cases h1 : iM a0 = 0
 ·rw [if_neg (by simp [h1]), xU 30000 a0 (by omega) (by omega) (by omega), ab]
  dsimp only
  by_cases h2 : kl a0 = 0
  ·have hR := DS h1 h2
   have hl0 := hR.fine.len
   have eR : ∀ (v1 : List cL) (v2 v3 : List Int) (v4 : Bool) (v5 : Int) (v6 v7 v8 v9 : List Int) (v10 : Int) (v11 : List Int) (v12 v13 v14 : Int), dj 30000 v1 v2 v3 v4 v5 v6 v7 v8 v9 v10 v11 v12 v13 v14 = some (v4, v1, v2, v3, v4, v5, v6, v7, v8, v9, v10, v11, v12, v13, v14) := fun _ _ _ _ _ _ _ _ _ _ _ _ _ _ => rfl
   rw [if_neg (by simp [h2]), vT 30000 a0 (by omega) (by omega), ab, if_pos (zO hl), ab]
   dsimp only
   rw [if_neg (by simp [h1]), ab]
   dsimp only
   rw [if_neg (by simp [h2]), ab, if_pos (zO hl), af (show (a0.length : Int) > 0 by omega), if_neg (by decide), eR, ab]
   dsimp only
   rw [if_neg (by decide), Bs, ab]
   by_cases hq : oX ⟨a1.1, a1.2.1, a1.2.2⟩ = true
   ·have ht := times_ok.1 hq
    rw [hq, if_neg (by decide)]
    have hs := oW 30000 (by omega) 0 1 0 ht (ph := 0) (left := a1.1) (by omega) 0 z16 a0 (scanI a0).1 false EK
    have e0 : fb = eB := rfl
    unfold oV oU at hs
    dsimp only at hs
    rw [e0, hs, ab]
    dsimp only
    rw [if_neg (by decide), ab]
    dsimp only
    rw [if_neg (by decide), ab, if_neg (by decide), hs, ab]
    dsimp only
    obtain ⟨r, f1, x', f2⟩ := zU 30000 (by omega) hR ht a2 0 1 0 (Bt ht a0 (scanI a0).1 (km a0) EK [z8, z8, z8, z8, z8, z8, z8, z8]) rfl (x0 _ _)
    subst f2
    rw [show mU 30000 _ = _ from f1, ab, ca]
    dsimp only
    have eO : ∀ (v1 v2 v3 v4 v5 v6 v7 v8 v9 : Int) (v10 : List Int) (v11 : List cL) (v12 v13 : List Int) (v14 : Bool) (v15 : Int) (v16 v17 v18 v19 : List Int) (v20 : Int) (v21 : List Int) (v22 v23 v24 : Int), e9 30000 v1 v2 v3 v4 v5 v6 v7 v8 v9 v10 v11 v12 v13 v14 v15 v16 v17 v18 v19 v20 v21 v22 v23 v24 = some ((if v7 < 4 then [] else ne v19 v20), v1, v2, v3, v4, v5, v6, v7, v8, v9, v10, v11, v12, v13, v14, v15, v16, v17, v18, v19, v20, v21, v22, v23, v24) := fun v1 v2 v3 v4 v5 v6 v7 v8 v9 v10 v11 v12 v13 v14 v15 v16 v17 v18 v19 v20 v21 v22 v23 v24 => by
     unfold e9
     by_cases hv : v7 < 4
     ·rw [if_pos (af hv), if_pos hv]
     ·rw [if_neg (fun h => hv (bA h)), if_neg hv, Ci 30000 (by omega)]
      rfl
    have hlen : (if x'.ph < 4 then [] else ne x'.c.s.out x'.c.s.set).length ≤ 16 := by
     split
     ·exact az _
     ·exact zP _ _
    rw [eO, ab]
    dsimp only
    rw [wa 30000 hlen (by omega), ab, ab]
    dsimp only
    rw [wa 30000 hlen (by omega), ab, Bq 30000 hlen (by omega), ab, if_pos rfl, DT, if_pos rfl]
    have eI : ∀ (v1 v2 v3 v4 v5 v6 v7 v8 v9 : Int) (v10 : List Int) (v11 : List cL) (v12 v13 : List Int) (v14 : Bool) (v15 : Int) (v16 v17 v18 v19 : List Int) (v20 : Int) (v21 : List Int) (v22 v23 v24 : Int), gu 30000 v1 v2 v3 v4 v5 v6 v7 v8 v9 v10 v11 v12 v13 v14 v15 v16 v17 v18 v19 v20 v21 v22 v23 v24 = some (v10, v1, v2, v3, v4, v5, v6, v7, v8, v9, v10, v11, v12, v13, v14, v15, v16, v17, v18, v19, v20, v21, v22, v23, v24) := fun _ _ _ _ _ _ _ _ _ _ _ _ _ _ _ _ _ _ _ _ _ _ _ _ => rfl
    rw [eI, ab, ab]
    dsimp only
    rw [BO, if_pos rfl]
    rfl
   ·rw [if_pos (by simpa using hq), if_neg (by decide), ab]
    dsimp only
    rw [if_neg (by decide), ab, if_pos (by simpa using hq)]
    rfl
  ·rw [if_pos (by simpa using h2), ab]
   dsimp only
   rw [if_neg (by simp [h1]), ab]
   dsimp only
   rw [if_pos (by simpa using h2)]
   split <;> first | rfl | (split <;> rfl)
 ·rw [if_pos (by simpa using h1), ab]
  dsimp only
  rw [if_pos (by simpa using h1)]
  split <;> first | rfl | (split <;> rfl)
end Go.Proofs.Dk
