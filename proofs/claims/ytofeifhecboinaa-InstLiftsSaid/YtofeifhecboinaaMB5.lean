/- A part of the proofs: Plain: a step of a machine whose state is in order. -/
import Derived.Test.YtofeifhecboinaaMB4
import Derived.Test.YtofeifhecboinaaMB3
set_option linter.unusedVariables false
set_option linter.unusedSimpArgs false
noncomputable section
namespace Go.Proofs.Dk
open Go Go.IntKind
set_option maxRecDepth 100000
theorem jZ {o A B : Int} (ho : o = 11 ∨ o = 12 ∨ o = 13 ∨ o = 14 ∨ o = 23 ∨ o = 24) (h : cW (o, A, B) = true) : 0 ≤ A ∧ A ≤ 7 := by
 have key : cM 0 (o, A, B) = (if decide (A ≥ 0) then (if decide (A ≤ 7) then some (B == 0) else some false) else some false) := by
  rcases ho with rfl | rfl | rfl | rfl | rfl | rfl
  ·exact BV 0 A B
  ·exact BW 0 A B
  ·exact BX 0 A B
  ·exact BY 0 A B
  ·exact yg 0 A B
  ·exact B7 0 A B
 have h1 := (ee 0 (o, A, B)).symm.trans key
 rw [h] at h1
 by_cases h2 : A ≥ 0
 ·rw [if_pos (af h2)] at h1
  by_cases h3 : A ≤ 7
  ·exact ⟨h2, h3⟩
  ·rw [if_neg (by simpa using h3)] at h1; cases h1
 ·rw [if_neg (by simpa using h2)] at h1; cases h1
theorem xq {o A B : Int} (ho : o = 15 ∨ o = 16) (h : cW (o, A, B) = true) : 0 ≤ A ∧ A ≤ 15 := by
 have key : cM 0 (o, A, B) = (if decide (A ≥ 0) then (if decide (A ≤ 15) then some (B == 0) else some false) else some false) := by
  rcases ho with rfl | rfl
  ·exact BZ 0 A B
  ·exact B0 0 A B
 have h1 := (ee 0 (o, A, B)).symm.trans key
 rw [h] at h1
 by_cases h2 : A ≥ 0
 ·rw [if_pos (af h2)] at h1
  by_cases h3 : A ≤ 15
  ·exact ⟨h2, h3⟩
  ·rw [if_neg (by simpa using h3)] at h1; cases h1
 ·rw [if_neg (by simpa using h2)] at h1; cases h1
theorem xr {o A B : Int} (ho : o = 17 ∨ o = 18) (h : cW (o, A, B) = true) : (0 ≤ A ∧ A ≤ 7) ∧ (0 ≤ B ∧ B ≤ 7) := by
 have key : cM 0 (o, A, B) = (if decide (A ≥ 0) then (if decide (A ≤ 7) then (if decide (B ≥ 0) then some (decide (B ≤ 7)) else some false) else some false) else some false) := by
  rcases ho with rfl | rfl
  ·exact ye 0 A B
  ·exact yf 0 A B
 have h1 := (ee 0 (o, A, B)).symm.trans key
 rw [h] at h1
 by_cases h2 : A ≥ 0
 ·rw [if_pos (af h2)] at h1
  by_cases h3 : A ≤ 7
  ·rw [if_pos (af h3)] at h1
   by_cases h4 : B ≥ 0
   ·rw [if_pos (af h4)] at h1
    exact ⟨⟨h2, h3⟩, h4, bx (am h1).symm⟩
   ·rw [if_neg (by simpa using h4)] at h1; cases h1
  ·rw [if_neg (by simpa using h3)] at h1; cases h1
 ·rw [if_neg (by simpa using h2)] at h1; cases h1
structure Row (l : List cK) (m h : List Int) (st : List ByteArray) : Prop where
 fine : Fine l m h
 stk : Stk l m st
 rise : BA l m
theorem D9 {l : List cK} (h1 : iY l = 0) (h2 : kC l = 0) : Row l (scanI l).1 (scanI l).2.1 (kD l) :=
 ⟨nv (oU h1), (ym h2).2, yq h1⟩
structure Ok (l : List cK) (m : List Int) (st : List ByteArray) (s : MS) (i : Nat) (rs : List (Nat × Int)) : Prop where
 place : s.at_ = (i : Int)
 lt : i < l.length
 vt : VT (nT st i) s.stk
 lps : rs.map (·.1) = lps l m i
 rds : s.rds = rs.map (·.2)
 rnd : ∀ e ∈ rs, 1 ≤ e.2 ∧ e.2 ≤ cQ l e.1
 held : ∃ v : Nat, s.held = (v : Int) ∧ HeldB l m i v
theorem el {v : List Int} (h : v.length ≤ 1000) : (decide ((v.length + 1) * 8 ≤ 140737488355328) && decide (1 ≤ 8)) = true := by simp; omega
theorem iZ {A k : Int} (h : 0 ≤ A ∧ A < k) : (decide (0 ≤ A) && decide (A < k)) = true := by simp; exact h
theorem d8 (v : List Int) : (pr v).length = v.length - 1 := by
 unfold pr
 rw [List.length_take]
 omega
theorem dJ {i : Nat} (h : i < 1000000) : wrap .i64 ((i : Int) + 1) = (i : Int) + 1 := dL (by omega) (by omega)
theorem BE {r : List Int} {x y : Int} : (r ++ [x]).set r.length y = r ++ [y] := by
 rw [List.set_append_right _ _ (aj _), bE]
 rfl
abbrev dH (n : Nat) (l : List cK) (m : List Int) (x : cK) (mt : Int) (s : MS) (mem : dI) : Prop :=
 Ca n l m true s mem = some (E0 x, 0, D8 l m (decide (x.1 ≠ 25)) (eh x mt s mem) (rz x s mem))
theorem Gm (n : Nat) {l : List cK} {m : List Int} {i : Nat} (hl : l.length ≤ 200) (hi : i < l.length) {A B : Int} (hx : l.getD i (0, 0, 0) = (1, A, B)) (hr : cW (1, A, B) = true) {ret stk loc inp out rds : List Int} {set held flt stp : Int} {mem : dI} (hs : stk.length ≤ 16) {mt : Int} : dH n l m (1, A, B) mt ⟨ret, (i : Int), stk, loc, inp, out, set, rds, held, flt, stp⟩ mem := by
 have h0 : decide ((l.length : Int) > 0) = true := af (by omega)
 have hi2 : (decide (0 ≤ (i : Int)) && decide ((i : Int) < (l.length : Int))) = true := cO hi
 have hx2 : l.getD ((i : Int)).toNat (0, 0, 0) = (1, A, B) := by rw [ai]; exact hx
 have hn := dJ (show i < 1000000 by omega)
 refine (Fa n (v1 := l) (v2 := m) (v3 := ret) (v5 := (i : Int)) (v6 := stk) (v7 := loc) (v8 := inp) (v9 := out) (v10 := set) (v11 := rds) (v12 := held) (v13 := flt) (v14 := stp) (v15 := mem) h0 hi2 hx2).trans ?_
 rw [if_pos (el (by omega)), hn]
 kernel_rfl
theorem Gn (n : Nat) {l : List cK} {m : List Int} {i : Nat} (hl : l.length ≤ 200) (hi : i < l.length) {A B : Int} (hx : l.getD i (0, 0, 0) = (2, A, B)) (hr : cW (2, A, B) = true) {ret stk loc inp out rds : List Int} {set held flt stp : Int} {mem : dI} (hs : stk.length ≤ 16) (hd : 1 ≤ stk.length) {mt : Int} : dH n l m (2, A, B) mt ⟨ret, (i : Int), stk, loc, inp, out, set, rds, held, flt, stp⟩ mem := by
 have h0 : decide ((l.length : Int) > 0) = true := af (by omega)
 have hi2 : (decide (0 ≤ (i : Int)) && decide ((i : Int) < (l.length : Int))) = true := cO hi
 have hx2 : l.getD ((i : Int)).toNat (0, 0, 0) = (2, A, B) := by rw [ai]; exact hx
 have hn := dJ (show i < 1000000 by omega)
 refine (Fb n (v1 := l) (v2 := m) (v3 := ret) (v5 := (i : Int)) (v6 := stk) (v7 := loc) (v8 := inp) (v9 := out) (v10 := set) (v11 := rds) (v12 := held) (v13 := flt) (v14 := stp) (v15 := mem) h0 hi2 hx2).trans ?_
 rw [eG n _ _ _ _ _ (v6 := stk) _ _ _ _ _ _ _ _ (by omega) (by omega), ae, hn]
 kernel_rfl
theorem Gp (n : Nat) {l : List cK} {m : List Int} {i : Nat} (hl : l.length ≤ 200) (hi : i < l.length) {A B : Int} (hx : l.getD i (0, 0, 0) = (3, A, B)) (hr : cW (3, A, B) = true) {ret stk loc inp out rds : List Int} {set held flt stp : Int} {mem : dI} (hs : stk.length ≤ 16) (hd : 1 ≤ stk.length) {mt : Int} : dH n l m (3, A, B) mt ⟨ret, (i : Int), stk, loc, inp, out, set, rds, held, flt, stp⟩ mem := by
 have h0 : decide ((l.length : Int) > 0) = true := af (by omega)
 have hi2 : (decide (0 ≤ (i : Int)) && decide ((i : Int) < (l.length : Int))) = true := cO hi
 have hx2 : l.getD ((i : Int)).toNat (0, 0, 0) = (3, A, B) := by rw [ai]; exact hx
 have hn := dJ (show i < 1000000 by omega)
 refine (Fc n (v1 := l) (v2 := m) (v3 := ret) (v5 := (i : Int)) (v6 := stk) (v7 := loc) (v8 := inp) (v9 := out) (v10 := set) (v11 := rds) (v12 := held) (v13 := flt) (v14 := stp) (v15 := mem) h0 hi2 hx2).trans ?_
 rw [zR (by omega) (by omega), if_pos (cO (by omega)), if_pos (el (by omega)), hn, ai]
 kernel_rfl
theorem Gq (n : Nat) {l : List cK} {m : List Int} {i : Nat} (hl : l.length ≤ 200) (hi : i < l.length) {A B : Int} (hx : l.getD i (0, 0, 0) = (4, A, B)) (hr : cW (4, A, B) = true) {ret stk loc inp out rds : List Int} {set held flt stp : Int} {mem : dI} (hs : stk.length ≤ 16) (hd : 2 ≤ stk.length) {mt : Int} : dH n l m (4, A, B) mt ⟨ret, (i : Int), stk, loc, inp, out, set, rds, held, flt, stp⟩ mem := by
 have h0 : decide ((l.length : Int) > 0) = true := af (by omega)
 have hi2 : (decide (0 ≤ (i : Int)) && decide ((i : Int) < (l.length : Int))) = true := cO hi
 have hx2 : l.getD ((i : Int)).toNat (0, 0, 0) = (4, A, B) := by rw [ai]; exact hx
 have hn := dJ (show i < 1000000 by omega)
 refine (Fd n (v1 := l) (v2 := m) (v3 := ret) (v5 := (i : Int)) (v6 := stk) (v7 := loc) (v8 := inp) (v9 := out) (v10 := set) (v11 := rds) (v12 := held) (v13 := flt) (v14 := stp) (v15 := mem) h0 hi2 hx2).trans ?_
 rw [eG n _ _ _ _ _ (v6 := stk) _ _ _ _ _ _ _ _ (by omega) (by omega), ae, eG n _ _ _ _ _ (v6 := pr stk) _ _ _ _ _ _ _ _ (by rw [d8]; omega) (by rw [d8]; omega), ae]
 simp only []
 rw [if_pos (el (by rw [d8, d8]; omega)), if_pos (el (by rw [aR, d8, d8, List.length_singleton]; omega)), hn]
 kernel_rfl
theorem Gr (n : Nat) {l : List cK} {m : List Int} {i : Nat} (hl : l.length ≤ 200) (hi : i < l.length) {A B : Int} (hx : l.getD i (0, 0, 0) = (5, A, B)) (hr : cW (5, A, B) = true) {ret stk loc inp out rds : List Int} {set held flt stp : Int} {mem : dI} (hs : stk.length ≤ 16) (hd : 2 ≤ stk.length) {mt : Int} : dH n l m (5, A, B) mt ⟨ret, (i : Int), stk, loc, inp, out, set, rds, held, flt, stp⟩ mem := by
 have h0 : decide ((l.length : Int) > 0) = true := af (by omega)
 have hi2 : (decide (0 ≤ (i : Int)) && decide ((i : Int) < (l.length : Int))) = true := cO hi
 have hx2 : l.getD ((i : Int)).toNat (0, 0, 0) = (5, A, B) := by rw [ai]; exact hx
 have hn := dJ (show i < 1000000 by omega)
 have hb : ∀ b : Bool, fu n b = some (if b = true then 1 else 0) := fun b => by cases b <;> rfl
 refine (Fe n (v1 := l) (v2 := m) (v3 := ret) (v5 := (i : Int)) (v6 := stk) (v7 := loc) (v8 := inp) (v9 := out) (v10 := set) (v11 := rds) (v12 := held) (v13 := flt) (v14 := stp) (v15 := mem) h0 hi2 hx2).trans ?_
 rw [eG n _ _ _ _ _ (v6 := stk) _ _ _ _ _ _ _ _ (by omega) (by omega), ae, eG n _ _ _ _ _ (v6 := pr stk) _ _ _ _ _ _ _ _ (by rw [d8]; omega) (by rw [d8]; omega), ae]
 simp only []
 rw [(zS n (wk hr) _ _).1, ae]
 rw [hb, ae, if_pos (el (by rw [d8, d8]; omega)), hn]
 kernel_rfl
theorem Gs (n : Nat) {l : List cK} {m : List Int} {i : Nat} (hl : l.length ≤ 200) (hi : i < l.length) {A B : Int} (hx : l.getD i (0, 0, 0) = (6, A, B)) (hr : cW (6, A, B) = true) {ret stk loc inp out rds : List Int} {set held flt stp : Int} {mem : dI} (hs : stk.length ≤ 16) (hd : 1 ≤ stk.length) {mt : Int} : dH n l m (6, A, B) mt ⟨ret, (i : Int), stk, loc, inp, out, set, rds, held, flt, stp⟩ mem := by
 have h0 : decide ((l.length : Int) > 0) = true := af (by omega)
 have hi2 : (decide (0 ≤ (i : Int)) && decide ((i : Int) < (l.length : Int))) = true := cO hi
 have hx2 : l.getD ((i : Int)).toNat (0, 0, 0) = (6, A, B) := by rw [ai]; exact hx
 have hn := dJ (show i < 1000000 by omega)
 refine (Ff n (v1 := l) (v2 := m) (v3 := ret) (v5 := (i : Int)) (v6 := stk) (v7 := loc) (v8 := inp) (v9 := out) (v10 := set) (v11 := rds) (v12 := held) (v13 := flt) (v14 := stp) (v15 := mem) h0 hi2 hx2).trans ?_
 rw [eG n _ _ _ _ _ (v6 := stk) _ _ _ _ _ _ _ _ (by omega) (by omega), ae]
 simp only []
 rw [show lz n (pv stk) = some (wrap .i64 (0 - pv stk)) from rfl, ae, if_pos (el (by rw [d8]; omega)), hn]
 kernel_rfl
theorem Gt (n : Nat) {l : List cK} {m : List Int} {i : Nat} (hl : l.length ≤ 200) (hi : i < l.length) {A B : Int} (hx : l.getD i (0, 0, 0) = (7, A, B)) (hr : cW (7, A, B) = true) {ret stk loc inp out rds : List Int} {set held flt stp : Int} {mem : dI} (hs : stk.length ≤ 16) (hd : 1 ≤ stk.length) {mt : Int} : dH n l m (7, A, B) mt ⟨ret, (i : Int), stk, loc, inp, out, set, rds, held, flt, stp⟩ mem := by
 have h0 : decide ((l.length : Int) > 0) = true := af (by omega)
 have hi2 : (decide (0 ≤ (i : Int)) && decide ((i : Int) < (l.length : Int))) = true := cO hi
 have hx2 : l.getD ((i : Int)).toNat (0, 0, 0) = (7, A, B) := by rw [ai]; exact hx
 have hn := dJ (show i < 1000000 by omega)
 have hb : jU n (pv stk) = some (if pv stk = 0 then 1 else 0) := by
  unfold jU fu
  by_cases h : pv stk = 0
  ·rw [if_pos (by simpa using h), if_pos h]; rfl
  ·rw [if_neg (by simpa using h), if_neg h]; rfl
 refine (Fg n (v1 := l) (v2 := m) (v3 := ret) (v5 := (i : Int)) (v6 := stk) (v7 := loc) (v8 := inp) (v9 := out) (v10 := set) (v11 := rds) (v12 := held) (v13 := flt) (v14 := stp) (v15 := mem) h0 hi2 hx2).trans ?_
 rw [eG n _ _ _ _ _ (v6 := stk) _ _ _ _ _ _ _ _ (by omega) (by omega), ae]
 simp only []
 rw [hb, ae, if_pos (el (by rw [d8]; omega)), hn]
 kernel_rfl
theorem Gu (n : Nat) {l : List cK} {m : List Int} {i : Nat} (hl : l.length ≤ 200) (hi : i < l.length) {A B : Int} (hx : l.getD i (0, 0, 0) = (8, A, B)) (hr : cW (8, A, B) = true) {ret stk loc inp out rds : List Int} {set held flt stp : Int} {mem : dI} (hs : stk.length ≤ 16) (hd : 2 ≤ stk.length) {mt : Int} : dH n l m (8, A, B) mt ⟨ret, (i : Int), stk, loc, inp, out, set, rds, held, flt, stp⟩ mem := by
 have h0 : decide ((l.length : Int) > 0) = true := af (by omega)
 have hi2 : (decide (0 ≤ (i : Int)) && decide ((i : Int) < (l.length : Int))) = true := cO hi
 have hx2 : l.getD ((i : Int)).toNat (0, 0, 0) = (8, A, B) := by rw [ai]; exact hx
 have hn := dJ (show i < 1000000 by omega)
 refine (Fh n (v1 := l) (v2 := m) (v3 := ret) (v5 := (i : Int)) (v6 := stk) (v7 := loc) (v8 := inp) (v9 := out) (v10 := set) (v11 := rds) (v12 := held) (v13 := flt) (v14 := stp) (v15 := mem) h0 hi2 hx2).trans ?_
 rw [eG n _ _ _ _ _ (v6 := stk) _ _ _ _ _ _ _ _ (by omega) (by omega), ae, eG n _ _ _ _ _ (v6 := pr stk) _ _ _ _ _ _ _ _ (by rw [d8]; omega) (by rw [d8]; omega), ae]
 simp only []
 rw [if_pos (el (by rw [d8, d8]; omega)), hn]
 kernel_rfl
theorem Gv (n : Nat) {l : List cK} {m : List Int} {i : Nat} (hl : l.length ≤ 200) (hi : i < l.length) {A B : Int} (hx : l.getD i (0, 0, 0) = (9, A, B)) (hr : cW (9, A, B) = true) {ret stk loc inp out rds : List Int} {set held flt stp : Int} {mem : dI} (hs : stk.length ≤ 16) (hd : 2 ≤ stk.length) {mt : Int} : dH n l m (9, A, B) mt ⟨ret, (i : Int), stk, loc, inp, out, set, rds, held, flt, stp⟩ mem := by
 have h0 : decide ((l.length : Int) > 0) = true := af (by omega)
 have hi2 : (decide (0 ≤ (i : Int)) && decide ((i : Int) < (l.length : Int))) = true := cO hi
 have hx2 : l.getD ((i : Int)).toNat (0, 0, 0) = (9, A, B) := by rw [ai]; exact hx
 have hn := dJ (show i < 1000000 by omega)
 refine (Fi n (v1 := l) (v2 := m) (v3 := ret) (v5 := (i : Int)) (v6 := stk) (v7 := loc) (v8 := inp) (v9 := out) (v10 := set) (v11 := rds) (v12 := held) (v13 := flt) (v14 := stp) (v15 := mem) h0 hi2 hx2).trans ?_
 rw [eG n _ _ _ _ _ (v6 := stk) _ _ _ _ _ _ _ _ (by omega) (by omega), ae, eG n _ _ _ _ _ (v6 := pr stk) _ _ _ _ _ _ _ _ (by rw [d8]; omega) (by rw [d8]; omega), ae]
 simp only []
 rw [if_pos (el (by rw [d8, d8]; omega)), hn]
 kernel_rfl
theorem Fj (n : Nat) {l : List cK} {m : List Int} {i : Nat} (hl : l.length ≤ 200) (hi : i < l.length) {A B : Int} (hx : l.getD i (0, 0, 0) = (10, A, B)) (hr : cW (10, A, B) = true) {ret stk loc inp out rds : List Int} {set held flt stp : Int} {mem : dI} (hs : stk.length ≤ 16) {mt : Int} : dH n l m (10, A, B) mt ⟨ret, (i : Int), stk, loc, inp, out, set, rds, held, flt, stp⟩ mem := by
 have h0 : decide ((l.length : Int) > 0) = true := af (by omega)
 have hi2 : (decide (0 ≤ (i : Int)) && decide ((i : Int) < (l.length : Int))) = true := cO hi
 have hx2 : l.getD ((i : Int)).toNat (0, 0, 0) = (10, A, B) := by rw [ai]; exact hx
 have hn := dJ (show i < 1000000 by omega)
 refine (EH n (v1 := l) (v2 := m) (v3 := ret) (v5 := (i : Int)) (v6 := stk) (v7 := loc) (v8 := inp) (v9 := out) (v10 := set) (v11 := rds) (v12 := held) (v13 := flt) (v14 := stp) (v15 := mem) h0 hi2 hx2).trans ?_
 rw [hn]
 kernel_rfl
theorem Fk (n : Nat) {l : List cK} {m : List Int} {i : Nat} (hl : l.length ≤ 200) (hi : i < l.length) {A B : Int} (hx : l.getD i (0, 0, 0) = (11, A, B)) (hr : cW (11, A, B) = true) {ret stk loc inp out rds : List Int} {set held flt stp : Int} {mem : dI} (hs : stk.length ≤ 16) {mt : Int} : dH n l m (11, A, B) mt ⟨ret, (i : Int), stk, loc, inp, out, set, rds, held, flt, stp⟩ mem := by
 have h0 : decide ((l.length : Int) > 0) = true := af (by omega)
 have hi2 : (decide (0 ≤ (i : Int)) && decide ((i : Int) < (l.length : Int))) = true := cO hi
 have hx2 : l.getD ((i : Int)).toNat (0, 0, 0) = (11, A, B) := by rw [ai]; exact hx
 have hn := dJ (show i < 1000000 by omega)
 have ha := jZ (by omega) hr
 refine (EI n (v1 := l) (v2 := m) (v3 := ret) (v5 := (i : Int)) (v6 := stk) (v7 := loc) (v8 := inp) (v9 := out) (v10 := set) (v11 := rds) (v12 := held) (v13 := flt) (v14 := stp) (v15 := mem) h0 hi2 hx2).trans ?_
 rw [if_pos (iZ (by omega)), if_pos (el (by omega)), hn]
 kernel_rfl
theorem Fl (n : Nat) {l : List cK} {m : List Int} {i : Nat} (hl : l.length ≤ 200) (hi : i < l.length) {A B : Int} (hx : l.getD i (0, 0, 0) = (13, A, B)) (hr : cW (13, A, B) = true) {ret stk loc inp out rds : List Int} {set held flt stp : Int} {mem : dI} (hs : stk.length ≤ 16) {mt : Int} : dH n l m (13, A, B) mt ⟨ret, (i : Int), stk, loc, inp, out, set, rds, held, flt, stp⟩ mem := by
 have h0 : decide ((l.length : Int) > 0) = true := af (by omega)
 have hi2 : (decide (0 ≤ (i : Int)) && decide ((i : Int) < (l.length : Int))) = true := cO hi
 have hx2 : l.getD ((i : Int)).toNat (0, 0, 0) = (13, A, B) := by rw [ai]; exact hx
 have hn := dJ (show i < 1000000 by omega)
 have ha := jZ (by omega) hr
 refine (EK n (v1 := l) (v2 := m) (v3 := ret) (v5 := (i : Int)) (v6 := stk) (v7 := loc) (v8 := inp) (v9 := out) (v10 := set) (v11 := rds) (v12 := held) (v13 := flt) (v14 := stp) (v15 := mem) h0 hi2 hx2).trans ?_
 rw [if_pos (iZ (by omega)), if_pos (el (by omega)), hn]
 kernel_rfl
theorem Fm (n : Nat) {l : List cK} {m : List Int} {i : Nat} (hl : l.length ≤ 200) (hi : i < l.length) {A B : Int} (hx : l.getD i (0, 0, 0) = (15, A, B)) (hr : cW (15, A, B) = true) {ret stk loc inp out rds : List Int} {set held flt stp : Int} {mem : dI} (hs : stk.length ≤ 16) {mt : Int} : dH n l m (15, A, B) mt ⟨ret, (i : Int), stk, loc, inp, out, set, rds, held, flt, stp⟩ mem := by
 have h0 : decide ((l.length : Int) > 0) = true := af (by omega)
 have hi2 : (decide (0 ≤ (i : Int)) && decide ((i : Int) < (l.length : Int))) = true := cO hi
 have hx2 : l.getD ((i : Int)).toNat (0, 0, 0) = (15, A, B) := by rw [ai]; exact hx
 have hn := dJ (show i < 1000000 by omega)
 have ha := xq (by omega) hr
 refine (EM n (v1 := l) (v2 := m) (v3 := ret) (v5 := (i : Int)) (v6 := stk) (v7 := loc) (v8 := inp) (v9 := out) (v10 := set) (v11 := rds) (v12 := held) (v13 := flt) (v14 := stp) (v15 := mem) h0 hi2 hx2).trans ?_
 rw [if_pos (iZ (by omega)), if_pos (el (by omega)), hn]
 kernel_rfl
theorem Fo (n : Nat) {l : List cK} {m : List Int} {i : Nat} (hl : l.length ≤ 200) (hi : i < l.length) {A B : Int} (hx : l.getD i (0, 0, 0) = (17, A, B)) (hr : cW (17, A, B) = true) {ret stk loc inp out rds : List Int} {set held flt stp : Int} {mem : dI} (hs : stk.length ≤ 16) {mt : Int} : dH n l m (17, A, B) mt ⟨ret, (i : Int), stk, loc, inp, out, set, rds, held, flt, stp⟩ mem := by
 have h0 : decide ((l.length : Int) > 0) = true := af (by omega)
 have hi2 : (decide (0 ≤ (i : Int)) && decide ((i : Int) < (l.length : Int))) = true := cO hi
 have hx2 : l.getD ((i : Int)).toNat (0, 0, 0) = (17, A, B) := by rw [ai]; exact hx
 have hn := dJ (show i < 1000000 by omega)
 have ha := xr (by omega) hr
 refine (EO n (v1 := l) (v2 := m) (v3 := ret) (v5 := (i : Int)) (v6 := stk) (v7 := loc) (v8 := inp) (v9 := out) (v10 := set) (v11 := rds) (v12 := held) (v13 := flt) (v14 := stp) (v15 := mem) h0 hi2 hx2).trans ?_
 rw [if_pos (iZ (by omega)), if_pos (iZ (by omega)), if_pos (el (by omega)), hn]
 kernel_rfl
theorem Fp (n : Nat) {l : List cK} {m : List Int} {i : Nat} (hl : l.length ≤ 200) (hi : i < l.length) {A B : Int} (hx : l.getD i (0, 0, 0) = (12, A, B)) (hr : cW (12, A, B) = true) {ret stk loc inp out rds : List Int} {set held flt stp : Int} {mem : dI} (hs : stk.length ≤ 16) (hd : 1 ≤ stk.length) {mt : Int} : dH n l m (12, A, B) mt ⟨ret, (i : Int), stk, loc, inp, out, set, rds, held, flt, stp⟩ mem := by
 have h0 : decide ((l.length : Int) > 0) = true := af (by omega)
 have hi2 : (decide (0 ≤ (i : Int)) && decide ((i : Int) < (l.length : Int))) = true := cO hi
 have hx2 : l.getD ((i : Int)).toNat (0, 0, 0) = (12, A, B) := by rw [ai]; exact hx
 have hn := dJ (show i < 1000000 by omega)
 have ha := jZ (by omega) hr
 refine (EJ n (v1 := l) (v2 := m) (v3 := ret) (v5 := (i : Int)) (v6 := stk) (v7 := loc) (v8 := inp) (v9 := out) (v10 := set) (v11 := rds) (v12 := held) (v13 := flt) (v14 := stp) (v15 := mem) h0 hi2 hx2).trans ?_
 rw [eG n _ _ _ _ _ (v6 := stk) _ _ _ _ _ _ _ _ (by omega) (by omega), ae, if_pos (iZ (by omega)), hn]
 kernel_rfl
theorem Fq (n : Nat) {l : List cK} {m : List Int} {i : Nat} (hl : l.length ≤ 200) (hi : i < l.length) {A B : Int} (hx : l.getD i (0, 0, 0) = (14, A, B)) (hr : cW (14, A, B) = true) {ret stk loc inp out rds : List Int} {set held flt stp : Int} {mem : dI} (hs : stk.length ≤ 16) (hd : 1 ≤ stk.length) {mt : Int} : dH n l m (14, A, B) mt ⟨ret, (i : Int), stk, loc, inp, out, set, rds, held, flt, stp⟩ mem := by
 have h0 : decide ((l.length : Int) > 0) = true := af (by omega)
 have hi2 : (decide (0 ≤ (i : Int)) && decide ((i : Int) < (l.length : Int))) = true := cO hi
 have hx2 : l.getD ((i : Int)).toNat (0, 0, 0) = (14, A, B) := by rw [ai]; exact hx
 have hn := dJ (show i < 1000000 by omega)
 have ha := jZ (by omega) hr
 refine (EL n (v1 := l) (v2 := m) (v3 := ret) (v5 := (i : Int)) (v6 := stk) (v7 := loc) (v8 := inp) (v9 := out) (v10 := set) (v11 := rds) (v12 := held) (v13 := flt) (v14 := stp) (v15 := mem) h0 hi2 hx2).trans ?_
 rw [eG n _ _ _ _ _ (v6 := stk) _ _ _ _ _ _ _ _ (by omega) (by omega), ae, if_pos (iZ (by omega)), hn]
 kernel_rfl
theorem Fr (n : Nat) {l : List cK} {m : List Int} {i : Nat} (hl : l.length ≤ 200) (hi : i < l.length) {A B : Int} (hx : l.getD i (0, 0, 0) = (16, A, B)) (hr : cW (16, A, B) = true) {ret stk loc inp out rds : List Int} {set held flt stp : Int} {mem : dI} (hs : stk.length ≤ 16) (hd : 1 ≤ stk.length) {mt : Int} : dH n l m (16, A, B) mt ⟨ret, (i : Int), stk, loc, inp, out, set, rds, held, flt, stp⟩ mem := by
 have h0 : decide ((l.length : Int) > 0) = true := af (by omega)
 have hi2 : (decide (0 ≤ (i : Int)) && decide ((i : Int) < (l.length : Int))) = true := cO hi
 have hx2 : l.getD ((i : Int)).toNat (0, 0, 0) = (16, A, B) := by rw [ai]; exact hx
 have hn := dJ (show i < 1000000 by omega)
 have ha := xq (by omega) hr
 refine (EN n (v1 := l) (v2 := m) (v3 := ret) (v5 := (i : Int)) (v6 := stk) (v7 := loc) (v8 := inp) (v9 := out) (v10 := set) (v11 := rds) (v12 := held) (v13 := flt) (v14 := stp) (v15 := mem) h0 hi2 hx2).trans ?_
 rw [eG n _ _ _ _ _ (v6 := stk) _ _ _ _ _ _ _ _ (by omega) (by omega), ae, if_pos (iZ (by omega)), if_neg (by simp; omega), hn]
 kernel_rfl
theorem Ft (n : Nat) {l : List cK} {m : List Int} {i : Nat} (hl : l.length ≤ 200) (hi : i < l.length) {A B : Int} (hx : l.getD i (0, 0, 0) = (18, A, B)) (hr : cW (18, A, B) = true) {ret stk loc inp out rds : List Int} {set held flt stp : Int} {mem : dI} (hs : stk.length ≤ 16) (hd : 1 ≤ stk.length) {mt : Int} : dH n l m (18, A, B) mt ⟨ret, (i : Int), stk, loc, inp, out, set, rds, held, flt, stp⟩ mem := by
 have h0 : decide ((l.length : Int) > 0) = true := af (by omega)
 have hi2 : (decide (0 ≤ (i : Int)) && decide ((i : Int) < (l.length : Int))) = true := cO hi
 have hx2 : l.getD ((i : Int)).toNat (0, 0, 0) = (18, A, B) := by rw [ai]; exact hx
 have hn := dJ (show i < 1000000 by omega)
 have ha := xr (by omega) hr
 refine (EP n (v1 := l) (v2 := m) (v3 := ret) (v5 := (i : Int)) (v6 := stk) (v7 := loc) (v8 := inp) (v9 := out) (v10 := set) (v11 := rds) (v12 := held) (v13 := flt) (v14 := stp) (v15 := mem) h0 hi2 hx2).trans ?_
 rw [eG n _ _ _ _ _ (v6 := stk) _ _ _ _ _ _ _ _ (by omega) (by omega), ae, if_pos (iZ (by omega)), if_pos (iZ (by omega)), hn]
 kernel_rfl
theorem Fu (n : Nat) {l : List cK} {m : List Int} {i : Nat} (hl : l.length ≤ 200) (hi : i < l.length) {A B : Int} (hx : l.getD i (0, 0, 0) = (19, A, B)) (hr : cW (19, A, B) = true) {ret stk loc inp out rds : List Int} {set held flt stp : Int} {mem : dI} (hs : stk.length ≤ 16) {mt : Int} : dH n l m (19, A, B) mt ⟨ret, (i : Int), stk, loc, inp, out, set, rds, held, flt, stp⟩ mem := by
 have h0 : decide ((l.length : Int) > 0) = true := af (by omega)
 have hi2 : (decide (0 ≤ (i : Int)) && decide ((i : Int) < (l.length : Int))) = true := cO hi
 have hx2 : l.getD ((i : Int)).toNat (0, 0, 0) = (19, A, B) := by rw [ai]; exact hx
 have hn := dJ (show i < 1000000 by omega)
 have ha := oQ (.inl rfl) hr
 refine (EQ n (v1 := l) (v2 := m) (v3 := ret) (v5 := (i : Int)) (v6 := stk) (v7 := loc) (v8 := inp) (v9 := out) (v10 := set) (v11 := rds) (v12 := held) (v13 := flt) (v14 := stp) (v15 := mem) h0 hi2 hx2).trans ?_
 rw [hn, dL (show -9223372036854775808 ≤ (i : Int) + 1 + A by omega) (by omega)]
 kernel_rfl
theorem Fv (n : Nat) {l : List cK} {m : List Int} {i : Nat} (hl : l.length ≤ 200) (hi : i < l.length) {A B : Int} (hx : l.getD i (0, 0, 0) = (20, A, B)) (hr : cW (20, A, B) = true) {ret stk loc inp out rds : List Int} {set held flt stp : Int} {mem : dI} (hs : stk.length ≤ 16) (hd : 1 ≤ stk.length) {mt : Int} : dH n l m (20, A, B) mt ⟨ret, (i : Int), stk, loc, inp, out, set, rds, held, flt, stp⟩ mem := by
 have h0 : decide ((l.length : Int) > 0) = true := af (by omega)
 have hi2 : (decide (0 ≤ (i : Int)) && decide ((i : Int) < (l.length : Int))) = true := cO hi
 have hx2 : l.getD ((i : Int)).toNat (0, 0, 0) = (20, A, B) := by rw [ai]; exact hx
 have hn := dJ (show i < 1000000 by omega)
 have ha := oQ (.inr rfl) hr
 refine (ER n (v1 := l) (v2 := m) (v3 := ret) (v5 := (i : Int)) (v6 := stk) (v7 := loc) (v8 := inp) (v9 := out) (v10 := set) (v11 := rds) (v12 := held) (v13 := flt) (v14 := stp) (v15 := mem) h0 hi2 hx2).trans ?_
 rw [eG n _ _ _ _ _ (v6 := stk) _ _ _ _ _ _ _ _ (by omega) (by omega), ae]
 simp only []
 rw [hn, dL (show -9223372036854775808 ≤ (i : Int) + 1 + A by omega) (by omega)]
 by_cases h : pv stk = 0
 ·rw [if_pos (by simpa using h)]
  unfold eh
  rw [show em (20, A, B) mt ⟨ret, (i : Int), stk, loc, inp, out, set, rds, held, flt, stp⟩ = (i : Int) + 1 + A by
   unfold em
   rw [if_neg (show ¬ (20 : Int) = 19 by decide), if_pos rfl, if_pos h]]
  kernel_rfl
 ·rw [if_neg (by simpa using h)]
  unfold eh
  rw [show em (20, A, B) mt ⟨ret, (i : Int), stk, loc, inp, out, set, rds, held, flt, stp⟩ = (i : Int) + 1 by
   unfold em
   rw [if_neg (show ¬ (20 : Int) = 19 by decide), if_pos rfl, if_neg h]]
  kernel_rfl
theorem Fw (n : Nat) {l : List cK} {m : List Int} {i : Nat} (hl : l.length ≤ 200) (hi : i < l.length) {A B : Int} (hx : l.getD i (0, 0, 0) = (21, A, B)) (hr : cW (21, A, B) = true) {ret stk loc inp out rds : List Int} {set held flt stp : Int} {mem : dI} (hs : stk.length ≤ 16) (hd : rds.length ≤ 200) {mt : Int} : dH n l m (21, A, B) mt ⟨ret, (i : Int), stk, loc, inp, out, set, rds, held, flt, stp⟩ mem := by
 have h0 : decide ((l.length : Int) > 0) = true := af (by omega)
 have hi2 : (decide (0 ≤ (i : Int)) && decide ((i : Int) < (l.length : Int))) = true := cO hi
 have hx2 : l.getD ((i : Int)).toNat (0, 0, 0) = (21, A, B) := by rw [ai]; exact hx
 have hn := dJ (show i < 1000000 by omega)
 refine (ES n (v1 := l) (v2 := m) (v3 := ret) (v5 := (i : Int)) (v6 := stk) (v7 := loc) (v8 := inp) (v9 := out) (v10 := set) (v11 := rds) (v12 := held) (v13 := flt) (v14 := stp) (v15 := mem) h0 hi2 hx2).trans ?_
 rw [if_pos (el (by omega)), hn]
 kernel_rfl
theorem Fx (n : Nat) {l : List cK} {m : List Int} {i : Nat} (hl : l.length ≤ 200) (hi : i < l.length) {A B : Int} (hx : l.getD i (0, 0, 0) = (22, A, B)) (hr : cW (22, A, B) = true) {ret stk loc inp out rds : List Int} {set held flt stp : Int} {mem : dI} (hs : stk.length ≤ 16) {r0 : List Int} {r : Int} (hrd : rds = r0 ++ [r]) (hr1 : 1 ≤ r ∧ r ≤ 1000) (hd : r0.length ≤ 200) (hm : m.length = l.length) {k : Nat} (hk : m.getD i 0 = (k : Int)) (hk2 : k < i) {mt : Int} (hmt : mt = m.getD i 0) : dH n l m (22, A, B) mt ⟨ret, (i : Int), stk, loc, inp, out, set, rds, held, flt, stp⟩ mem := by
 have h0 : decide ((l.length : Int) > 0) = true := af (by omega)
 have hi2 : (decide (0 ≤ (i : Int)) && decide ((i : Int) < (l.length : Int))) = true := cO hi
 have hx2 : l.getD ((i : Int)).toNat (0, 0, 0) = (22, A, B) := by rw [ai]; exact hx
 have hn := dJ (show i < 1000000 by omega)
 have hlen : (r0 ++ [r]).length = r0.length + 1 := by simp
 subst hrd
 have e1 : wrap .i64 (((r0 ++ [r]).length : Int) - 1) = (r0.length : Int) := by
  rw [dL (by omega) (by omega)]; omega
 have e2 : (r0 ++ [r]).getD r0.length 0 = r := by
  have := fx r0 r
  unfold pv at this
  rw [hlen, Nat.add_sub_cancel] at this
  exact this
 have e3 : wrap .i64 (r - 1) = r - 1 := dL (by omega) (by omega)
 have e4 : (r0 ++ [r - 1]).getD r0.length 0 = r - 1 := by
  have := fx r0 (r - 1)
  unfold pv at this
  rw [show (r0 ++ [r - 1]).length = r0.length + 1 by simp, Nat.add_sub_cancel] at this
  exact this
 have e5 : (r0 ++ [r - 1]).length = r0.length + 1 := by simp
 have e6 : (r0 ++ [r - 1]).take r0.length = r0 := by rw [List.take_left]
 have a1 : r - 1 > 0 → em (22, A, B) mt ⟨ret, (i : Int), stk, loc, inp, out, set, r0 ++ [r], held, flt, stp⟩ = (k : Int) + 1 ∧ jr (22, A, B) ⟨ret, (i : Int), stk, loc, inp, out, set, r0 ++ [r], held, flt, stp⟩ = r0 ++ [r - 1] := fun h => by
  unfold em jr
  simp only [fx, f0]
  simp only [if_true, if_pos h, hmt, hk]
  exact ⟨rfl, rfl⟩
 have a2 : ¬ r - 1 > 0 → em (22, A, B) mt ⟨ret, (i : Int), stk, loc, inp, out, set, r0 ++ [r], held, flt, stp⟩ = (i : Int) + 1 ∧ jr (22, A, B) ⟨ret, (i : Int), stk, loc, inp, out, set, r0 ++ [r], held, flt, stp⟩ = r0 := fun h => by
  unfold em jr
  simp only [fx, f0]
  simp only [if_true, if_neg h]
  exact ⟨rfl, rfl⟩
 refine (ET n (v1 := l) (v2 := m) (v3 := ret) (v5 := (i : Int)) (v6 := stk) (v7 := loc) (v8 := inp) (v9 := out) (v10 := set) (v11 := r0 ++ [r]) (v12 := held) (v13 := flt) (v14 := stp) (v15 := mem) h0 hi2 hx2).trans ?_
 rw [e1]
 simp only [ai, e2, e3, BE, e4, bp, e6, hk]
 rw [if_pos (cO (by omega)), if_pos (cO (by omega)), if_pos (cO (by omega)), hn, dJ (show k < 1000000 by omega)]
 by_cases h : r - 1 > 0
 ·rw [if_pos (af h), if_pos (cO (by omega))]
  unfold eh
  rw [(a1 h).1, (a1 h).2]
  kernel_rfl
 ·rw [if_neg (by simpa using h), if_pos (by simp only [e5, ag, ak]; omega)]
  unfold eh
  rw [(a2 h).1, (a2 h).2]
  kernel_rfl
theorem Fy (n : Nat) {l : List cK} {m : List Int} {i : Nat} (hl : l.length ≤ 200) (hi : i < l.length) {A B : Int} (hx : l.getD i (0, 0, 0) = (23, A, B)) (hr : cW (23, A, B) = true) {ret stk loc inp out rds : List Int} {set held flt stp : Int} {mem : dI} (hs : stk.length ≤ 16) {mt : Int} : dH n l m (23, A, B) mt ⟨ret, (i : Int), stk, loc, inp, out, set, rds, held, flt, stp⟩ mem := by
 have h0 : decide ((l.length : Int) > 0) = true := af (by omega)
 have hi2 : (decide (0 ≤ (i : Int)) && decide ((i : Int) < (l.length : Int))) = true := cO hi
 have hx2 : l.getD ((i : Int)).toNat (0, 0, 0) = (23, A, B) := by rw [ai]; exact hx
 have hn := dJ (show i < 1000000 by omega)
 have ha := jZ (by omega) hr
 refine (EU n (v1 := l) (v2 := m) (v3 := ret) (v5 := (i : Int)) (v6 := stk) (v7 := loc) (v8 := inp) (v9 := out) (v10 := set) (v11 := rds) (v12 := held) (v13 := flt) (v14 := stp) (v15 := mem) h0 hi2 hx2).trans ?_
 rw [if_neg (by simp; omega), hn]
 kernel_rfl
theorem Fz (n : Nat) {l : List cK} {m : List Int} {i : Nat} (hl : l.length ≤ 200) (hi : i < l.length) {A B : Int} (hx : l.getD i (0, 0, 0) = (24, A, B)) (hr : cW (24, A, B) = true) {ret stk loc inp out rds : List Int} {set held flt stp : Int} {mem : dI} (hs : stk.length ≤ 16) {mt : Int} : dH n l m (24, A, B) mt ⟨ret, (i : Int), stk, loc, inp, out, set, rds, held, flt, stp⟩ mem := by
 have h0 : decide ((l.length : Int) > 0) = true := af (by omega)
 have hi2 : (decide (0 ≤ (i : Int)) && decide ((i : Int) < (l.length : Int))) = true := cO hi
 have hx2 : l.getD ((i : Int)).toNat (0, 0, 0) = (24, A, B) := by rw [ai]; exact hx
 have hn := dJ (show i < 1000000 by omega)
 have ha := jZ (by omega) hr
 refine (EV n (v1 := l) (v2 := m) (v3 := ret) (v5 := (i : Int)) (v6 := stk) (v7 := loc) (v8 := inp) (v9 := out) (v10 := set) (v11 := rds) (v12 := held) (v13 := flt) (v14 := stp) (v15 := mem) h0 hi2 hx2).trans ?_
 rw [if_neg (by simp; omega), hn]
 kernel_rfl
theorem FA (n : Nat) {l : List cK} {m : List Int} {i : Nat} (hl : l.length ≤ 200) (hi : i < l.length) {A B : Int} (hx : l.getD i (0, 0, 0) = (25, A, B)) (hr : cW (25, A, B) = true) {ret stk loc inp out rds : List Int} {set held flt stp : Int} {mem : dI} (hs : stk.length ≤ 16) {mt : Int} : dH n l m (25, A, B) mt ⟨ret, (i : Int), stk, loc, inp, out, set, rds, held, flt, stp⟩ mem := by
 have h0 : decide ((l.length : Int) > 0) = true := af (by omega)
 have hi2 : (decide (0 ≤ (i : Int)) && decide ((i : Int) < (l.length : Int))) = true := cO hi
 have hx2 : l.getD ((i : Int)).toNat (0, 0, 0) = (25, A, B) := by rw [ai]; exact hx
 have hn := dJ (show i < 1000000 by omega)
 refine (EW n (v1 := l) (v2 := m) (v3 := ret) (v5 := (i : Int)) (v6 := stk) (v7 := loc) (v8 := inp) (v9 := out) (v10 := set) (v11 := rds) (v12 := held) (v13 := flt) (v14 := stp) (v15 := mem) h0 hi2 hx2).trans ?_
 rw [hn]
 kernel_rfl
theorem zT {x y : Int} (hx : x = 0 ∨ x = 1) (hy : y = 0 ∨ y = 1) : (bits .and .i64 y x = 0 ∨ bits .and .i64 y x = 1) ∧ (bits .or .i64 y x = 0 ∨ bits .or .i64 y x = 1) := by
 rcases hx with rfl | rfl <;> rcases hy with rfl | rfl
 ·exact ⟨.inl (by kernel_rfl), .inl (by kernel_rfl)⟩
 ·exact ⟨.inl (by kernel_rfl), .inr (by kernel_rfl)⟩
 ·exact ⟨.inl (by kernel_rfl), .inr (by kernel_rfl)⟩
 ·exact ⟨.inr (by kernel_rfl), .inr (by kernel_rfl)⟩
theorem xt {o A B : Int} {t : ByteArray} {S : MS} {mem : dI} (hr : cW (o, A, B) = true) (h : (cV (o, A, B) t).2 = 0) (hv : VT t S.stk) :
  VT (cV (o, A, B) t).1 (fT (o, A, B) S mem) ∧ (o = 2 ∨ o = 3 ∨ o = 6 ∨ o = 7 ∨ o = 12 ∨ o = 14 ∨ o = 16 ∨ o = 18 ∨ o = 20 → 1 ≤ S.stk.length) ∧ (o = 4 ∨ o = 5 ∨ o = 8 ∨ o = 9 → 2 ≤ S.stk.length) := by
 have hA := fun (h5 : o = 5) => wk (h5 ▸ hr)
 have in_ : ∀ y, (o = 1 ∨ o = 11 ∨ o = 13 ∨ o = 15 ∨ o = 17) → fT (o, A, B) S mem = S.stk ++ [y] → VT (cV (o, A, B) t).1 (fT (o, A, B) S mem) ∧ (o = 2 ∨ o = 3 ∨ o = 6 ∨ o = 7 ∨ o = 12 ∨ o = 14 ∨ o = 16 ∨ o = 18 ∨ o = 20 → 1 ≤ S.stk.length) ∧ (o = 4 ∨ o = 5 ∨ o = 8 ∨ o = 9 → 2 ≤ S.stk.length) := fun y ho e => by
  rw [e]
  exact ⟨EG h hv ho y, fun h => by omega, fun h => by omega⟩
 have out : (o = 2 ∨ o = 12 ∨ o = 14 ∨ o = 16 ∨ o = 18 ∨ o = 20) → VT (cV (o, A, B) t).1 (fT (o, A, B) S mem) ∧ (o = 2 ∨ o = 3 ∨ o = 6 ∨ o = 7 ∨ o = 12 ∨ o = 14 ∨ o = 16 ∨ o = 18 ∨ o = 20 → 1 ≤ S.stk.length) ∧ (o = 4 ∨ o = 5 ∨ o = 8 ∨ o = 9 → 2 ≤ S.stk.length) := fun ho => by
  obtain ⟨r, x, e1, e2⟩ := D2 h hv ho
  have e : fT (o, A, B) S mem = pr S.stk := by
   unfold fT
   rw [if_neg (by show ¬ o = 1; omega), if_pos (show o = 2 ∨ o = 12 ∨ o = 14 ∨ o = 16 ∨ o = 18 ∨ o = 20 from ho)]
  rw [e, e1, f0]
  exact ⟨e2, fun _ => by simp, fun h => by omega⟩
 have no : (o = 19 ∨ o = 21 ∨ o = 22 ∨ o = 23 ∨ o = 24 ∨ o = 25) → fT (o, A, B) S mem = S.stk → VT (cV (o, A, B) t).1 (fT (o, A, B) S mem) ∧ (o = 2 ∨ o = 3 ∨ o = 6 ∨ o = 7 ∨ o = 12 ∨ o = 14 ∨ o = 16 ∨ o = 18 ∨ o = 20 → 1 ≤ S.stk.length) ∧ (o = 4 ∨ o = 5 ∨ o = 8 ∨ o = 9 → 2 ≤ S.stk.length) := fun ho e => by
  rw [e]
  exact ⟨B9 h hv ho, fun h => by omega, fun h => by omega⟩
 rcases kV (jp hr) with ho | ho | ho | ho | ho | ho | ho | ho | ho | ho | ho | ho | ho | ho | ho | ho | ho | ho | ho | ho | ho | ho | ho | ho | ho
 ·exact in_ A (by omega) (by subst ho; kernel_rfl)
 ·exact out (by omega)
 ·obtain ⟨r, x, e1, e2⟩ := D3 h hv ho
  have e : fT (o, A, B) S mem = S.stk ++ [pv S.stk] := by subst ho; kernel_rfl
  rw [e, e1, fx, aI]
  exact ⟨e2, fun _ => by simp, fun h => by omega⟩
 ·obtain ⟨r, x, y, e1, e2⟩ := Cz h hv ho
  have e : fT (o, A, B) S mem = (pr (pr S.stk) ++ [pv S.stk]) ++ [pv (pr S.stk)] := by subst ho; kernel_rfl
  rw [e, e1, pA, pB, fx, f0, aI]
  exact ⟨e2, fun h => by omega, fun _ => by simp⟩
 ·obtain ⟨r, x, y, e1, e2⟩ := D6 h hv ho
  have e : fT (o, A, B) S mem = pr (pr S.stk) ++ [(ny A (pv (pr S.stk)) (pv S.stk)).1] := by subst ho; kernel_rfl
  rw [e, e1, pA, pB, fx, f0]
  exact ⟨e2 _ (zS 0 (hA ho) _ _).2, fun h => by omega, fun _ => by simp⟩
 ·obtain ⟨r, x, e1, e2⟩ := D4 h hv ho
  have e : fT (o, A, B) S mem = pr S.stk ++ [wrap .i64 (0 - pv S.stk)] := by subst ho; kernel_rfl
  rw [e, e1, f0]
  exact ⟨e2 _, fun _ => by simp, fun h => by omega⟩
 ·obtain ⟨r, x, e1, e2, e3⟩ := D5 h hv ho
  have e : fT (o, A, B) S mem = pr S.stk ++ [if pv S.stk = 0 then 1 else 0] := by subst ho; kernel_rfl
  rw [e, e1, f0]
  exact ⟨e3 _ (by split; exact .inr rfl; exact .inl rfl), fun _ => by simp, fun h => by omega⟩
 ·obtain ⟨r, x, y, e1, e2, e3, e4⟩ := zP h hv (.inl ho)
  have e : fT (o, A, B) S mem = pr (pr S.stk) ++ [bits .and .i64 (pv S.stk) (pv (pr S.stk))] := by subst ho; kernel_rfl
  rw [e, e1, pA, pB, fx, f0]
  exact ⟨e4 _ (zT e2 e3).1, fun h => by omega, fun _ => by simp⟩
 ·obtain ⟨r, x, y, e1, e2, e3, e4⟩ := zP h hv (.inr ho)
  have e : fT (o, A, B) S mem = pr (pr S.stk) ++ [bits .or .i64 (pv S.stk) (pv (pr S.stk))] := by subst ho; kernel_rfl
  rw [e, e1, pA, pB, fx, f0]
  exact ⟨e4 _ (zT e2 e3).2, fun h => by omega, fun _ => by simp⟩
 ·have e : fT (o, A, B) S mem = S.stk := by subst ho; kernel_rfl
  rw [e]
  exact ⟨Cy h hv ho, fun h => by omega, fun h => by omega⟩
 ·exact in_ (S.loc.getD A.toNat 0) (by omega) (by subst ho; kernel_rfl)
 ·exact out (by omega)
 ·exact in_ (S.ret.getD A.toNat 0) (by omega) (by subst ho; kernel_rfl)
 ·exact out (by omega)
 ·exact in_ (S.inp.getD A.toNat 0) (by omega) (by subst ho; kernel_rfl)
 ·exact out (by omega)
 ·exact in_ ((mem.getD A.toNat z8).getD B.toNat 0) (by omega) (by subst ho; kernel_rfl)
 ·exact out (by omega)
 ·exact no (by omega) (by subst ho; kernel_rfl)
 ·exact out (by omega)
 ·exact no (by omega) (by subst ho; kernel_rfl)
 ·exact no (by omega) (by subst ho; kernel_rfl)
 ·exact no (by omega) (by subst ho; kernel_rfl)
 ·exact no (by omega) (by subst ho; kernel_rfl)
 ·exact no (by omega) (by subst ho; kernel_rfl)
theorem Ok.len {l : List cK} {m h : List Int} {st : List ByteArray} (hR : Row l m h st) {s : MS} {i : Nat} {rs : List (Nat × Int)} (hO : Ok l m st s i rs) : s.stk.length ≤ 16 ∧ s.rds.length ≤ 200 ∧ l.length ≤ 200 := by
 have h1 := hO.vt.len
 have h2 := hR.stk.sz i
 have h3 := hR.fine.len
 have h4 : rs.length ≤ i := by
  have e : (rs.map (·.1)).length = rs.length := b6 _
  rw [← e, hO.lps]
  unfold Go.Proofs.Dk.lps
  exact aN (List.length_filter_le _ _) (by rw [List.length_range]; exact aj _)
 have h5 := hO.lt
 rw [hO.rds, b6]
 omega
theorem CA {l : List cK} {m h : List Int} {st : List ByteArray} (hR : Row l m h st) {s : MS} {i : Nat} {rs : List (Nat × Int)} (hO : Ok l m st s i rs) (n : Nat) (mem : dI) : dH n l m (l.getD i (0, 0, 0)) (m.getD i 0) s mem := by
 obtain ⟨hstk, hrl, hl⟩ := hO.len hR
 have hi := hO.lt
 have hF := hR.fine
 have hr := hF.right hi
 have hok := hR.stk.ok i hi
 have hlast : opAt l i = 22 → ∃ (k : Nat) (r0 : List Int) (r : Int), m.getD i 0 = (k : Int) ∧ k < i ∧ s.rds = r0 ++ [r] ∧ 1 ≤ r ∧ r ≤ 1000 ∧ r0.length ≤ 200 := fun h22 => by
  obtain ⟨k, a1, a2, a3, a4, a5, a6, a7⟩ := ry hF hi h22
  have e := hO.lps
  rw [a5] at e
  obtain ⟨rs0, rs1, e1, e2, e3⟩ := List.map_eq_append_iff.1 e
  obtain ⟨q, e4, e5⟩ := List.map_eq_singleton_iff.1 e3
  have hb := hO.rnd q (by rw [e1, e4]; simp)
  have hA := yr (hF.right (show k < l.length by omega)) a3
  rw [e5] at hb
  refine ⟨k, rs0.map (·.2), q.2, a1, a2, by rw [hO.rds, e1, e4]; simp, hb.1, by omega, ?_⟩
  have := hrl
  rw [hO.rds, e1, e4] at this
  simp at this ⊢
  omega
 have hv := xt (o := (l.getD i (0, 0, 0)).1) (A := (l.getD i (0, 0, 0)).2.1) (B := (l.getD i (0, 0, 0)).2.2) (S := s) (mem := mem) hr hok hO.vt
 have d1 := hv.2.1
 have d2 := hv.2.2
 have hp := hO.place
 clear hv hok hO
 unfold opAt at hlast
 generalize hx : l.getD i (0, 0, 0) = x at hr d1 d2 hlast
 obtain ⟨o, A, B⟩ := x
 obtain ⟨ret, at_, stk, loc, inp, out, set, rds, held, flt, stp⟩ := s
 simp only at hstk hrl d1 d2 hp hlast
 subst hp
 rcases kV (jp hr) with rfl | rfl | rfl | rfl | rfl | rfl | rfl | rfl | rfl | rfl | rfl | rfl | rfl | rfl | rfl | rfl | rfl | rfl | rfl | rfl | rfl | rfl | rfl | rfl | rfl
 ·exact Gm n hl hi hx hr hstk
 ·exact Gn n hl hi hx hr hstk (d1 (by decide))
 ·exact Gp n hl hi hx hr hstk (d1 (by decide))
 ·exact Gq n hl hi hx hr hstk (d2 (by decide))
 ·exact Gr n hl hi hx hr hstk (d2 (by decide))
 ·exact Gs n hl hi hx hr hstk (d1 (by decide))
 ·exact Gt n hl hi hx hr hstk (d1 (by decide))
 ·exact Gu n hl hi hx hr hstk (d2 (by decide))
 ·exact Gv n hl hi hx hr hstk (d2 (by decide))
 ·exact Fj n hl hi hx hr hstk
 ·exact Fk n hl hi hx hr hstk
 ·exact Fp n hl hi hx hr hstk (d1 (by decide))
 ·exact Fl n hl hi hx hr hstk
 ·exact Fq n hl hi hx hr hstk (d1 (by decide))
 ·exact Fm n hl hi hx hr hstk
 ·exact Fr n hl hi hx hr hstk (d1 (by decide))
 ·exact Fo n hl hi hx hr hstk
 ·exact Ft n hl hi hx hr hstk (d1 (by decide))
 ·exact Fu n hl hi hx hr hstk
 ·exact Fv n hl hi hx hr hstk (d1 (by decide))
 ·exact Fw n hl hi hx hr hstk hrl
 ·obtain ⟨k, r0, r, e1, e2, e3, e4, e5, e6⟩ := hlast rfl
  exact Fx n hl hi hx hr hstk e3 ⟨e4, e5⟩ e6 hF.nest.hm e1 e2 rfl
 ·exact Fy n hl hi hx hr hstk
 ·exact Fz n hl hi hx hr hstk
 ·exact FA n hl hi hx hr hstk
theorem pC {A : Int} {a : Nat} (h : A = (a : Int)) (ha : a ≤ 7) : o6 A = ((2 ^ a : Nat) : Int) := by
 subst h
 exact lD ha
theorem uk (v a : Nat) (hv : v < 256) (ha : a ≤ 7) : ∃ w : Nat, bits .andNot .i64 (v : Int) ((2 ^ a : Nat) : Int) = (w : Int) ∧ w < 256 ∧ ∀ b, w.testBit b = (v.testBit b && decide (b ≠ a)) := by
 have h2 : 2 ^ a < 2 ^ 8 := Nat.pow_lt_pow_right (by omega) (by omega)
 have key : bits .andNot .i64 (v : Int) ((2 ^ a : Nat) : Int) = IntKind.i64.wrap (((BitVec.ofInt 64 (v : Int)) &&& ~~~ (BitVec.ofInt 64 ((2 ^ a : Nat) : Int))).toNat : Int) := rfl
 have hw : ∀ b, ((BitVec.ofInt 64 (v : Int)) &&& ~~~ (BitVec.ofInt 64 ((2 ^ a : Nat) : Int))).toNat.testBit b = (v.testBit b && decide (b ≠ a)) := fun b => by
  rw [BitVec.toNat_and, Nat.testBit_and, ofInt_u64 v (by omega)]
  by_cases hb : b < 64
  ·rw [BitVec.testBit_toNat, BitVec.getLsbD_not, ← BitVec.testBit_toNat, ofInt_u64 _ (by omega), Nat.testBit_two_pow, af hb, aQ]
   congr 1
   by_cases hab : a = b
   ·rw [af hab, aK (by omega)]; rfl
   ·rw [aK hab, af (by omega)]; rfl
  ·have : v.testBit b = false := Nat.testBit_lt_two_pow (bc hv (by
    have := Nat.pow_le_pow_right (n := 2) (by decide) (show 8 ≤ b by omega)
    omega))
   rw [this, ba, ba]
 generalize hW : ((BitVec.ofInt 64 (v : Int)) &&& ~~~ (BitVec.ofInt 64 ((2 ^ a : Nat) : Int))).toNat = W at key hw
 have hlt : W < 256 := by
  have hle : W ≤ v := by
   rw [← hW, BitVec.toNat_and, ofInt_u64 v (by omega)]
   exact Nat.and_le_left
  omega
 refine ⟨W, ?_, hlt, hw⟩
 rw [key, dL (by omega) (by omega)]
structure NextI (l : List cK) (m : List Int) (st : List ByteArray) (i : Nat) (rs : List (Nat × Int)) (s' : MS) : Prop where
 ex : ∃ q rs', Ok l m st s' q rs' ∧ qe l m q rs' + 1 ≤ qe l m i rs
theorem jt {l : List cK} {i : Nat} (h19 : opAt l i ≠ 19) (h25 : opAt l i ≠ 25) : i + 1 ∈ dG l i := by
 unfold dG
 rw [if_neg h19]
 split
 ·exact aH ..
 ·exact aw.2 rfl
theorem BF {l : List cK} {m h : List Int} {st : List ByteArray} (hR : Row l m h st) {s s' : MS} {i : Nat} {rs : List (Nat × Int)} (hO : Ok l m st s i rs) (h21 : opAt l i ≠ 21) (h22 : opAt l i ≠ 22) (h23 : opAt l i ≠ 23) (h24 : opAt l i ≠ 24) {q : Nat} (hq : q ∈ dG l i)
  (e1 : s'.at_ = (q : Int)) (e2 : VT (cV (l.getD i (0, 0, 0)) (nT st i)).1 s'.stk) (e3 : s'.rds = s.rds) (e4 : s'.held = s.held) : NextI l m st i rs s' := by
 have hF := hR.fine
 have hi := hO.lt
 have hql := hF.next hi q hq
 have hlps : lps l m q = lps l m i ∧ ∀ v, HeldB l m i v → HeldB l m q v := by
  unfold dG at hq
  split at hq
  ·rename_i h19
   rw [aw] at hq
   subst hq
   exact ⟨wr hF hi (.inl h19), fun v hv => hv.jump hF hi (.inl h19)⟩
  ·split at hq
   ·rename_i h20
    rw [az, aw] at hq
    rcases hq with rfl | rfl
    ·exact ⟨oT hF hi h21 h22 h24, fun v hv => hv.plain hF hi h23 h22 h24⟩
    ·exact ⟨wr hF hi (.inr h20), fun v hv => hv.jump hF hi (.inr h20)⟩
   ·split at hq
    ·cases hq
    ·rw [aw] at hq
     subst hq
     exact ⟨oT hF hi h21 h22 h24, fun v hv => hv.plain hF hi h23 h22 h24⟩
 refine ⟨q, rs, ⟨e1, hql, ?_, by rw [hlps.1]; exact hO.lps, by rw [e3]; exact hO.rds, hO.rnd, ?_⟩, wt hF hi (wq hq) hO.lps⟩
 ·rw [hR.stk.nx i hi q hq]
  exact e2
 ·obtain ⟨v, v1, v2⟩ := hO.held
  exact ⟨v, e4.trans v1, hlps.2 v v2⟩
theorem zU {l : List cK} {m h : List Int} {st : List ByteArray} (hR : Row l m h st) {s : MS} {i : Nat} {rs : List (Nat × Int)} (hO : Ok l m st s i rs) (mem : dI) (h25 : opAt l i ≠ 25) : NextI l m st i rs (eh (l.getD i (0, 0, 0)) (m.getD i 0) s mem) := by
 have hi := hO.lt
 have hF := hR.fine
 have hr := hF.right hi
 have hok := hR.stk.ok i hi
 have hp := hO.place
 have hv := (xt (o := (l.getD i (0, 0, 0)).1) (A := (l.getD i (0, 0, 0)).2.1) (B := (l.getD i (0, 0, 0)).2.2) (S := s) (mem := mem) hr hok hO.vt).1
 have hx : l.getD i (0, 0, 0) = (opAt l i, cQ l i, (l.getD i (0, 0, 0)).2.2) := rfl
 have hstk : VT (cV (l.getD i (0, 0, 0)) (nT st i)).1 (eh (l.getD i (0, 0, 0)) (m.getD i 0) s mem).stk := hv
 have hrds : opAt l i ≠ 21 → opAt l i ≠ 22 → (eh (l.getD i (0, 0, 0)) (m.getD i 0) s mem).rds = s.rds := fun h1 h2 => by
  show jr _ _ = _
  unfold jr
  rw [if_neg h1, if_neg h2]
 have hheld : opAt l i ≠ 23 → opAt l i ≠ 24 → (eh (l.getD i (0, 0, 0)) (m.getD i 0) s mem).held = s.held := fun h1 h2 => by
  show (if _ then _ else if _ then _ else _) = _
  rw [if_neg h1, if_neg h2]
 have hon : opAt l i ≠ 19 → opAt l i ≠ 20 → opAt l i ≠ 22 → (eh (l.getD i (0, 0, 0)) (m.getD i 0) s mem).at_ = ((i + 1 : Nat) : Int) := fun h1 h2 h3 => by
  show em _ _ _ = _
  unfold em
  rw [if_neg h1, if_neg h2, if_neg h3, hp]
  rfl
 by_cases h22 : opAt l i = 22
 ·obtain ⟨k, a1, a2, a3, a4, a5, a6, a7⟩ := ry hF hi h22
  obtain ⟨k', b1, b2, b3⟩ : ∃ k' : Nat, m.getD i 0 = (k' : Int) ∧ (∀ v, HeldB l m i v → HeldB l m (k' + 1) v) ∧ (∀ v, HeldB l m i v → HeldB l m (i + 1) v) := by
   refine ⟨k, a1, fun v hv => ?_, fun v hv => ?_⟩
   ·obtain ⟨k2, c1, c2, c3⟩ := hv.next hF hi h22
    have : k = k2 := by rw [a1] at c1; omega
    rw [this]; exact c2
   ·obtain ⟨k2, c1, c2, c3⟩ := hv.next hF hi h22
    exact c3
  have hkk : k = k' := by rw [a1] at b1; omega
  subst hkk
  obtain ⟨v, v1, v2⟩ := hO.held
  have e := hO.lps
  rw [a5] at e
  obtain ⟨rs0, rs1, e1, e2, e3⟩ := List.map_eq_append_iff.1 e
  obtain ⟨q, e4, e5⟩ := List.map_eq_singleton_iff.1 e3
  obtain ⟨qk, qr⟩ := q
  simp only at e5
  subst e5
  subst e4
  subst e1
  have hsr : s.rds = rs0.map (·.2) ++ [qr] := by rw [hO.rds]; simp
  have hb := hO.rnd (qk, qr) (by simp)
  have hph := BD hF hi a2 a3 a4 a5 e2 (r := qr)
  have hst22 := hR.stk.nt i hi h22
  rw [a1, ai] at hst22
  -- the types ahead of the loop's first instruction are those of its Next
  have hgo : nT st (qk + 1) = (cV (l.getD qk (0, 0, 0)) (nT st i)).1 := by
   rw [hR.stk.nx qk (by omega) (qk + 1) (jt (by rw [a3]; decide) (by rw [a3]; decide)), hst22]
  have hx22 : l.getD i (0, 0, 0) = (22, cQ l i, (l.getD i (0, 0, 0)).2.2) := by rw [← h22]
  have hst : (eh (l.getD i (0, 0, 0)) (m.getD i 0) s mem).stk = s.stk := by
   have e : ∀ A B, fT (22, A, B) s mem = s.stk := fun A B => by kernel_rfl
   show fT (l.getD i (0, 0, 0)) s mem = _
   rw [hx22, e]
  by_cases hq : qr - 1 > 0
  ·refine ⟨qk + 1, rs0 ++ [(qk, qr - 1)], ⟨?_, by omega, ?_, ?_, ?_, ?_, v, (hheld (by omega) (by omega)).trans v1, b2 v v2⟩, hph.1⟩
   ·show em _ _ _ = _
    unfold em
    rw [if_neg (show ¬ opAt l i = 19 by omega), if_neg (show ¬ opAt l i = 20 by omega), if_pos h22, hsr, fx, if_pos hq, a1]
    rfl
   ·rw [hst, hgo]
    have hr2 := hF.right (show qk < l.length by omega)
    have hok2 := hR.stk.ok qk (by omega)
    rw [hst22] at hok2
    exact B9 (o := (l.getD qk (0, 0, 0)).1) (A := (l.getD qk (0, 0, 0)).2.1) (B := (l.getD qk (0, 0, 0)).2.2) hok2 hO.vt (.inr (.inl a3))
   ·rw [a6]; simp [e2]
   ·show jr _ _ = _
    unfold jr
    rw [if_neg (show ¬ opAt l i = 21 by omega), if_pos h22, hsr, fx, f0, if_pos hq]
    simp
   ·intro e he
    rw [au, aw] at he
    rcases he with he | he
    ·exact hO.rnd e (aZ _ he)
    ·subst he
     exact ⟨by show 1 ≤ qr - 1; omega, by have := hb.2; show qr - 1 ≤ cQ l qk; simp only at this; omega⟩
  ·have hq1 : qr = 1 := by have := hb.1; simp only at this; omega
   have hnx := jt (l := l) (i := i) (by omega) h25
   refine ⟨i + 1, rs0, ⟨?_, hF.next hi _ hnx, ?_, ?_, ?_, fun e he => hO.rnd e (aZ _ he), v, (hheld (by omega) (by omega)).trans v1, b3 v v2⟩, hph.2 hq1⟩
   ·show em _ _ _ = _
    unfold em
    rw [if_neg (show ¬ opAt l i = 19 by omega), if_neg (show ¬ opAt l i = 20 by omega), if_pos h22, hsr, fx, if_neg hq, hp]
    rfl
   ·rw [hR.stk.nx i hi _ hnx]
    exact hstk
   ·rw [a7]; exact e2
   ·show jr _ _ = _
    unfold jr
    rw [if_neg (show ¬ opAt l i = 21 by omega), if_pos h22, hsr, fx, f0, if_neg hq]
 by_cases h21 : opAt l i = 21
 ·have hnx := jt (l := l) (i := i) (by omega) h25
  obtain ⟨v, v1, v2⟩ := hO.held
  refine ⟨i + 1, rs ++ [(i, cQ l i)], ⟨hon (by omega) (by omega) h22, hF.next hi _ hnx, ?_, ?_, ?_, ?_, v, (hheld (by omega) (by omega)).trans v1, v2.plain hF hi (by omega) h22 (by omega)⟩, BC hF hi hO.lps⟩
  ·rw [hR.stk.nx i hi _ hnx]; exact hstk
  ·rw [rx hF hi h21]; simp [hO.lps]
  ·show jr _ _ = _
   unfold jr
   rw [if_pos h21, hO.rds, List.map_append]
   rfl
  ·intro e he
   rw [au, aw] at he
   rcases he with he | he
   ·exact hO.rnd e he
   ·subst he
    exact ⟨(yr hr h21).1, Int.le_refl _⟩
 by_cases h23 : opAt l i = 23
 ·have hnx := jt (l := l) (i := i) (by omega) h25
  obtain ⟨v, v1, v2⟩ := hO.held
  obtain ⟨a, ha, ha7⟩ := nq hr (.inl h23)
  refine ⟨i + 1, rs, ⟨hon (by omega) (by omega) h22, hF.next hi _ hnx, ?_, ?_, ?_, hO.rnd, v ||| 2 ^ a, ?_, v2.lockS hF hi h23 ha ha7⟩, wt hF hi (by omega) hO.lps⟩
  ·rw [hR.stk.nx i hi _ hnx]; exact hstk
  ·rw [oT hF hi h21 h22 (by omega)]; exact hO.lps
  ·rw [hrds h21 h22]; exact hO.rds
  ·show (if _ then _ else if _ then _ else _) = _
   rw [if_pos h23, v1]
   show bits .or .i64 (v : Int) (o6 (cQ l i)) = _
   rw [pC ha ha7]
   exact wh v (2 ^ a) v2.1 (by have := Nat.pow_lt_pow_right (a := 2) (by omega) (show a < 8 by omega); omega)
 by_cases h24 : opAt l i = 24
 ·have hnx := jt (l := l) (i := i) (by omega) h25
  obtain ⟨v, v1, v2⟩ := hO.held
  have h0 := jZ (o := (l.getD i (0, 0, 0)).1) (A := (l.getD i (0, 0, 0)).2.1) (B := (l.getD i (0, 0, 0)).2.2) (by rw [show (l.getD i (0, 0, 0)).1 = 24 from h24]; omega) hr
  obtain ⟨a, ha, ha7⟩ : ∃ a : Nat, cQ l i = (a : Int) ∧ a ≤ 7 := ⟨(cQ l i).toNat, by unfold cQ; omega, by unfold cQ; omega⟩
  obtain ⟨w, w1, w2, w3⟩ := uk v a v2.1 ha7
  refine ⟨i + 1, rs, ⟨hon (by omega) (by omega) h22, hF.next hi _ hnx, ?_, ?_, ?_, hO.rnd, w, ?_, v2.unlock hF hR.rise hi h24 ha w2 w3⟩, wt hF hi (by omega) hO.lps⟩
  ·rw [hR.stk.nx i hi _ hnx]; exact hstk
  ·rw [yp hF hi h24]; exact hO.lps
  ·rw [hrds h21 h22]; exact hO.rds
  ·show (if _ then _ else if _ then _ else _) = _
   rw [if_neg h23, if_pos h24, v1]
   show bits .andNot .i64 (v : Int) (o6 (cQ l i)) = _
   rw [pC ha ha7]
   exact w1
 have key := fun {q : Nat} (hq : q ∈ dG l i) (e1 : (eh (l.getD i (0, 0, 0)) (m.getD i 0) s mem).at_ = (q : Int)) => BF hR hO h21 h22 h23 h24 hq e1 hstk (hrds h21 h22) (hheld h23 h24)
 by_cases h19 : opAt l i = 19
 ·have hj := oQ (o := (l.getD i (0, 0, 0)).1) (A := (l.getD i (0, 0, 0)).2.1) (B := (l.getD i (0, 0, 0)).2.2) (.inl h19) hr
  refine key (q := dj l i) (by unfold dG; rw [if_pos h19]; exact aw.2 rfl) ?_
  show em _ _ _ = _
  unfold em dj
  rw [if_pos h19, hp]
  omega
 by_cases h20 : opAt l i = 20
 ·have hj := oQ (o := (l.getD i (0, 0, 0)).1) (A := (l.getD i (0, 0, 0)).2.1) (B := (l.getD i (0, 0, 0)).2.2) (.inr h20) hr
  by_cases hz : pv s.stk = 0
  ·refine key (q := dj l i) (by unfold dG; rw [if_neg h19, if_pos h20]; simp) ?_
   show em _ _ _ = _
   unfold em dj
   rw [if_neg h19, if_pos h20, if_pos hz, hp]
   omega
  ·refine key (q := i + 1) (by unfold dG; rw [if_neg h19, if_pos h20]; simp) ?_
   show em _ _ _ = _
   unfold em
   rw [if_neg h19, if_pos h20, if_neg hz, hp]
   rfl
 ·exact key (q := i + 1) (jt h19 h25) (hon h19 h20 h22)
theorem pD {X R : Type} {S : (X → Option R) → X → Option R} (Q : Nat → X → Prop) (P : R → Prop) (h0 : ∀ x, ¬ Q 0 x) (h : ∀ f x F, (∀ y, Q f y → ∃ r, F y = some r ∧ P r) → Q (f + 1) x → ∃ r, S F x = some r ∧ P r) : ∀ f x, Q f x → ∃ r, it S f x = some r ∧ P r
 | 0, x, hq => absurd hq (h0 x)
 | f + 1, x, hq => h f x (it S f) (pD Q P h0 h f) hq
abbrev z16 : List Int := [0, 0, 0, 0, 0, 0, 0, 0, 0, 0, 0, 0, 0, 0, 0, 0]
abbrev wv (ret inp : List Int) : MS := ⟨ret, 0, [], z8, inp, z16, 0, [], 0, 0, 0⟩
theorem BG {l : List cK} {m h : List Int} {st : List ByteArray} (hR : Row l m h st) (ret inp : List Int) : Ok l m st (wv ret inp) 0 [] := by
 have hl := hR.fine.len
 refine ⟨rfl, by omega, ?_, rfl, rfl, (fun e he => by cases he), 0, rfl, by omega, fun b => ?_⟩
 ·rw [hR.stk.z]
  exact trivial
 ·rw [Nat.zero_testBit]
  exact ⟨(fun h => by cases h), fun ⟨k, k1, _⟩ => by have := (dX k1).1; omega⟩
theorem BH (n : Nat) {l : List cK} (hl : 0 < l.length) (m ret inp : List Int) (at_ : Int) (stk loc inp2 out : List Int) (set : Int) (rds : List Int) (held flt stp : Int) :
  fv n inp l m ret false at_ stk loc inp2 out set rds held flt stp = some (0, l, m, ret, true, 0, [], z8, inp, z16, 0, [], 0, 0, 0) := by
 unfold fv
 rw [af (show (l.length : Int) > 0 by omega), if_neg (by decide), if_neg (by decide)]
theorem Ea {l : List cK} (h : l.length ≤ 200) : (decide (0 = 0) && decide (0 = 0) && decide (l.length * 24 ≤ 140737488355328) && decide (1 ≤ 24)) = true := by simp; omega
structure CS where
 on : Bool
 s : MS
 mem : dI
def nz (l : List cK) (m : List Int) (c : CS) : CS :=
 if c.on = true then ⟨decide ((l.getD c.s.at_.toNat (0, 0, 0)).1 ≠ 25), eh (l.getD c.s.at_.toNat (0, 0, 0)) (m.getD c.s.at_.toNat 0) c.s c.mem, rz (l.getD c.s.at_.toNat (0, 0, 0)) c.s c.mem⟩ else c
structure TM where
 sw : Int
 la : Int
 co : Int
structure TOk (t : TM) : Prop where
 s0 : 0 ≤ t.sw
 s1 : t.sw ≤ 100
 l0 : 1 ≤ t.la
 l1 : t.la ≤ 100
 c0 : 1 ≤ t.co
 c1 : t.co ≤ 100
structure IS where
 ph : Int
 left : Int
 used : Int
 inn : List Int
 c : CS
def dT (t : TM) (ph left : Int) : Int × Int :=
 if left ≠ 0 then (ph, left)
 else if ph = 0 then (1, t.la) else if ph = 1 then (2, 1) else if ph = 2 then (3, t.co) else if ph = 3 then (if t.sw = 0 then (5, 1) else (4, t.sw)) else if ph = 4 then (5, 1) else (ph, left)
abbrev o7 (t : TM) : List Int := [t.sw, t.la, 1, t.co, t.sw, 1]
abbrev o8 (j1 j2 j3 : Int) (t : TM) (ph left used : Int) (inn : List Int) (l : List cK) (m : List Int) (on : Bool) (s : MS) := (j1, j2, j3, t.sw, t.la, t.co, ph, left, used, inn, o7 t, l, m, s.ret, on, s.at_, s.stk, s.loc, s.inp, s.out, s.set, s.rds, s.held, s.flt, s.stp)
theorem o9 (n : Nat) (hn : 8 ≤ n) (j1 j2 j3 : Int) {t : TM} (ht : TOk t) {ph left : Int} (h0 : 0 ≤ ph ∧ ph ≤ 5) (used : Int) (inn : List Int) (l : List cK) (m : List Int) (on : Bool) (s : MS) :
  ey n (o8 j1 j2 j3 t ph left used inn l m on s) = some (o8 j1 j2 j3 t (dT t ph left).1 (dT t ph left).2 used inn l m on s) := by
 have key : ∃ r, ey n (o8 j1 j2 j3 t ph left used inn l m on s) = some r ∧ r = o8 j1 j2 j3 t (dT t ph left).1 (dT t ph left).2 used inn l m on s := by
  show ∃ r, it _ n _ = some r ∧ _
  refine pD (fun f x => ∃ p q : Int, 0 ≤ p ∧ p ≤ 5 ∧ 5 - p < f ∧ dT t p q = dT t ph left ∧ x = o8 j1 j2 j3 t p q used inn l m on s) _ (fun x ⟨p, q, h1, h2, h3, _⟩ => by omega) ?_ n _ ⟨ph, left, h0.1, h0.2, by omega, rfl, rfl⟩
  rintro f x F hF ⟨p, q, h1, h2, h3, h4, rfl⟩
  show ∃ r, sH n F j1 j2 j3 t.sw t.la t.co p q used inn (o7 t) l m s.ret on s.at_ s.stk s.loc s.inp s.out s.set s.rds s.held s.flt s.stp = some r ∧ _
  unfold sH
  by_cases hq : q = 0
  ·subst hq
   rw [if_pos (by decide)]
   by_cases hp : p < 5
   ·have hl0 := ht.l0
    have hc0 := ht.c0
    rw [if_pos (af hp), dL (by omega) (by omega), if_pos (by simp; omega)]
    have hc : p = 0 ∨ p = 1 ∨ p = 2 ∨ p = 3 ∨ p = 4 := by omega
    rcases hc with rfl | rfl | rfl | rfl | rfl
    ·exact hF _ ⟨1, t.la, by omega, by omega, by omega, by rw [← h4]; unfold dT; rw [if_pos (by omega)]; rfl, rfl⟩
    ·exact hF _ ⟨2, 1, by omega, by omega, by omega, by rw [← h4]; rfl, rfl⟩
    ·exact hF _ ⟨3, t.co, by omega, by omega, by omega, by rw [← h4]; unfold dT; rw [if_pos (by omega)]; rfl, rfl⟩
    ·exact hF _ ⟨4, t.sw, by omega, by omega, by omega, by
      rw [← h4]
      by_cases hs : t.sw = 0
      ·rw [hs]; unfold dT; rw [if_neg (by decide), if_neg (by decide), if_neg (by decide), if_neg (by decide), if_neg (by decide), if_pos rfl, if_neg (by decide), if_neg (by decide), if_neg (by decide), if_neg (by decide), if_pos rfl, if_pos hs]
      ·unfold dT; rw [if_pos hs, if_neg (by decide), if_neg (by decide), if_neg (by decide), if_neg (by decide), if_pos rfl, if_neg hs], rfl⟩
    ·exact hF _ ⟨5, 1, by omega, by omega, by omega, by rw [← h4]; rfl, rfl⟩
   ·have : p = 5 := by omega
    subst this
    rw [if_neg (by decide)]
    refine ⟨_, rfl, ?_⟩
    rw [← h4]
    rfl
  ·rw [if_neg (by simpa using hq)]
   refine ⟨_, rfl, ?_⟩
   rw [← h4]
   unfold dT
   rw [if_pos hq]
 obtain ⟨r, e1, e2⟩ := key
 rw [e1, e2]
abbrev pa (j1 j2 j3 : Int) (t : TM) (l : List cK) (m : List Int) (x : IS) := (j1, j2, j3, t.sw, t.la, t.co, x.ph, x.left, x.used, x.inn, x.c.mem, l, m, x.c.s.ret, x.c.on, x.c.s.at_, x.c.s.stk, x.c.s.loc, x.c.s.inp, x.c.s.out, x.c.s.set, x.c.s.rds, x.c.s.held, x.c.s.flt, x.c.s.stp)
abbrev yt (n : Nat) (inp : List Int) (j1 j2 j3 : Int) (t : TM) (l : List cK) (m : List Int) (x : IS) := sI n inp j1 j2 j3 t.sw t.la t.co x.ph x.left x.used x.inn x.c.mem l m x.c.s.ret x.c.on x.c.s.at_ x.c.s.stk x.c.s.loc x.c.s.inp x.c.s.out x.c.s.set x.c.s.rds x.c.s.held x.c.s.flt x.c.s.stp
abbrev nA (l : List cK) (x : IS) : cK := l.getD x.c.s.at_.toNat (0, 0, 0)
def gA (l : List cK) (x : IS) : Int × Int :=
 if x.ph = 2 then (if (nA l x).1 = 23 then (2, (nA l x).2.1) else if (nA l x).1 = 24 then (3, (nA l x).2.1) else (0, 0))
 else if 1 < x.left then (0, 0) else if x.ph = 1 then (1, 0) else if x.ph = 3 then (4, 0) else (0, 0)
def jG (l : List cK) (x : IS) : Int := if x.ph = 2 then (if (nA l x).1 = 25 then 0 else x.left) else x.left - 1
def kZ (x : IS) : Bool := decide (x.ph = 1) && decide (x.left = 1)
def en (t : TM) (l : List cK) (m : List Int) (inp : List Int) (x : IS) : IS where
 ph := (dT t x.ph (jG l x)).1
 left := (dT t x.ph (jG l x)).2
 used := x.used + 1
 inn := if kZ x = true then inp else x.inn
 c := if x.ph = 2 then nz l m x.c else if kZ x = true then ⟨true, wv x.c.s.ret inp, x.c.mem⟩ else x.c
structure IOk (t : TM) (l : List cK) (m : List Int) (st : List ByteArray) (x : IS) : Prop where
 ph : 0 ≤ x.ph ∧ x.ph ≤ 5
 left : 1 ≤ x.left ∧ x.left ≤ 100
 used : 0 ≤ x.used
 on : x.c.on = decide (x.ph = 2)
 one : x.ph = 2 → x.left = 1
 run : x.ph = 2 → ∃ i rs, Ok l m st x.c.s i rs
 off : 3 ≤ x.ph → x.c.s.held = 0
theorem Eb (x : cK) : E0 x = if x.1 = 25 then (3, 0) else if x.1 = 24 then (2, x.2.1) else if x.1 = 23 then (1, x.2.1) else (0, 0) := rfl
theorem ww {l : List cK} {m h : List Int} {st : List ByteArray} (hR : Row l m h st) {t : TM} (ht : TOk t) {x : IS} (hx : IOk t l m st x) (h5 : x.ph ≠ 5) (hu : x.used < 1000000) (n : Nat) (hn : 8 ≤ n) (inp : List Int) (j1 j2 j3 : Int) :
  yt n inp j1 j2 j3 t l m x = some (((gA l x).1, ((gA l x).2, (en t l m inp x).ph == 5)), 0, pa j1 j2 j3 t l m (en t l m inp x)) := by
 have hl := hR.fine.len
 obtain ⟨x1, x2, x3, x4, x5, x6, x7⟩ := hx
 obtain ⟨ph, left, used, inn, ⟨on, s, mem⟩⟩ := x
 simp only at x1 x2 x3 x4 x5 x6 x7 h5 hu
 unfold yt sI
 dsimp only
 rw [if_neg (show ¬ (ph == 5) = true by simpa using h5), show wrap .i64 (used + 1) = used + 1 from dL (by omega) (by omega)]
 by_cases h2 : ph = 2
 ·subst h2
  obtain ⟨i, rs, hO⟩ := x6 rfl
  have hp : s.at_ = (i : Int) := hO.place
  have hi : s.at_.toNat = i := by rw [hp]; exact ai i
  have hS := CA hR hO n mem
  unfold dH Ca D8 at hS
  have x4' : on = true := x4
  subst x4'
  have h1 := x5 rfl
  subst h1
  rw [if_pos (by decide), hS, ae]
  dsimp only
  have eI : nA l ⟨2, 1, used, inn, ⟨true, s, mem⟩⟩ = l.getD i (0, 0, 0) := by show l.getD s.at_.toNat _ = _; rw [hi]
  have e1 : nz l m ⟨true, s, mem⟩ = ⟨decide ((l.getD i (0, 0, 0)).1 ≠ 25), eh (l.getD i (0, 0, 0)) (m.getD i 0) s mem, rz (l.getD i (0, 0, 0)) s mem⟩ := by
   unfold nz
   rw [if_pos rfl]
   dsimp only
   rw [hi]
  have eN : en t l m inp ⟨2, 1, used, inn, ⟨true, s, mem⟩⟩ = ⟨(dT t 2 (if (l.getD i (0, 0, 0)).1 = 25 then 0 else 1)).1, (dT t 2 (if (l.getD i (0, 0, 0)).1 = 25 then 0 else 1)).2, used + 1, inn, ⟨decide ((l.getD i (0, 0, 0)).1 ≠ 25), eh (l.getD i (0, 0, 0)) (m.getD i 0) s mem, rz (l.getD i (0, 0, 0)) s mem⟩⟩ := by
   unfold en
   rw [if_pos rfl, e1]
   unfold jG
   rw [if_pos rfl, eI]
   rfl
  have eE : gA l ⟨2, 1, used, inn, ⟨true, s, mem⟩⟩ = if (l.getD i (0, 0, 0)).1 = 23 then (2, (l.getD i (0, 0, 0)).2.1) else if (l.getD i (0, 0, 0)).1 = 24 then (3, (l.getD i (0, 0, 0)).2.1) else (0, 0) := by
   unfold gA
   rw [if_pos rfl, eI]
  rw [eN, eE, Eb]
  have hs := fun left => o9 n hn j1 j2 j3 ht (ph := 2) (left := left) (by omega) (used + 1) inn l m (decide ((l.getD i (0, 0, 0)).1 ≠ 25)) (eh (l.getD i (0, 0, 0)) (m.getD i 0) s mem)
  unfold o8 o7 at hs
  by_cases h25 : (l.getD i (0, 0, 0)).1 = 25
  ·simp only [if_pos h25]
   rw [if_neg (by decide), if_neg (by decide), if_pos (by decide), hs 0, ae, if_neg (by rw [h25]; decide), if_neg (by rw [h25]; decide)]
  ·simp only [if_neg h25]
   by_cases h24 : (l.getD i (0, 0, 0)).1 = 24
   ·simp only [if_pos h24]
    rw [if_neg (by decide), if_pos (by decide), hs 1, ae, if_neg (by rw [h24]; decide)]
   ·simp only [if_neg h24]
    by_cases h23 : (l.getD i (0, 0, 0)).1 = 23
    ·simp only [if_pos h23]
     rw [if_pos (by decide), hs 1, ae]
    ·simp only [if_neg h23]
     rw [if_neg (by decide), if_neg (by decide), if_neg (by decide), hs 1, ae]
 ·have x4' : on = false := x4.trans (aK h2)
  subst x4'
  rw [if_neg (show ¬ (ph == 2) = true by simpa using h2), show wrap .i64 (left - 1) = left - 1 from dL (by omega) (by omega)]
  have hs := fun inn on s => o9 n hn j1 j2 j3 ht (ph := ph) (left := left - 1) x1 (used + 1) inn l m on s
  unfold o8 o7 at hs
  have eL : jG l ⟨ph, left, used, inn, ⟨false, s, mem⟩⟩ = left - 1 := if_neg h2
  unfold gA en
  rw [eL]
  dsimp only
  rw [if_neg h2, if_neg h2]
  by_cases hg : 1 < left
  ·have hla : kZ ⟨ph, left, used, inn, ⟨false, s, mem⟩⟩ = false := by
    unfold kZ
    rw [aK (show ¬ left = 1 by omega), Bool.and_false]
   rw [if_pos (af (show left - 1 > 0 by omega)), hs inn false s, ae, if_pos hg, hla]
   rfl
  ·have hl1 : left = 1 := by omega
   rw [if_neg (by simp; omega), if_neg hg]
   by_cases p1 : ph = 1
   ·have hla : kZ ⟨ph, left, used, inn, ⟨false, s, mem⟩⟩ = true := by
     unfold kZ
     rw [p1, hl1]
     rfl
    rw [if_pos (show (ph == 1) = true from ah.2 p1), BH n hl.1, ae, if_pos p1, hla]
    dsimp only
    have := hs inp true (wv s.ret inp)
    dsimp only at this
    rw [this, ae]
    rfl
   ·have hla : kZ ⟨ph, left, used, inn, ⟨false, s, mem⟩⟩ = false := by
     unfold kZ
     rw [aK p1, ba]
    rw [if_neg (show ¬ (ph == 1) = true by simpa using p1), if_neg p1, hla]
    by_cases p3 : ph = 3
    ·rw [if_pos (show (ph == 3) = true from ah.2 p3), hs inn false s, ae, if_pos p3]
     rfl
    ·rw [if_neg (show ¬ (ph == 3) = true by simpa using p3), hs inn false s, ae, if_neg p3]
     rfl
theorem zV {l : List cK} {m h : List Int} {st : List ByteArray} (hR : Row l m h st) {s : MS} {i : Nat} {rs : List (Nat × Int)} (hO : Ok l m st s i rs) (h25 : opAt l i = 25) : s.held = 0 := by
 obtain ⟨v, v1, v2⟩ := hO.held
 have hF := hR.fine
 have hi := hO.lt
 have hlast : i + 1 = l.length := by
  have h1 := hF.ends i hi
  unfold nn at h1
  rw [show ((l.getD i (0, 0, 0)).1 == 25) = true from ah.2 h25] at h1
  cases h4 : ((i : Int) == ((l.length - 1 : Nat) : Int))
  ·rw [h4] at h1; cases h1
  ·have := eq_of_beq h4; omega
 have : v = 0 := by
  apply Nat.eq_of_testBit_eq
  intro b
  rw [Nat.zero_testBit]
  cases hb : v.testBit b
  ·rfl
  ·exfalso
   obtain ⟨k, k1, k2, k3⟩ := (v2.2 b).1 hb
   have ho := (dX k1).2
   obtain ⟨j, j1, j2, j3, j4, j5⟩ := hF.closed.op_ k (fi ho) ho
   have := (fh ho j1).1 k1
   have hji : j = i := by omega
   subst hji
   have := py (l.getD k (0, 0, 0))
   rw [← j4] at this
   unfold opAt at h25
   rw [h25] at this
   rcases this with h | h <;> cases h
 rw [v1, this]
 rfl
theorem zW : ∀ (v : Fin 256) (a : Fin 8), v.val.testBit a.val = false → v.val ||| 2 ^ a.val = v.val + 2 ^ a.val := by decide +kernel
theorem zX {l : List cK} {m h : List Int} {st : List ByteArray} (hR : Row l m h st) {s : MS} {i : Nat} {rs : List (Nat × Int)} (hO : Ok l m st s i rs) (h23 : opAt l i = 23) (mem : dI) :
  ∃ v a : Nat, a ≤ 7 ∧ cQ l i = (a : Int) ∧ s.held = (v : Int) ∧ v + 2 ^ a < 256 ∧ (eh (l.getD i (0, 0, 0)) (m.getD i 0) s mem).held = ((v + 2 ^ a : Nat) : Int) := by
 have hr := hR.fine.right hO.lt
 obtain ⟨v, v1, v2⟩ := hO.held
 obtain ⟨a, ha, ha7⟩ := nq hr (.inl h23)
 have hb : v.testBit a = false := by
  cases hb : v.testBit a
  ·rfl
  ·exfalso
   obtain ⟨k, k1, k2, k3⟩ := (v2.2 a).1 hb
   have := hR.rise i k hO.lt h23 k1 k2
   have k3' : cQ l k = (a : Int) := k3
   omega
 have ho := zW ⟨v, v2.1⟩ ⟨a, by omega⟩ hb
 simp only at ho
 have h2 : 2 ^ a < 256 := by have := Nat.pow_lt_pow_right (a := 2) (by omega) (show a < 8 by omega); omega
 have h3 := Nat.or_lt_two_pow (n := 8) v2.1 h2
 refine ⟨v, a, ha7, ha, v1, by omega, ?_⟩
 show (if _ then _ else if _ then _ else _) = _
 rw [if_pos h23, v1]
 show bits .or .i64 (v : Int) (o6 (cQ l i)) = _
 rw [pC ha ha7, ← ho]
 exact wh v (2 ^ a) v2.1 h2
theorem wK {l : List cK} {m h : List Int} {st : List ByteArray} (hR : Row l m h st) {s : MS} {i : Nat} {rs : List (Nat × Int)} (hO : Ok l m st s i rs) (h24 : opAt l i = 24) (mem : dI) :
  ∃ v a : Nat, a ≤ 7 ∧ cQ l i = (a : Int) ∧ s.held = ((v + 2 ^ a : Nat) : Int) ∧ v + 2 ^ a < 256 ∧ (eh (l.getD i (0, 0, 0)) (m.getD i 0) s mem).held = (v : Int) := by
 have hF := hR.fine
 have hi := hO.lt
 have hr := hR.fine.right hO.lt
 obtain ⟨v, v1, v2⟩ := hO.held
 have h0 := jZ (o := (l.getD i (0, 0, 0)).1) (A := (l.getD i (0, 0, 0)).2.1) (B := (l.getD i (0, 0, 0)).2.2) (by rw [show (l.getD i (0, 0, 0)).1 = 24 from h24]; omega) hr
 obtain ⟨a, ha, ha7⟩ : ∃ a : Nat, cQ l i = (a : Int) ∧ a ≤ 7 := ⟨(cQ l i).toNat, by unfold cQ; omega, by unfold cQ; omega⟩
 obtain ⟨w, w1, w2, w3⟩ := uk v a v2.1 ha7
 obtain ⟨k0, a1, a2, a3, a4, a5, a6, a7⟩ := jY hF hi (.inr h24)
 have h23 : opAt l k0 = 23 ∧ cQ l k0 = cQ l i := by
  rcases isOpen_iff.1 a3 with h | h
  ·have : opAt l i = (ends (l.getD k0 (0, 0, 0))).1 := congrArg (·.1) a5
   unfold ends at this
   rw [if_pos (show (l.getD k0 (0, 0, 0)).1 = 21 from h), h24] at this
   cases this
  ·refine ⟨h, ?_⟩
   have : cQ l i = (ends (l.getD k0 (0, 0, 0))).2.1 := congrArg (·.2.1) a5
   unfold ends at this
   rw [if_neg (show ¬ (l.getD k0 (0, 0, 0)).1 = 21 from fun h2 => by unfold opAt at h; rw [h2] at h; cases h)] at this
   exact this.symm
 have hb : v.testBit a = true := (v2.2 a).2 ⟨k0, by rw [a6, af rfl, Bool.true_or], h23.1, by show cQ l k0 = _; rw [h23.2, ha]⟩
 have hw : w.testBit a = false := by rw [w3]; simp
 have hv : v = w ||| 2 ^ a := Nat.eq_of_testBit_eq fun b => by
  rw [Nat.testBit_or, Nat.testBit_two_pow, w3]
  by_cases hab : a = b
  ·subst hab; rw [hb, af rfl, Bool.or_true]
  ·rw [aK hab, aX, show decide (b ≠ a) = true from af (fun h => hab h.symm), Bool.and_true]
 have ho := zW ⟨w, w2⟩ ⟨a, by omega⟩ hw
 simp only at ho
 refine ⟨w, a, ha7, ha, by rw [v1, hv, ho], by rw [← ho, ← hv]; exact v2.1, ?_⟩
 show (if _ then _ else if _ then _ else _) = _
 rw [if_neg (show ¬ opAt l i = 23 by omega), if_pos (show opAt l i = 24 from h24), v1]
 show bits .andNot .i64 (v : Int) (o6 (cQ l i)) = _
 rw [pC ha ha7]
 exact w1
theorem wx {l : List cK} {m h : List Int} {st : List ByteArray} (hR : Row l m h st) {t : TM} (ht : TOk t) {x : IS} (hx : IOk t l m st x) (h5 : x.ph ≠ 5) (inp : List Int) : IOk t l m st (en t l m inp x) := by
 obtain ⟨x1, x2, x3, x4, x5, x6, x7⟩ := hx
 obtain ⟨ph, left, used, inn, ⟨on, s, mem⟩⟩ := x
 simp only at x1 x2 x3 x4 x5 x6 x7 h5
 have hl0 := ht.l0
 have hl1 := ht.l1
 have hc0 := ht.c0
 have hc1 := ht.c1
 have hs0 := ht.s0
 have hs1 := ht.s1
 have hc : ph = 0 ∨ ph = 1 ∨ ph = 2 ∨ ph = 3 ∨ ph = 4 := by omega
 by_cases h2 : ph = 2
 ·subst h2
  obtain ⟨i, rs, hO⟩ := x6 rfl
  have hp : s.at_ = (i : Int) := hO.place
  have hi : s.at_.toNat = i := by rw [hp]; exact ai i
  have x4' : on = true := x4
  subst x4'
  have h1 := x5 rfl
  subst h1
  have e1 : nz l m ⟨true, s, mem⟩ = ⟨decide ((l.getD i (0, 0, 0)).1 ≠ 25), eh (l.getD i (0, 0, 0)) (m.getD i 0) s mem, rz (l.getD i (0, 0, 0)) s mem⟩ := by
   unfold nz
   rw [if_pos rfl]
   dsimp only
   rw [hi]
  have eN : en t l m inp ⟨2, 1, used, inn, ⟨true, s, mem⟩⟩ = ⟨(dT t 2 (if (l.getD i (0, 0, 0)).1 = 25 then 0 else 1)).1, (dT t 2 (if (l.getD i (0, 0, 0)).1 = 25 then 0 else 1)).2, used + 1, inn, ⟨decide ((l.getD i (0, 0, 0)).1 ≠ 25), eh (l.getD i (0, 0, 0)) (m.getD i 0) s mem, rz (l.getD i (0, 0, 0)) s mem⟩⟩ := by
   unfold en
   rw [if_pos rfl, e1]
   unfold jG
   rw [if_pos rfl]
   show _ = _
   unfold nA
   dsimp only
   rw [hi]
   rfl
  rw [eN]
  by_cases h25 : opAt l i = 25
  ·have hh := zV hR hO h25
   rw [if_pos h25]
   refine ⟨by show 0 ≤ (3 : Int) ∧ (3 : Int) ≤ 5; omega, by show 1 ≤ t.co ∧ t.co ≤ 100; omega, by show 0 ≤ used + 1; omega, ?_, (fun h => by cases h), (fun h => by cases h), fun _ => ?_⟩
   ·show decide (opAt l i ≠ 25) = decide ((3 : Int) = 2)
    rw [h25]
    rfl
   ·show (if _ then _ else if _ then _ else _) = _
    rw [if_neg (show ¬ opAt l i = 23 by omega), if_neg (show ¬ opAt l i = 24 by omega)]
    exact hh
  ·rw [if_neg h25]
   obtain ⟨q, rs', hq, _⟩ := (zU hR hO mem h25).ex
   refine ⟨by show 0 ≤ (2 : Int) ∧ (2 : Int) ≤ 5; omega, by show 1 ≤ (1 : Int) ∧ (1 : Int) ≤ 100; omega, by show 0 ≤ used + 1; omega, ?_, fun _ => rfl, fun _ => ⟨q, rs', hq⟩, fun h => ?_⟩
   ·show decide (opAt l i ≠ 25) = decide ((2 : Int) = 2)
    rw [af h25]
    rfl
   ·have h' : (3 : Int) ≤ 2 := h
    omega
 ·have x4' : on = false := x4.trans (aK h2)
  subst x4'
  have eL : jG l ⟨ph, left, used, inn, ⟨false, s, mem⟩⟩ = left - 1 := if_neg h2
  unfold en
  rw [eL]
  dsimp only
  rw [if_neg h2]
  by_cases hg : 1 < left
  ·have hla : kZ ⟨ph, left, used, inn, ⟨false, s, mem⟩⟩ = false := by
    unfold kZ
    rw [aK (show ¬ left = 1 by omega), Bool.and_false]
   have hs : dT t ph (left - 1) = (ph, left - 1) := if_pos (by omega)
   rw [hla, hs]
   exact ⟨x1, by show 1 ≤ left - 1 ∧ left - 1 ≤ 100; omega, by show 0 ≤ used + 1; omega, by show false = decide (ph = 2); rw [aK h2], fun h => absurd h h2, fun h => absurd h h2, x7⟩
  ·have hl1 : left = 1 := by omega
   subst hl1
   rcases hc with rfl | rfl | rfl | rfl | rfl
   ·exact ⟨by show 0 ≤ (1 : Int) ∧ (1 : Int) ≤ 5; omega, by show 1 ≤ t.la ∧ t.la ≤ 100; omega, by show 0 ≤ used + 1; omega, rfl, (fun h => by cases h), (fun h => by cases h), fun h => by have h' : (3 : Int) ≤ 1 := h; omega⟩
   ·exact ⟨by show 0 ≤ (2 : Int) ∧ (2 : Int) ≤ 5; omega, by show 1 ≤ (1 : Int) ∧ (1 : Int) ≤ 100; omega, by show 0 ≤ used + 1; omega, rfl, fun _ => rfl, fun _ => ⟨0, [], BG hR s.ret inp⟩, fun h => by have h' : (3 : Int) ≤ 2 := h; omega⟩
   ·exact absurd rfl h2
   ·have hh := x7 (by omega)
    by_cases hs : t.sw = 0
    ·have e : dT t 3 (1 - 1) = (5, 1) := by
      unfold dT
      rw [if_neg (by decide), if_neg (by decide), if_neg (by decide), if_neg (by decide), if_pos rfl, if_pos hs]
     rw [e]
     exact ⟨by show 0 ≤ (5 : Int) ∧ (5 : Int) ≤ 5; omega, by show 1 ≤ (1 : Int) ∧ (1 : Int) ≤ 100; omega, by show 0 ≤ used + 1; omega, rfl, (fun h => by cases h), (fun h => by cases h), fun _ => hh⟩
    ·have e : dT t 3 (1 - 1) = (4, t.sw) := by
      unfold dT
      rw [if_neg (by decide), if_neg (by decide), if_neg (by decide), if_neg (by decide), if_pos rfl, if_neg hs]
     rw [e]
     exact ⟨by show 0 ≤ (4 : Int) ∧ (4 : Int) ≤ 5; omega, by show 1 ≤ t.sw ∧ t.sw ≤ 100; omega, by show 0 ≤ used + 1; omega, rfl, (fun h => by cases h), (fun h => by cases h), fun _ => hh⟩
   ·have hh := x7 (by omega)
    exact ⟨by show 0 ≤ (5 : Int) ∧ (5 : Int) ≤ 5; omega, by show 1 ≤ (1 : Int) ∧ (1 : Int) ≤ 100; omega, by show 0 ≤ used + 1; omega, rfl, (fun h => by cases h), (fun h => by cases h), fun _ => hh⟩
def d6 (x : IS) : Int := if x.ph < 2 then 0 else x.c.s.held
theorem yu {l : List cK} {m h : List Int} {st : List ByteArray} (hR : Row l m h st) {t : TM} (ht : TOk t) {x : IS} (hx : IOk t l m st x) (h5 : x.ph ≠ 5) (inp : List Int) :
  (∃ v : Nat, v < 256 ∧ d6 x = (v : Int)) ∧
  ((∃ v a : Nat, a ≤ 7 ∧ v + 2 ^ a < 256 ∧ gA l x = (2, (a : Int)) ∧ d6 x = (v : Int) ∧ d6 (en t l m inp x) = ((v + 2 ^ a : Nat) : Int)) ∨
  (∃ v a : Nat, a ≤ 7 ∧ v + 2 ^ a < 256 ∧ gA l x = (3, (a : Int)) ∧ d6 x = ((v + 2 ^ a : Nat) : Int) ∧ d6 (en t l m inp x) = (v : Int)) ∨
  ((gA l x = (0, 0) ∨ gA l x = (1, 0) ∨ gA l x = (4, 0)) ∧ d6 (en t l m inp x) = d6 x)) := by
 have hx' := wx hR ht hx h5 inp
 obtain ⟨x1, x2, x3, x4, x5, x6, x7⟩ := hx
 obtain ⟨ph, left, used, inn, ⟨on, s, mem⟩⟩ := x
 simp only at x1 x2 x3 x4 x5 x6 x7 h5
 by_cases h2 : ph = 2
 ·subst h2
  obtain ⟨i, rs, hO⟩ := x6 rfl
  have hp : s.at_ = (i : Int) := hO.place
  have hi : s.at_.toNat = i := by rw [hp]; exact ai i
  have x4' : on = true := x4
  subst x4'
  have h1 := x5 rfl
  subst h1
  have e1 : nz l m ⟨true, s, mem⟩ = ⟨decide ((l.getD i (0, 0, 0)).1 ≠ 25), eh (l.getD i (0, 0, 0)) (m.getD i 0) s mem, rz (l.getD i (0, 0, 0)) s mem⟩ := by
   unfold nz
   rw [if_pos rfl]
   dsimp only
   rw [hi]
  have eE : gA l ⟨2, 1, used, inn, ⟨true, s, mem⟩⟩ = if (l.getD i (0, 0, 0)).1 = 23 then (2, (l.getD i (0, 0, 0)).2.1) else if (l.getD i (0, 0, 0)).1 = 24 then (3, (l.getD i (0, 0, 0)).2.1) else (0, 0) := by
   unfold gA
   rw [if_pos rfl]
   unfold nA
   dsimp only
   rw [hi]
  have eH : d6 ⟨2, 1, used, inn, ⟨true, s, mem⟩⟩ = s.held := rfl
  have eC : (en t l m inp ⟨2, 1, used, inn, ⟨true, s, mem⟩⟩).c.s.held = (eh (l.getD i (0, 0, 0)) (m.getD i 0) s mem).held := by
   unfold en
   rw [if_pos rfl, e1]
  have eP : ¬ (en t l m inp ⟨2, 1, used, inn, ⟨true, s, mem⟩⟩).ph < 2 := by
   show ¬ (dT t 2 (jG l ⟨2, 1, used, inn, ⟨true, s, mem⟩⟩)).1 < 2
   unfold jG
   rw [if_pos rfl]
   by_cases h : (nA l ⟨2, 1, used, inn, ⟨true, s, mem⟩⟩).1 = 25
   ·rw [if_pos h]; show ¬ (3 : Int) < 2; omega
   ·rw [if_neg h]; show ¬ (2 : Int) < 2; omega
  have eH' : d6 (en t l m inp ⟨2, 1, used, inn, ⟨true, s, mem⟩⟩) = (eh (l.getD i (0, 0, 0)) (m.getD i 0) s mem).held := by
   unfold d6
   rw [if_neg eP, eC]
  rw [eE, eH, eH']
  refine ⟨?_, ?_⟩
  ·obtain ⟨v, v1, v2⟩ := hO.held
   exact ⟨v, v2.1, v1⟩
  ·by_cases h23 : opAt l i = 23
   ·obtain ⟨v, a, a1, a2, a3, a4, a5⟩ := zX hR hO h23 mem
    left
    refine ⟨v, a, a1, a4, ?_, a3, a5⟩
    rw [if_pos h23, show (l.getD i (0, 0, 0)).2.1 = (a : Int) from a2]
   ·rw [if_neg h23]
    by_cases h24 : opAt l i = 24
    ·obtain ⟨v, a, a1, a2, a3, a4, a5⟩ := wK hR hO h24 mem
     right; left
     refine ⟨v, a, a1, a4, ?_, a3, a5⟩
     rw [if_pos h24, show (l.getD i (0, 0, 0)).2.1 = (a : Int) from a2]
    ·rw [if_neg h24]
     right; right
     refine ⟨.inl rfl, ?_⟩
     show (if _ then _ else if _ then _ else _) = _
     rw [if_neg h23, if_neg h24]
 ·have eE : gA l ⟨ph, left, used, inn, ⟨on, s, mem⟩⟩ = (0, 0) ∨ gA l ⟨ph, left, used, inn, ⟨on, s, mem⟩⟩ = (1, 0) ∨ gA l ⟨ph, left, used, inn, ⟨on, s, mem⟩⟩ = (4, 0) := by
   unfold gA
   rw [if_neg h2]
   dsimp only
   split
   ·exact .inl rfl
   ·split
    ·exact .inr (.inl rfl)
    ·split
     ·exact .inr (.inr rfl)
     ·exact .inl rfl
  have e0 : d6 ⟨ph, left, used, inn, ⟨on, s, mem⟩⟩ = 0 := by
   unfold d6
   dsimp only
   split
   ·rfl
   ·exact x7 (by omega)
  have e1 : d6 (en t l m inp ⟨ph, left, used, inn, ⟨on, s, mem⟩⟩) = 0 := by
   unfold d6
   split
   ·rfl
   ·rename_i hn
    by_cases h3 : 3 ≤ (en t l m inp ⟨ph, left, used, inn, ⟨on, s, mem⟩⟩).ph
    ·exact hx'.off h3
    ·-- it was just started
     unfold en
     dsimp only
     rw [if_neg h2]
     split
     ·rfl
     ·rename_i hla
      by_cases h3' : 3 ≤ ph
      ·exact x7 h3'
      ·exfalso
       have hc : ph = 0 ∨ ph = 1 := by omega
       apply hn
       show (dT t ph (jG l ⟨ph, left, used, inn, ⟨on, s, mem⟩⟩)).1 < 2
       unfold jG
       rw [if_neg h2]
       dsimp only
       unfold kZ at hla
       rcases hc with rfl | rfl
       ·unfold dT
        split
        ·show (0 : Int) < 2; omega
        ·rw [if_pos rfl]; show (1 : Int) < 2; omega
       ·unfold dT
        rw [if_pos]
        ·show (1 : Int) < 2; omega
        ·intro h
         apply hla
         have : left = 1 := by omega
         dsimp only
         rw [this]
         rfl
  exact ⟨⟨0, by omega, e0⟩, .inr (.inr ⟨eE, e1.trans e0.symm⟩)⟩
abbrev wy (v : Int) (k : Nat) : Bool := bits .and .i64 (v.fdiv (2 ^ (min ((k : Int)).toNat 64))) 1 == 1
theorem CB : ∀ (v : Fin 256) (k : Fin 8), (bits .and .u64 ((IntKind.wrap .u64 ((v.val : Nat) : Int)).fdiv (2 ^ (min ((k.val : Nat) : Int).toNat 64))) 1 == 1) = wy ((v.val : Nat) : Int) k.val := by decide +kernel
def nV (v : Int) (hs : List Int) : Nat → Nat → Int → Int
 | 0, _, p => p
 | r + 1, k, p => nV v hs r (k + 1) (if wy v k = true then (if hs.getD k 0 > p then hs.getD k 0 else p) else p)
theorem wz (v : Int) (hs : List Int) (r k : Nat) (p : Int) : nV v hs (r + 1) k p = nV v hs r (k + 1) (if wy v k = true then (if hs.getD k 0 > p then hs.getD k 0 else p) else p) := rfl
theorem zY (n : Nat) (hn : 8 < n) (p : Int) {v : Nat} (hv : v < 256) {hs : List Int} (hh : hs.length ≤ 8) : fY n p (v : Int) hs = some (nV (v : Int) hs hs.length 0 p) := by
 have key : ∃ r, hZ n ((v : Int), p, hs, (hs.length : Int), 0) = some r ∧ r = nV (v : Int) hs hs.length 0 p := by
  show ∃ r, it _ n _ = some r ∧ _
  refine pD (fun f x => ∃ (k : Nat) (q : Int), k ≤ hs.length ∧ hs.length < f + k ∧ nV (v : Int) hs (hs.length - k) k q = nV (v : Int) hs hs.length 0 p ∧ x = ((v : Int), q, hs, (hs.length : Int), (k : Int))) _ (fun x ⟨k, q, h1, h2, _⟩ => by omega) ?_ n _ ⟨0, p, by omega, by omega, rfl, rfl⟩
  rintro f x F hF ⟨k, q, h1, h2, h3, rfl⟩
  show ∃ r, gw n F (v : Int) q hs (hs.length : Int) (k : Int) = some r ∧ _
  unfold gw
  rcases aq k hs.length with hk | hk
  ·rw [if_pos (af (by omega)), if_pos (cO hk), if_neg (by simp), d4 (by omega), CB ⟨v, hv⟩ ⟨k, by omega⟩]
   rw [show hs.length - k = (hs.length - (k + 1)) + 1 by omega] at h3
   rw [wz] at h3
   rw [ai]
   by_cases hb : wy (v : Int) k = true
   ·rw [if_pos hb]
    rw [if_pos hb] at h3
    exact hF _ ⟨k + 1, _, by omega, by omega, h3, rfl⟩
   ·rw [if_neg hb]
    rw [if_neg hb] at h3
    exact hF _ ⟨k + 1, _, by omega, by omega, h3, rfl⟩
  ·have : k = hs.length := by omega
   subst this
   rw [if_neg (by simp)]
   rw [bE] at h3
   exact ⟨_, rfl, h3⟩
 obtain ⟨r, e1, e2⟩ := key
 unfold fY
 rw [e1, e2]
 rfl
theorem rA (x lo : Int) (h : lo ≤ 100) : (x == (if (if (100 : Int) < x then 100 else x) > lo then (if (100 : Int) < x then 100 else x) else lo)) = (decide (lo ≤ x) && decide (x ≤ 100)) := by
 rw [ca, ah, ag, ak, ak]
 split <;> split <;> omega
def pb (t : TM) : Bool := (decide ((0 : Int) ≤ t.sw) && decide (t.sw ≤ 100)) && ((decide ((1 : Int) ≤ t.la) && decide (t.la ≤ 100)) && (decide ((1 : Int) ≤ t.co) && decide (t.co ≤ 100)))
theorem BI (n : Nat) (a b c : Int) : fq n (a, (b, c)) = some (pb ⟨a, b, c⟩) := by
 unfold fq pb
 dsimp only
 rw [rA a 0 (by omega), rA b 1 (by omega), rA c 1 (by omega)]
theorem times_ok {t : TM} : pb t = true ↔ TOk t := by
 unfold pb
 simp only [ag, ak]
 exact ⟨fun ⟨⟨a, b⟩, ⟨c, d⟩, e, f⟩ => ⟨a, b, c, d, e, f⟩, fun ⟨a, b, c, d, e, f⟩ => ⟨⟨a, b⟩, ⟨c, d⟩, e, f⟩⟩
abbrev Ec : MS := ⟨z8, 0, [], z8, z16, z16, 0, [], 0, 0, 0⟩
abbrev wA (t : TM) (s : MS) (mem : dI) : IS := ⟨(dT t 0 t.sw).1, (dT t 0 t.sw).2, 0, z16, ⟨false, s, mem⟩⟩
theorem BJ {t : TM} (ht : TOk t) (l : List cK) (m : List Int) (st : List ByteArray) (s : MS) (mem : dI) : IOk t l m st (wA t s mem) := by
 obtain ⟨s0, s1, l0, l1, c0, c1⟩ := ht
 by_cases h : t.sw = 0
 ·have e : dT t 0 t.sw = (1, t.la) := by unfold dT; rw [if_neg (fun h2 => h2 h), if_pos rfl]
  unfold wA
  rw [e]
  exact ⟨by show 0 ≤ (1 : Int) ∧ (1 : Int) ≤ 5; omega, ⟨l0, l1⟩, by show (0 : Int) ≤ 0; omega, rfl, (fun h => by cases h), (fun h => by cases h), fun h => by have h' : (3 : Int) ≤ 1 := h; omega⟩
 ·have e : dT t 0 t.sw = (0, t.sw) := by unfold dT; rw [if_pos h]
  unfold wA
  rw [e]
  exact ⟨by show 0 ≤ (0 : Int) ∧ (0 : Int) ≤ 5; omega, ⟨by show 1 ≤ t.sw; omega, s1⟩, by show (0 : Int) ≤ 0; omega, rfl, (fun h => by cases h), (fun h => by cases h), fun h => by have h' : (3 : Int) ≤ 0 := h; omega⟩
theorem CC : fR 30000 = some true := by kernel_rfl
theorem BK (n : Nat) (hn : 8 < n) (c : List Int) (j1 j2 j3 : Int) (t : TM) (ph left used : Int) (inn : List Int) (l : List cK) (m : List Int) (on : Bool) (s : MS) :
  ∃ hs : List Int, hs.length = 8 ∧ nj n ([], 0, c, j1, j2, j3, t.sw, t.la, t.co, ph, left, used, inn, l, m, s.ret, on, s.at_, s.stk, s.loc, s.inp, s.out, s.set, s.rds, s.held, s.flt, s.stp) = some (hs, c, j1, j2, j3, t.sw, t.la, t.co, ph, left, used, inn, l, m, s.ret, on, s.at_, s.stk, s.loc, s.inp, s.out, s.set, s.rds, s.held, s.flt, s.stp) := by
 have key : ∃ r, nj n ([], 0, c, j1, j2, j3, t.sw, t.la, t.co, ph, left, used, inn, l, m, s.ret, on, s.at_, s.stk, s.loc, s.inp, s.out, s.set, s.rds, s.held, s.flt, s.stp) = some r ∧ ∃ hs : List Int, hs.length = 8 ∧ r = (hs, c, j1, j2, j3, t.sw, t.la, t.co, ph, left, used, inn, l, m, s.ret, on, s.at_, s.stk, s.loc, s.inp, s.out, s.set, s.rds, s.held, s.flt, s.stp) := by
  show ∃ r, it _ n _ = some r ∧ _
  refine pD (fun f x => ∃ (k : Nat) (hs : List Int), k ≤ 8 ∧ 8 < f + k ∧ hs.length = k ∧ x = (hs, (k : Int), c, j1, j2, j3, t.sw, t.la, t.co, ph, left, used, inn, l, m, s.ret, on, s.at_, s.stk, s.loc, s.inp, s.out, s.set, s.rds, s.held, s.flt, s.stp)) _ (fun x ⟨k, hs, h1, h2, _⟩ => by omega) ?_ n _ ⟨0, [], by omega, by omega, rfl, rfl⟩
  rintro f x F hF ⟨k, hs, h1, h2, h3, rfl⟩
  show ∃ r, sJ n F hs (k : Int) c j1 j2 j3 t.sw t.la t.co ph left used inn l m s.ret on s.at_ s.stk s.loc s.inp s.out s.set s.rds s.held s.flt s.stp = some r ∧ _
  unfold sJ
  rcases aq k 8 with hk | hk
  ·rw [if_pos (af (by omega)), if_pos (iZ (by omega)), if_pos (el (by omega)), d4 (by omega)]
   exact hF _ ⟨k + 1, _, by omega, by omega, by rw [aR, h3]; rfl, rfl⟩
  ·rw [if_neg (by simp; omega)]
   exact ⟨_, rfl, hs, by omega, rfl⟩
 obtain ⟨r, e1, hs, e2, e3⟩ := key
 exact ⟨hs, e2, by rw [e1, e3]⟩
theorem BL (n : Nat) (hn : 8 < n) {hs : List Int} (hh : hs.length = 8) (v i : Int) (j1 j2 j3 : Int) (t : TM) (l : List cK) (m : List Int) (x : IS) :
  kT n (hs, v, i, 4, 0, pa j1 j2 j3 t l m x) = some (hs, v, i, nV v hs 8 0 4, pa j1 j2 j3 t l m x) := by
 have key : ∃ r, kT n (hs, v, i, 4, 0, pa j1 j2 j3 t l m x) = some r ∧ r = (hs, v, i, nV v hs 8 0 4, pa j1 j2 j3 t l m x) := by
  show ∃ r, it _ n _ = some r ∧ _
  refine pD (fun f y => ∃ (k : Nat) (q : Int), k ≤ 8 ∧ 8 < f + k ∧ nV v hs (8 - k) k q = nV v hs 8 0 4 ∧ y = (hs, v, i, q, (k : Int), pa j1 j2 j3 t l m x)) _ (fun y ⟨k, q, h1, h2, _⟩ => by omega) ?_ n _ ⟨0, 4, by omega, by omega, rfl, rfl⟩
  rintro f y F hF ⟨k, q, h1, h2, h3, rfl⟩
  show ∃ r, sK n F hs v i q (k : Int) j1 j2 j3 t.sw t.la t.co x.ph x.left x.used x.inn x.c.mem l m x.c.s.ret x.c.on x.c.s.at_ x.c.s.stk x.c.s.loc x.c.s.inp x.c.s.out x.c.s.set x.c.s.rds x.c.s.held x.c.s.flt x.c.s.stp = some r ∧ _
  unfold sK
  rcases aq k 8 with hk | hk
  ·rw [if_pos (af (by omega)), if_neg (by simp), if_pos (cO (by omega)), d4 (by omega)]
   rw [show 8 - k = (8 - (k + 1)) + 1 by omega, wz] at h3
   by_cases hb : wy v k = true
   ·rw [if_pos (show (bits .and .i64 (v.fdiv (2 ^ (min ((k : Int)).toNat 64))) 1 == 1) = true from hb)]
    rw [if_pos hb] at h3
    rw [ai]
    exact hF _ ⟨k + 1, _, by omega, by omega, h3, rfl⟩
   ·rw [if_neg (show ¬ (bits .and .i64 (v.fdiv (2 ^ (min ((k : Int)).toNat 64))) 1 == 1) = true from hb)]
    rw [if_neg hb] at h3
    exact hF _ ⟨k + 1, _, by omega, by omega, h3, rfl⟩
  ·have : k = 8 := by omega
   subst this
   rw [if_neg (by decide)]
   rw [bE] at h3
   have h3' : q = nV v hs 8 0 4 := h3
   rw [h3']
   exact ⟨_, rfl, rfl⟩
 obtain ⟨r, e1, e2⟩ := key
 rw [e1, e2]
theorem BM (n : Nat) (hn : 700 < n) {l : List cK} {m h : List Int} {st : List ByteArray} (hR : Row l m h st) {t : TM} (ht : TOk t) {hs : List Int} (hh : hs.length = 8) (j1 j3 : Int) {x : IS} (hx : IOk t l m st x) (hu : x.used = 0) (hv : d6 x = 0) :
  ∃ r, rj n (hs, 0, 0, pa j1 4 j3 t l m x) = some r ∧ ∃ z, r = .inr z := by
 show ∃ r, it _ n _ = some r ∧ _
 refine pD (fun f y => ∃ (k : Nat) (x : IS), k ≤ 600 ∧ 600 < f + k ∧ IOk t l m st x ∧ x.used = (k : Int) ∧ y = (hs, d6 x, (k : Int), pa j1 4 j3 t l m x)) _ (fun y ⟨k, x, h1, h2, _⟩ => by omega) ?_ n _ ⟨0, x, by omega, by omega, hx, hu, by rw [hv]; rfl⟩
 clear hx hu hv x
 rintro f y F hF ⟨k, x, h1, h2, hx, hu, rfl⟩
 show ∃ r, sL n F hs (d6 x) (k : Int) j1 4 j3 t.sw t.la t.co x.ph x.left x.used x.inn x.c.mem l m x.c.s.ret x.c.on x.c.s.at_ x.c.s.stk x.c.s.loc x.c.s.inp x.c.s.out x.c.s.set x.c.s.rds x.c.s.held x.c.s.flt x.c.s.stp = some r ∧ _
 unfold sL
 rcases aq k 600 with hk | hk
 ·rw [if_pos (af (by omega))]
  have eD : ∀ (v1 v2 v3 v4 v5 v6 v7 v8 v9 : Int) (v10 : List Int) (v11 : List cK) (v12 v13 : List Int) (v14 : Bool) (v15 : Int) (v16 v17 v18 v19 : List Int) (v20 : Int) (v21 : List Int) (v22 v23 v24 : Int), eZ n v1 v2 v3 v4 v5 v6 v7 v8 v9 v10 v11 v12 v13 v14 v15 v16 v17 v18 v19 v20 v21 v22 v23 v24 = some ((v7 == 5), v1, v2, v3, v4, v5, v6, v7, v8, v9, v10, v11, v12, v13, v14, v15, v16, v17, v18, v19, v20, v21, v22, v23, v24) := fun _ _ _ _ _ _ _ _ _ _ _ _ _ _ _ _ _ _ _ _ _ _ _ _ => rfl
  rw [eD, ae]
  dsimp only
  by_cases h5 : x.ph = 5
  ·rw [show (x.ph == 5) = true from ah.2 h5, if_neg (by decide)]
   exact ⟨_, rfl, _, rfl⟩
  ·rw [show (x.ph == 5) = false by simpa using h5, if_pos (by decide)]
   have hS := ww hR ht hx h5 (by omega) n (by omega) z16 j1 4 j3
   have hx' := wx hR ht hx h5 z16
   obtain ⟨⟨v0, v01, v02⟩, hE⟩ := yu hR ht hx h5 z16
   have hu' : (en t l m z16 x).used = ((k + 1 : Nat) : Int) := by
    show x.used + 1 = _
    omega
   unfold yt at hS
   rw [hS, ae]
   dsimp only
   have hb : 0 ≤ (gA l x).2 ∧ (gA l x).2 ≤ 7 := by
    rcases hE with ⟨v, a, a1, _, e, _⟩ | ⟨v, a, a1, _, e, _⟩ | ⟨e | e | e, _⟩ <;> rw [e] <;> dsimp only <;> omega
   rw [if_neg (by decide), if_neg (by simp; omega), if_neg (by simp; omega)]
   generalize en t l m z16 x = x' at hx' hE hu'
   have hj : ∃ v : Nat, v < 256 ∧ d6 x' = (v : Int) ∧ (my n hs (d6 x) (k : Int) j1 4 j3 t.sw t.la t.co x'.ph x'.left x'.used x'.inn x'.c.mem (gA l x).1 (gA l x).2 (x'.ph == 5) l m x'.c.s.ret x'.c.on x'.c.s.at_ x'.c.s.stk x'.c.s.loc x'.c.s.inp x'.c.s.out x'.c.s.set x'.c.s.rds x'.c.s.held x'.c.s.flt x'.c.s.stp).bind (fun y75 => mz n y75.1 y75.2.1 y75.2.2.1 y75.2.2.2.1 y75.2.2.2.2.1 y75.2.2.2.2.2.1 y75.2.2.2.2.2.2.1 y75.2.2.2.2.2.2.2.1 y75.2.2.2.2.2.2.2.2.1 y75.2.2.2.2.2.2.2.2.2.1 y75.2.2.2.2.2.2.2.2.2.2.1 y75.2.2.2.2.2.2.2.2.2.2.2.1 y75.2.2.2.2.2.2.2.2.2.2.2.2.1 y75.2.2.2.2.2.2.2.2.2.2.2.2.2.1 y75.2.2.2.2.2.2.2.2.2.2.2.2.2.2.1 y75.2.2.2.2.2.2.2.2.2.2.2.2.2.2.2.1 y75.2.2.2.2.2.2.2.2.2.2.2.2.2.2.2.2.1 y75.2.2.2.2.2.2.2.2.2.2.2.2.2.2.2.2.2.1 y75.2.2.2.2.2.2.2.2.2.2.2.2.2.2.2.2.2.2.1 y75.2.2.2.2.2.2.2.2.2.2.2.2.2.2.2.2.2.2.2.1 y75.2.2.2.2.2.2.2.2.2.2.2.2.2.2.2.2.2.2.2.2.1 y75.2.2.2.2.2.2.2.2.2.2.2.2.2.2.2.2.2.2.2.2.2.1 y75.2.2.2.2.2.2.2.2.2.2.2.2.2.2.2.2.2.2.2.2.2.2.1 y75.2.2.2.2.2.2.2.2.2.2.2.2.2.2.2.2.2.2.2.2.2.2.2.1 y75.2.2.2.2.2.2.2.2.2.2.2.2.2.2.2.2.2.2.2.2.2.2.2.2.1 y75.2.2.2.2.2.2.2.2.2.2.2.2.2.2.2.2.2.2.2.2.2.2.2.2.2.1 y75.2.2.2.2.2.2.2.2.2.2.2.2.2.2.2.2.2.2.2.2.2.2.2.2.2.2.1 y75.2.2.2.2.2.2.2.2.2.2.2.2.2.2.2.2.2.2.2.2.2.2.2.2.2.2.2.1 y75.2.2.2.2.2.2.2.2.2.2.2.2.2.2.2.2.2.2.2.2.2.2.2.2.2.2.2.2.1 y75.2.2.2.2.2.2.2.2.2.2.2.2.2.2.2.2.2.2.2.2.2.2.2.2.2.2.2.2.2.1 y75.2.2.2.2.2.2.2.2.2.2.2.2.2.2.2.2.2.2.2.2.2.2.2.2.2.2.2.2.2.2) = some (hs, d6 x', (k : Int), j1, 4, j3, t.sw, t.la, t.co, x'.ph, x'.left, x'.used, x'.inn, x'.c.mem, (gA l x).1, (gA l x).2, (x'.ph == 5), l, m, x'.c.s.ret, x'.c.on, x'.c.s.at_, x'.c.s.stk, x'.c.s.loc, x'.c.s.inp, x'.c.s.out, x'.c.s.set, x'.c.s.rds, x'.c.s.held, x'.c.s.flt, x'.c.s.stp) := by
    rcases hE with ⟨v, a, a1, a2, e, e1, e2⟩ | ⟨v, a, a1, a2, e, e1, e2⟩ | ⟨e, e2⟩
    ·have hpa := Nat.two_pow_pos a
     refine ⟨v + 2 ^ a, a2, e2, ?_⟩
     unfold my
     rw [e, e1, e2]
     dsimp only
     rw [if_pos (by decide), if_neg (by simp), show wrap .i64 (1 * 2 ^ (min ((a : Int)).toNat 64)) = ((2 ^ a : Nat) : Int) from lD a1, dL (show -9223372036854775808 ≤ (v : Int) + ((2 ^ a : Nat) : Int) by omega) (by omega), ae]
     unfold mz
     dsimp only
     rw [if_neg (by decide)]
     rfl
    ·have hpa := Nat.two_pow_pos a
     refine ⟨v, by omega, e2, ?_⟩
     unfold my
     rw [e, e1, e2]
     dsimp only
     rw [if_neg (by decide), ae]
     unfold mz
     dsimp only
     rw [if_pos (by decide), if_neg (by simp), show wrap .i64 (1 * 2 ^ (min ((a : Int)).toNat 64)) = ((2 ^ a : Nat) : Int) from lD a1, dL (show -9223372036854775808 ≤ ((v + 2 ^ a : Nat) : Int) - ((2 ^ a : Nat) : Int) by omega) (by omega), show ((v + 2 ^ a : Nat) : Int) - ((2 ^ a : Nat) : Int) = (v : Int) by omega]
    ·refine ⟨v0, v01, e2.trans v02, ?_⟩
     unfold my
     rw [e2]
     rcases e with e | e | e <;> rw [e] <;> dsimp only <;> rw [if_neg (by decide), ae] <;> unfold mz <;> dsimp only <;> rw [if_neg (by decide)]
   obtain ⟨v, v1, v2, hj⟩ := hj
   rw [Option.bind_eq_some_iff] at hj
   obtain ⟨y75, j1', j2'⟩ := hj
   rw [j1', ae, j2', ae]
   dsimp only
   rw [show kT n (hs, d6 x', (k : Int), 4, 0, j1, 4, j3, t.sw, t.la, t.co, x'.ph, x'.left, x'.used, x'.inn, x'.c.mem, l, m, x'.c.s.ret, x'.c.on, x'.c.s.at_, x'.c.s.stk, x'.c.s.loc, x'.c.s.inp, x'.c.s.out, x'.c.s.set, x'.c.s.rds, x'.c.s.held, x'.c.s.flt, x'.c.s.stp) = _ from BL n (by omega) hh (d6 x') (k : Int) j1 4 j3 t l m x', ae]
   dsimp only
   have eH : ∀ (v1 v2 v3 v4 v5 v6 v7 v8 v9 : Int) (v10 : List Int) (v11 : List cK) (v12 v13 : List Int) (v14 : Bool) (v15 : Int) (v16 v17 v18 v19 : List Int) (v20 : Int) (v21 : List Int) (v22 v23 v24 : Int), fQ n v1 v2 v3 v4 v5 v6 v7 v8 v9 v10 v11 v12 v13 v14 v15 v16 v17 v18 v19 v20 v21 v22 v23 v24 = some ((if v7 < 2 then 0 else v22), v1, v2, v3, v4, v5, v6, v7, v8, v9, v10, v11, v12, v13, v14, v15, v16, v17, v18, v19, v20, v21, v22, v23, v24) := fun v1 v2 v3 v4 v5 v6 v7 v8 v9 v10 v11 v12 v13 v14 v15 v16 v17 v18 v19 v20 v21 v22 v23 v24 => by
    unfold fQ
    by_cases hv : v7 < 2
    ·rw [if_pos (af hv), if_pos hv]
    ·rw [if_neg (fun h => hv (bx h)), if_neg hv]
     rfl
   have eQ : ∀ (v1 v2 v3 v4 v5 v6 v7 v8 v9 : Int) (v10 : List Int) (v11 : List cK) (v12 v13 : List Int) (v14 : Bool) (v15 : Int) (v16 v17 v18 v19 : List Int) (v20 : Int) (v21 : List Int) (v22 v23 v24 : Int), eu n v1 v2 v3 v4 v5 v6 v7 v8 v9 v10 v11 v12 v13 v14 v15 v16 v17 v18 v19 v20 v21 v22 v23 v24 = some (if v7 < 2 then 0 else v22) := fun v1 v2 v3 v4 v5 v6 v7 v8 v9 v10 v11 v12 v13 v14 v15 v16 v17 v18 v19 v20 v21 v22 v23 v24 => by
    unfold eu f7
    rw [ae, if_neg (by decide)]
    by_cases hv : v7 < 2
    ·rw [if_pos (af hv), if_pos hv]
    ·rw [if_neg (fun h => hv (bx h)), if_neg hv]
     rfl
   rw [eH, ae]
   dsimp only
   rw [show (if x'.ph < 2 then 0 else x'.c.s.held) = d6 x' from rfl, if_neg (by simp), eQ, ae]
   rw [show (if x'.ph < 2 then 0 else x'.c.s.held) = d6 x' from rfl, v2, zY n (by omega) 4 v1 (by omega), ae, hh]
   rw [if_neg (by simp), d4 (by omega)]
   exact hF _ ⟨k + 1, x', by omega, by omega, hx', hu', by rw [v2]⟩
 ·rw [if_neg (by simp; omega)]
  exact ⟨_, rfl, _, rfl⟩
theorem ju (a0 : (List (Int × (Int × Int)))) (a1 : (Int × (Int × Int))) (a2 : (List Int)) (ok0 : Sh.Ok (.sl (.pair (.int .i64) (.pair (.int .i64) (.int .i64)))) a0) (ok1 : Sh.Ok (.pair (.int .i64) (.pair (.int .i64) (.int .i64))) a1) (ok2 : Sh.Ok (.arr 8 (.int .u8)) a2) : ∃ n, yd n a0 a1 a2 = some true := by
 refine ⟨30000, ?_⟩
 unfold yd
 rw [CC]
 rcases aq 200 a0.length with hl | hl
 ·rw [if_pos (af (by omega))]
  rfl
 rw [if_neg (by simp; omega), zK 30000 a0 (by omega) (by omega), ae]
 dsimp only
 by_cases h1 : iY a0 = 0
 ·rw [if_neg (by simp [h1]), yn 30000 a0 (by omega) (by omega) (by omega), ae]
  dsimp only
  by_cases h2 : kC a0 = 0
  ·have hR := D9 h1 h2
   have hl0 := hR.fine.len
   have eR : ∀ (v1 : List cK) (v2 v3 : List Int) (v4 : Bool) (v5 : Int) (v6 v7 v8 v9 : List Int) (v10 : Int) (v11 : List Int) (v12 v13 v14 : Int), fO 30000 v1 v2 v3 v4 v5 v6 v7 v8 v9 v10 v11 v12 v13 v14 = some (v4, v1, v2, v3, v4, v5, v6, v7, v8, v9, v10, v11, v12, v13, v14) := fun _ _ _ _ _ _ _ _ _ _ _ _ _ _ => rfl
   rw [if_neg (by simp [h2]), wo 30000 a0 (by omega) (by omega), ae, if_pos (Ea hl), af (show (a0.length : Int) > 0 by omega), if_neg (by decide), eR, ae]
   dsimp only
   rw [if_neg (by decide), BI, ae]
   by_cases hq : pb ⟨a1.1, a1.2.1, a1.2.2⟩ = true
   ·have ht := times_ok.1 hq
    rw [hq, if_neg (by decide)]
    have hs := o9 30000 (by omega) 0 4 0 ht (ph := 0) (left := a1.1) (by omega) 0 z16 a0 (scanI a0).1 false Ec
    have e0 : rg = ey := rfl
    unfold o8 o7 at hs
    dsimp only at hs
    rw [e0, hs, ae]
    dsimp only
    obtain ⟨hs, h8, hb1⟩ := BK 30000 (by omega) a2 0 4 0 ⟨a1.1, a1.2.1, a1.2.2⟩ (dT ⟨a1.1, a1.2.1, a1.2.2⟩ 0 a1.1).1 (dT ⟨a1.1, a1.2.1, a1.2.2⟩ 0 a1.1).2 0 z16 a0 (scanI a0).1 false Ec
    dsimp only at hb1
    rw [hb1, ae]
    dsimp only
    obtain ⟨r, f1, z, f2⟩ := BM 30000 (by omega) hR ht h8 0 0 (BJ ht a0 (scanI a0).1 (kD a0) Ec [z8, z8, z8, z8, z8, z8, z8, z8]) rfl (by unfold d6; split <;> rfl)
    subst f2
    rw [f1, ae]
    rfl
   ·rw [if_pos (by simpa using hq)]
    rfl
  ·rw [if_pos (by simpa using h2), if_pos (by simpa using h2)]
   split <;> rfl
 ·rw [if_pos (by simpa using h1), if_pos (by simpa using h1)]
  split <;> rfl
end Go.Proofs.Dk
