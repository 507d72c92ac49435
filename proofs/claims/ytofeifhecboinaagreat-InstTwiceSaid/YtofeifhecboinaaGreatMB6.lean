/- A part of the proofs: Plain: a machine's state, and a step of it. -/
import Derived.Test.YtofeifhecboinaaGreatMB5
import Derived.Test.YtofeifhecboinaaGreatMB4
set_option linter.unusedVariables false
set_option linter.unusedSimpArgs false
noncomputable section
namespace Go.Proofs.Dk
open Go Go.IntKind
set_option maxRecDepth 100000
def pv (v : List Int) : Int := v.getD (v.length - 1) 0
def pr (v : List Int) : List Int := v.take (v.length - 1)
theorem fh (r : List Int) (x : Int) : pv (r ++ [x]) = x := by
 unfold pv
 rw [aX, aA, bb (by simp)]
 simp
theorem gp (r : List Int) (x : Int) : pr (r ++ [x]) = r := by
 unfold pr
 rw [aX, List.length_singleton, cy, List.take_left']
 rfl
theorem ut (r : List Int) (x y : Int) : pv (r ++ [x, y]) = y := by
 rw [show r ++ [x, y] = (r ++ [x]) ++ [y] by simp, fh]
theorem uu (r : List Int) (x y : Int) : pr (r ++ [x, y]) = r ++ [x] := by
 rw [show r ++ [x, y] = (r ++ [x]) ++ [y] by simp, gp]
theorem Hx {v : List Int} (h : 0 < v.length) (h2 : v.length < 1000) : wrap .i64 ((v.length : Int) - 1) = ((v.length - 1 : Nat) : Int) := by
 rw [dC (by omega) (by omega)]
 omega
theorem fH (n : Nat) (v1 : List cP) (v2 v3 : List Int) (v4 : Bool) (v5 : Int) {v6 : List Int} (v7 v8 v9 : List Int) (v10 : Int) (v11 : List Int) (v12 v13 v14 : Int) (h : 0 < v6.length) (h2 : v6.length < 1000) :
  dH n v1 v2 v3 v4 v5 v6 v7 v8 v9 v10 v11 v12 v13 v14 = some (pv v6, v1, v2, v3, v4, v5, pr v6, v7, v8, v9, v10, v11, v12, v13, v14) := by
 unfold dH pv pr
 rw [Hx h h2, if_pos (cU (by omega)), if_pos (by simp), ai, bf]
def rh (A a b : Int) : Int × Bool := (dR 0 A a b).getD (0, false)
theorem Nr (b : Int) : ¬ bits .and .i64 b 63 < 0 := by
 show ¬ IntKind.i64.wrap ((BitVec.ofInt 64 b &&& BitVec.ofInt 64 ((63 : Nat) : Int)).toNat : Int) < 0
 rw [BitVec.toNat_and, ofInt_u64 63 (by omega)]
 have : (BitVec.ofInt 64 b).toNat &&& 63 ≤ 63 := Nat.and_le_right
 rw [dC (by omega) (by omega)]
 omega
theorem Hy (n : Nat) {A : Int} (hA : 1 ≤ A ∧ A ≤ 12) (a b : Int) : dR n A a b = some (rh A a b) ∧ (11 ≤ A → (rh A a b).1 = 0 ∨ (rh A a b).1 = 1) := by
 have hc : A = 1 ∨ A = 2 ∨ A = 3 ∨ A = 4 ∨ A = 5 ∨ A = 6 ∨ A = 7 ∨ A = 8 ∨ A = 9 ∨ A = 10 ∨ A = 11 ∨ A = 12 := by omega
 have key : ∀ x, dR n A a b = some x → dR 0 A a b = some x → dR n A a b = some (rh A a b) ∧ rh A a b = x := fun x h1 h2 => by
  unfold rh
  rw [h1, h2]
  exact ⟨rfl, rfl⟩
 have hm := Nr b
 rcases hc with rfl | rfl | rfl | rfl | rfl | rfl | rfl | rfl | rfl | rfl | rfl | rfl
 ·exact ⟨(key (wrap .i64 (a + b), false) rfl rfl).1, fun h => by omega⟩
 ·exact ⟨(key (wrap .i64 (a - b), false) rfl rfl).1, fun h => by omega⟩
 ·exact ⟨(key (wrap .i64 (a * b), false) rfl rfl).1, fun h => by omega⟩
 ·have hz : ∀ n, dR n 4 a b = some (if b = 0 then (0, true) else (wrap .i64 (a.tdiv b), false)) := fun n => by
   have : dR n 4 a b = (if (b == 0) then (some (0, true)) else (if (b == 0) then none else (some ((wrap .i64 (a.tdiv b)), false)))) := by kernel_rfl
   rw [this]
   by_cases hb : b = 0
   ·rw [if_pos (by simpa using hb), if_pos hb]
   ·rw [if_neg (by simpa using hb), if_neg (by simpa using hb), if_neg hb]
  exact ⟨(key _ (hz n) (hz 0)).1, fun h => by omega⟩
 ·have hz : ∀ n, dR n 5 a b = some (if b = 0 then (0, true) else (a.tmod b, false)) := fun n => by
   have : dR n 5 a b = (if (b == 0) then (some (0, true)) else (if (b == 0) then none else (some ((a.tmod b), false)))) := by kernel_rfl
   rw [this]
   by_cases hb : b = 0
   ·rw [if_pos (by simpa using hb), if_pos hb]
   ·rw [if_neg (by simpa using hb), if_neg (by simpa using hb), if_neg hb]
  exact ⟨(key _ (hz n) (hz 0)).1, fun h => by omega⟩
 ·exact ⟨(key (bits .and .i64 a b, false) rfl rfl).1, fun h => by omega⟩
 ·exact ⟨(key (bits .or .i64 a b, false) rfl rfl).1, fun h => by omega⟩
 ·exact ⟨(key (bits .xor .i64 a b, false) rfl rfl).1, fun h => by omega⟩
 ·have hz : ∀ n, dR n 9 a b = some (wrap .i64 (a * 2 ^ (min ((bits .and .i64 b 63)).toNat 64)), false) := fun n => by
   have : dR n 9 a b = ((if decide ((bits .and .i64 b 63) < 0) then none else (some (wrap .i64 (a * 2 ^ (min ((bits .and .i64 b 63)).toNat 64)))) : Option Int).bind fun y => some (y, false)) := by kernel_rfl
   rw [this, if_neg (by simpa using hm)]
   rfl
  exact ⟨(key _ (hz n) (hz 0)).1, fun h => by omega⟩
 ·have hz : ∀ n, dR n 10 a b = some ((a.fdiv (2 ^ (min ((bits .and .i64 b 63)).toNat 64))), false) := fun n => by
   have : dR n 10 a b = ((if decide ((bits .and .i64 b 63) < 0) then none else (some (a.fdiv (2 ^ (min ((bits .and .i64 b 63)).toNat 64)))) : Option Int).bind fun y => some (y, false)) := by kernel_rfl
   rw [this, if_neg (by simpa using hm)]
   rfl
  exact ⟨(key _ (hz n) (hz 0)).1, fun h => by omega⟩
 ·have hz : ∀ n, dR n 11 a b = some ((if decide (a < b) = true then 1 else 0), false) := fun n => by
   have : dR n 11 a b = (((if decide (a < b) then (some 1) else (some 0) : Option Int).bind fun y => some y).bind fun y => some (y, false)) := by kernel_rfl
   rw [this]
   split <;> rfl
  obtain ⟨k1, k2⟩ := key _ (hz n) (hz 0)
  refine ⟨k1, fun _ => ?_⟩
  rw [k2]
  simp only
  split
  ·exact .inr rfl
  ·exact .inl rfl
 ·have hz : ∀ n, dR n 12 a b = some ((if (a == b) = true then 1 else 0), false) := fun n => by
   have : dR n 12 a b = (((if (a == b) then (some 1) else (some 0) : Option Int).bind fun y => some y).bind fun y => some (y, false)) := by kernel_rfl
   rw [this]
   split <;> rfl
  obtain ⟨k1, k2⟩ := key _ (hz n) (hz 0)
  refine ⟨k1, fun _ => ?_⟩
  rw [k2]
  simp only
  split
  ·exact .inr rfl
  ·exact .inl rfl
structure MS where
 ret : List Int
 at_ : Int
 stk : List Int
 loc : List Int
 inp : List Int
 out : List Int
 set : Int
 rds : List Int
 held : Int
 flt : Int
 stp : Int
abbrev dS := List (List Int)
abbrev z8 : List Int := [(0 : Int), (0 : Int), (0 : Int), (0 : Int), (0 : Int), (0 : Int), (0 : Int), (0 : Int)]
abbrev mO (A : Int) : Int := wrap .i64 (1 * 2 ^ (min A.toNat 64))
def fv (x : cP) (s : MS) (mem : dS) : List Int :=
 if x.1 = 1 then s.stk ++ [x.2.1]
 else if x.1 = 2 ∨ x.1 = 12 ∨ x.1 = 14 ∨ x.1 = 16 ∨ x.1 = 18 ∨ x.1 = 20 then pr s.stk
 else if x.1 = 3 then s.stk ++ [pv s.stk]
 else if x.1 = 4 then (pr (pr s.stk) ++ [pv s.stk]) ++ [pv (pr s.stk)]
 else if x.1 = 5 then pr (pr s.stk) ++ [(rh x.2.1 (pv (pr s.stk)) (pv s.stk)).1]
 else if x.1 = 6 then pr s.stk ++ [wrap .i64 (0 - pv s.stk)]
 else if x.1 = 7 then pr s.stk ++ [if pv s.stk = 0 then 1 else 0]
 else if x.1 = 8 then pr (pr s.stk) ++ [bits .and .i64 (pv s.stk) (pv (pr s.stk))]
 else if x.1 = 9 then pr (pr s.stk) ++ [bits .or .i64 (pv s.stk) (pv (pr s.stk))]
 else if x.1 = 11 then s.stk ++ [s.loc.getD x.2.1.toNat 0]
 else if x.1 = 13 then s.stk ++ [s.ret.getD x.2.1.toNat 0]
 else if x.1 = 15 then s.stk ++ [s.inp.getD x.2.1.toNat 0]
 else if x.1 = 17 then s.stk ++ [(mem.getD x.2.1.toNat z8).getD x.2.2.toNat 0]
 else s.stk
def dT (x : cP) (mt : Int) (s : MS) : Int :=
 if x.1 = 19 then s.at_ + 1 + x.2.1
 else if x.1 = 20 then (if pv s.stk = 0 then s.at_ + 1 + x.2.1 else s.at_ + 1)
 else if x.1 = 22 then (if pv s.rds - 1 > 0 then mt + 1 else s.at_ + 1)
 else s.at_ + 1
def fw (x : cP) (s : MS) : List Int :=
 if x.1 = 21 then s.rds ++ [x.2.1]
 else if x.1 = 22 then (if pv s.rds - 1 > 0 then pr s.rds ++ [pv s.rds - 1] else pr s.rds)
 else s.rds
def eb (x : cP) (mt : Int) (s : MS) (mem : dS) : MS where
 ret := if x.1 = 14 then s.ret.set x.2.1.toNat (pv s.stk) else s.ret
 at_ := dT x mt s
 stk := fv x s mem
 loc := if x.1 = 12 then s.loc.set x.2.1.toNat (pv s.stk) else s.loc
 inp := s.inp
 out := if x.1 = 16 then s.out.set x.2.1.toNat (pv s.stk) else s.out
 set := if x.1 = 16 then bits .or .i64 s.set (mO x.2.1) else s.set
 rds := fw x s
 held := if x.1 = 23 then bits .or .i64 s.held (mO x.2.1) else if x.1 = 24 then bits .andNot .i64 s.held (mO x.2.1) else s.held
 flt := if x.1 = 5 then wrap .i64 (s.flt + (if (rh x.2.1 (pv (pr s.stk)) (pv s.stk)).2 = true then 1 else 0)) else s.flt
 stp := wrap .i64 (s.stp + 1)
def wt (x : cP) (s : MS) (mem : dS) : dS := if x.1 = 18 then mem.set x.2.1.toNat ((mem.getD x.2.1.toNat z8).set x.2.2.toNat (pv s.stk)) else mem
def Oj (x : cP) : Int × Int := if x.1 = 25 then (3, 0) else if x.1 = 24 then (2, x.2.1) else if x.1 = 23 then (1, x.2.1) else (0, 0)
abbrev Fj (l : List cP) (m : List Int) (on : Bool) (s : MS) (mem : dS) := (l, m, s.ret, on, s.at_, s.stk, s.loc, s.inp, s.out, s.set, s.rds, s.held, s.flt, s.stp, mem)
abbrev xI (n : Nat) (l : List cP) (m : List Int) (on : Bool) (s : MS) (mem : dS) := dq n l m s.ret on s.at_ s.stk s.loc s.inp s.out s.set s.rds s.held s.flt s.stp mem
theorem mI {o A B : Int} (ho : o = 11 ∨ o = 12 ∨ o = 13 ∨ o = 14 ∨ o = 23 ∨ o = 24) (h : cZ (o, A, B) = true) : 0 ≤ A ∧ A ≤ 7 := by
 have key : cS 0 (o, A, B) = (if decide (A ≥ 0) then (if decide (A ≤ 7) then some (B == 0) else some false) else some false) := by
  rcases ho with rfl | rfl | rfl | rfl | rfl | rfl
  ·exact JZ 0 A B
  ·exact J0 0 A B
  ·exact J1 0 A B
  ·exact J2 0 A B
  ·exact E4 0 A B
  ·exact J6 0 A B
 have h1 := (eq 0 (o, A, B)).symm.trans key
 rw [h] at h1
 by_cases h2 : A ≥ 0
 ·rw [if_pos (ah h2)] at h1
  by_cases h3 : A ≤ 7
  ·exact ⟨h2, h3⟩
  ·rw [if_neg (by simpa using h3)] at h1; cases h1
 ·rw [if_neg (by simpa using h2)] at h1; cases h1
theorem yy {o A B : Int} (ho : o = 15 ∨ o = 16) (h : cZ (o, A, B) = true) : 0 ≤ A ∧ A ≤ 15 := by
 have key : cS 0 (o, A, B) = (if decide (A ≥ 0) then (if decide (A ≤ 15) then some (B == 0) else some false) else some false) := by
  rcases ho with rfl | rfl
  ·exact J3 0 A B
  ·exact J4 0 A B
 have h1 := (eq 0 (o, A, B)).symm.trans key
 rw [h] at h1
 by_cases h2 : A ≥ 0
 ·rw [if_pos (ah h2)] at h1
  by_cases h3 : A ≤ 15
  ·exact ⟨h2, h3⟩
  ·rw [if_neg (by simpa using h3)] at h1; cases h1
 ·rw [if_neg (by simpa using h2)] at h1; cases h1
theorem D9 {o A B : Int} (ho : o = 17 ∨ o = 18) (h : cZ (o, A, B) = true) : (0 ≤ A ∧ A ≤ 7) ∧ (0 ≤ B ∧ B ≤ 7) := by
 have key : cS 0 (o, A, B) = (if decide (A ≥ 0) then (if decide (A ≤ 7) then (if decide (B ≥ 0) then some (decide (B ≤ 7)) else some false) else some false) else some false) := by
  rcases ho with rfl | rfl
  ·exact E0 0 A B
  ·exact E1 0 A B
 have h1 := (eq 0 (o, A, B)).symm.trans key
 rw [h] at h1
 by_cases h2 : A ≥ 0
 ·rw [if_pos (ah h2)] at h1
  by_cases h3 : A ≤ 7
  ·rw [if_pos (ah h3)] at h1
   by_cases h4 : B ≥ 0
   ·rw [if_pos (ah h4)] at h1
    exact ⟨⟨h2, h3⟩, h4, bl (aq h1).symm⟩
   ·rw [if_neg (by simpa using h4)] at h1; cases h1
  ·rw [if_neg (by simpa using h3)] at h1; cases h1
 ·rw [if_neg (by simpa using h2)] at h1; cases h1
structure Row (l : List cP) (m h : List Int) (st : List ByteArray) : Prop where
 fine : Fine l m h
 stk : Stk l m st
 rise : Jy l m
theorem Ns {l : List cP} (h1 : eg l = 0) (h2 : ej l = 0) : Row l (scanI l).1 (scanI l).2.1 (pY l) :=
 ⟨jc (tN h1), (Fa h2).2, Fe h1⟩
structure Ok (l : List cP) (m : List Int) (st : List ByteArray) (s : MS) (i : Nat) (rs : List (Nat × Int)) : Prop where
 place : s.at_ = (i : Int)
 lt : i < l.length
 vt : VT (mZ st i) s.stk
 lps : rs.map (·.1) = lps l m i
 rds : s.rds = rs.map (·.2)
 rnd : ∀ e ∈ rs, 1 ≤ e.2 ∧ e.2 ≤ cT l e.1
 held : ∃ v : Nat, s.held = (v : Int) ∧ HeldB l m i v
theorem fz {v : List Int} (h : v.length ≤ 1000) : (decide ((v.length + 1) * 8 ≤ 140737488355328) && decide (1 ≤ 8)) = true := by simp; omega
theorem l4 {A k : Int} (h : 0 ≤ A ∧ A < k) : (decide (0 ≤ A) && decide (A < k)) = true := by simp; exact h
theorem eG (v : List Int) : (pr v).length = v.length - 1 := by
 unfold pr
 rw [List.length_take]
 omega
theorem d8 {i : Nat} (h : i < 1000000) : wrap .i64 ((i : Int) + 1) = (i : Int) + 1 := dC (by omega) (by omega)
theorem JE {r : List Int} {x y : Int} : (r ++ [x]).set r.length y = r ++ [y] := by
 rw [List.set_append_right _ _ (aj _), bw]
 rfl
abbrev d5 (n : Nat) (l : List cP) (m : List Int) (x : cP) (mt : Int) (s : MS) (mem : dS) : Prop :=
 xI n l m true s mem = some (Oj x, 0, Fj l m (decide (x.1 ≠ 25)) (eb x mt s mem) (wt x s mem))
theorem Qw (n : Nat) {l : List cP} {m : List Int} {i : Nat} (hl : l.length ≤ 200) (hi : i < l.length) {A B : Int} (hx : l.getD i (0, 0, 0) = (1, A, B)) (hr : cZ (1, A, B) = true) {ret stk loc inp out rds : List Int} {set held flt stp : Int} {mem : dS} (hs : stk.length ≤ 16) {mt : Int} : d5 n l m (1, A, B) mt ⟨ret, (i : Int), stk, loc, inp, out, set, rds, held, flt, stp⟩ mem := by
 have h0 : decide ((l.length : Int) > 0) = true := ah (by omega)
 have hi2 : (decide (0 ≤ (i : Int)) && decide ((i : Int) < (l.length : Int))) = true := cU hi
 have hx2 : l.getD ((i : Int)).toNat (0, 0, 0) = (1, A, B) := by rw [ai]; exact hx
 have hn := d8 (show i < 1000000 by omega)
 refine (OA n (v1 := l) (v2 := m) (v3 := ret) (v5 := (i : Int)) (v6 := stk) (v7 := loc) (v8 := inp) (v9 := out) (v10 := set) (v11 := rds) (v12 := held) (v13 := flt) (v14 := stp) (v15 := mem) h0 hi2 hx2).trans ?_
 rw [if_pos (fz (by omega)), hn]
 kernel_rfl
theorem Qx (n : Nat) {l : List cP} {m : List Int} {i : Nat} (hl : l.length ≤ 200) (hi : i < l.length) {A B : Int} (hx : l.getD i (0, 0, 0) = (2, A, B)) (hr : cZ (2, A, B) = true) {ret stk loc inp out rds : List Int} {set held flt stp : Int} {mem : dS} (hs : stk.length ≤ 16) (hd : 1 ≤ stk.length) {mt : Int} : d5 n l m (2, A, B) mt ⟨ret, (i : Int), stk, loc, inp, out, set, rds, held, flt, stp⟩ mem := by
 have h0 : decide ((l.length : Int) > 0) = true := ah (by omega)
 have hi2 : (decide (0 ≤ (i : Int)) && decide ((i : Int) < (l.length : Int))) = true := cU hi
 have hx2 : l.getD ((i : Int)).toNat (0, 0, 0) = (2, A, B) := by rw [ai]; exact hx
 have hn := d8 (show i < 1000000 by omega)
 refine (OB n (v1 := l) (v2 := m) (v3 := ret) (v5 := (i : Int)) (v6 := stk) (v7 := loc) (v8 := inp) (v9 := out) (v10 := set) (v11 := rds) (v12 := held) (v13 := flt) (v14 := stp) (v15 := mem) h0 hi2 hx2).trans ?_
 rw [fH n _ _ _ _ _ (v6 := stk) _ _ _ _ _ _ _ _ (by omega) (by omega), ae, hn]
 kernel_rfl
theorem Qy (n : Nat) {l : List cP} {m : List Int} {i : Nat} (hl : l.length ≤ 200) (hi : i < l.length) {A B : Int} (hx : l.getD i (0, 0, 0) = (3, A, B)) (hr : cZ (3, A, B) = true) {ret stk loc inp out rds : List Int} {set held flt stp : Int} {mem : dS} (hs : stk.length ≤ 16) (hd : 1 ≤ stk.length) {mt : Int} : d5 n l m (3, A, B) mt ⟨ret, (i : Int), stk, loc, inp, out, set, rds, held, flt, stp⟩ mem := by
 have h0 : decide ((l.length : Int) > 0) = true := ah (by omega)
 have hi2 : (decide (0 ≤ (i : Int)) && decide ((i : Int) < (l.length : Int))) = true := cU hi
 have hx2 : l.getD ((i : Int)).toNat (0, 0, 0) = (3, A, B) := by rw [ai]; exact hx
 have hn := d8 (show i < 1000000 by omega)
 refine (OC n (v1 := l) (v2 := m) (v3 := ret) (v5 := (i : Int)) (v6 := stk) (v7 := loc) (v8 := inp) (v9 := out) (v10 := set) (v11 := rds) (v12 := held) (v13 := flt) (v14 := stp) (v15 := mem) h0 hi2 hx2).trans ?_
 rw [Hx (by omega) (by omega), if_pos (cU (by omega)), if_pos (fz (by omega)), hn, ai]
 kernel_rfl
theorem Qz (n : Nat) {l : List cP} {m : List Int} {i : Nat} (hl : l.length ≤ 200) (hi : i < l.length) {A B : Int} (hx : l.getD i (0, 0, 0) = (4, A, B)) (hr : cZ (4, A, B) = true) {ret stk loc inp out rds : List Int} {set held flt stp : Int} {mem : dS} (hs : stk.length ≤ 16) (hd : 2 ≤ stk.length) {mt : Int} : d5 n l m (4, A, B) mt ⟨ret, (i : Int), stk, loc, inp, out, set, rds, held, flt, stp⟩ mem := by
 have h0 : decide ((l.length : Int) > 0) = true := ah (by omega)
 have hi2 : (decide (0 ≤ (i : Int)) && decide ((i : Int) < (l.length : Int))) = true := cU hi
 have hx2 : l.getD ((i : Int)).toNat (0, 0, 0) = (4, A, B) := by rw [ai]; exact hx
 have hn := d8 (show i < 1000000 by omega)
 refine (OD n (v1 := l) (v2 := m) (v3 := ret) (v5 := (i : Int)) (v6 := stk) (v7 := loc) (v8 := inp) (v9 := out) (v10 := set) (v11 := rds) (v12 := held) (v13 := flt) (v14 := stp) (v15 := mem) h0 hi2 hx2).trans ?_
 rw [fH n _ _ _ _ _ (v6 := stk) _ _ _ _ _ _ _ _ (by omega) (by omega), ae, fH n _ _ _ _ _ (v6 := pr stk) _ _ _ _ _ _ _ _ (by rw [eG]; omega) (by rw [eG]; omega), ae]
 simp only []
 rw [if_pos (fz (by rw [eG, eG]; omega)), if_pos (fz (by rw [aX, eG, eG, List.length_singleton]; omega)), hn]
 kernel_rfl
theorem QA (n : Nat) {l : List cP} {m : List Int} {i : Nat} (hl : l.length ≤ 200) (hi : i < l.length) {A B : Int} (hx : l.getD i (0, 0, 0) = (5, A, B)) (hr : cZ (5, A, B) = true) {ret stk loc inp out rds : List Int} {set held flt stp : Int} {mem : dS} (hs : stk.length ≤ 16) (hd : 2 ≤ stk.length) {mt : Int} : d5 n l m (5, A, B) mt ⟨ret, (i : Int), stk, loc, inp, out, set, rds, held, flt, stp⟩ mem := by
 have h0 : decide ((l.length : Int) > 0) = true := ah (by omega)
 have hi2 : (decide (0 ≤ (i : Int)) && decide ((i : Int) < (l.length : Int))) = true := cU hi
 have hx2 : l.getD ((i : Int)).toNat (0, 0, 0) = (5, A, B) := by rw [ai]; exact hx
 have hn := d8 (show i < 1000000 by omega)
 have hb : ∀ b : Bool, gh n b = some (if b = true then 1 else 0) := fun b => by cases b <;> rfl
 refine (OE n (v1 := l) (v2 := m) (v3 := ret) (v5 := (i : Int)) (v6 := stk) (v7 := loc) (v8 := inp) (v9 := out) (v10 := set) (v11 := rds) (v12 := held) (v13 := flt) (v14 := stp) (v15 := mem) h0 hi2 hx2).trans ?_
 rw [fH n _ _ _ _ _ (v6 := stk) _ _ _ _ _ _ _ _ (by omega) (by omega), ae, fH n _ _ _ _ _ (v6 := pr stk) _ _ _ _ _ _ _ _ (by rw [eG]; omega) (by rw [eG]; omega), ae]
 simp only []
 rw [(Hy n (Ch hr) _ _).1, ae]
 rw [hb, ae, if_pos (fz (by rw [eG, eG]; omega)), hn]
 kernel_rfl
theorem QB (n : Nat) {l : List cP} {m : List Int} {i : Nat} (hl : l.length ≤ 200) (hi : i < l.length) {A B : Int} (hx : l.getD i (0, 0, 0) = (6, A, B)) (hr : cZ (6, A, B) = true) {ret stk loc inp out rds : List Int} {set held flt stp : Int} {mem : dS} (hs : stk.length ≤ 16) (hd : 1 ≤ stk.length) {mt : Int} : d5 n l m (6, A, B) mt ⟨ret, (i : Int), stk, loc, inp, out, set, rds, held, flt, stp⟩ mem := by
 have h0 : decide ((l.length : Int) > 0) = true := ah (by omega)
 have hi2 : (decide (0 ≤ (i : Int)) && decide ((i : Int) < (l.length : Int))) = true := cU hi
 have hx2 : l.getD ((i : Int)).toNat (0, 0, 0) = (6, A, B) := by rw [ai]; exact hx
 have hn := d8 (show i < 1000000 by omega)
 refine (OF n (v1 := l) (v2 := m) (v3 := ret) (v5 := (i : Int)) (v6 := stk) (v7 := loc) (v8 := inp) (v9 := out) (v10 := set) (v11 := rds) (v12 := held) (v13 := flt) (v14 := stp) (v15 := mem) h0 hi2 hx2).trans ?_
 rw [fH n _ _ _ _ _ (v6 := stk) _ _ _ _ _ _ _ _ (by omega) (by omega), ae]
 simp only []
 rw [show oI n (pv stk) = some (wrap .i64 (0 - pv stk)) from rfl, ae, if_pos (fz (by rw [eG]; omega)), hn]
 kernel_rfl
theorem QC (n : Nat) {l : List cP} {m : List Int} {i : Nat} (hl : l.length ≤ 200) (hi : i < l.length) {A B : Int} (hx : l.getD i (0, 0, 0) = (7, A, B)) (hr : cZ (7, A, B) = true) {ret stk loc inp out rds : List Int} {set held flt stp : Int} {mem : dS} (hs : stk.length ≤ 16) (hd : 1 ≤ stk.length) {mt : Int} : d5 n l m (7, A, B) mt ⟨ret, (i : Int), stk, loc, inp, out, set, rds, held, flt, stp⟩ mem := by
 have h0 : decide ((l.length : Int) > 0) = true := ah (by omega)
 have hi2 : (decide (0 ≤ (i : Int)) && decide ((i : Int) < (l.length : Int))) = true := cU hi
 have hx2 : l.getD ((i : Int)).toNat (0, 0, 0) = (7, A, B) := by rw [ai]; exact hx
 have hn := d8 (show i < 1000000 by omega)
 have hb : mo n (pv stk) = some (if pv stk = 0 then 1 else 0) := by
  unfold mo gh
  by_cases h : pv stk = 0
  ·rw [if_pos (by simpa using h), if_pos h]; rfl
  ·rw [if_neg (by simpa using h), if_neg h]; rfl
 refine (OG n (v1 := l) (v2 := m) (v3 := ret) (v5 := (i : Int)) (v6 := stk) (v7 := loc) (v8 := inp) (v9 := out) (v10 := set) (v11 := rds) (v12 := held) (v13 := flt) (v14 := stp) (v15 := mem) h0 hi2 hx2).trans ?_
 rw [fH n _ _ _ _ _ (v6 := stk) _ _ _ _ _ _ _ _ (by omega) (by omega), ae]
 simp only []
 rw [hb, ae, if_pos (fz (by rw [eG]; omega)), hn]
 kernel_rfl
theorem QD (n : Nat) {l : List cP} {m : List Int} {i : Nat} (hl : l.length ≤ 200) (hi : i < l.length) {A B : Int} (hx : l.getD i (0, 0, 0) = (8, A, B)) (hr : cZ (8, A, B) = true) {ret stk loc inp out rds : List Int} {set held flt stp : Int} {mem : dS} (hs : stk.length ≤ 16) (hd : 2 ≤ stk.length) {mt : Int} : d5 n l m (8, A, B) mt ⟨ret, (i : Int), stk, loc, inp, out, set, rds, held, flt, stp⟩ mem := by
 have h0 : decide ((l.length : Int) > 0) = true := ah (by omega)
 have hi2 : (decide (0 ≤ (i : Int)) && decide ((i : Int) < (l.length : Int))) = true := cU hi
 have hx2 : l.getD ((i : Int)).toNat (0, 0, 0) = (8, A, B) := by rw [ai]; exact hx
 have hn := d8 (show i < 1000000 by omega)
 refine (OH n (v1 := l) (v2 := m) (v3 := ret) (v5 := (i : Int)) (v6 := stk) (v7 := loc) (v8 := inp) (v9 := out) (v10 := set) (v11 := rds) (v12 := held) (v13 := flt) (v14 := stp) (v15 := mem) h0 hi2 hx2).trans ?_
 rw [fH n _ _ _ _ _ (v6 := stk) _ _ _ _ _ _ _ _ (by omega) (by omega), ae, fH n _ _ _ _ _ (v6 := pr stk) _ _ _ _ _ _ _ _ (by rw [eG]; omega) (by rw [eG]; omega), ae]
 simp only []
 rw [if_pos (fz (by rw [eG, eG]; omega)), hn]
 kernel_rfl
theorem QE (n : Nat) {l : List cP} {m : List Int} {i : Nat} (hl : l.length ≤ 200) (hi : i < l.length) {A B : Int} (hx : l.getD i (0, 0, 0) = (9, A, B)) (hr : cZ (9, A, B) = true) {ret stk loc inp out rds : List Int} {set held flt stp : Int} {mem : dS} (hs : stk.length ≤ 16) (hd : 2 ≤ stk.length) {mt : Int} : d5 n l m (9, A, B) mt ⟨ret, (i : Int), stk, loc, inp, out, set, rds, held, flt, stp⟩ mem := by
 have h0 : decide ((l.length : Int) > 0) = true := ah (by omega)
 have hi2 : (decide (0 ≤ (i : Int)) && decide ((i : Int) < (l.length : Int))) = true := cU hi
 have hx2 : l.getD ((i : Int)).toNat (0, 0, 0) = (9, A, B) := by rw [ai]; exact hx
 have hn := d8 (show i < 1000000 by omega)
 refine (OI n (v1 := l) (v2 := m) (v3 := ret) (v5 := (i : Int)) (v6 := stk) (v7 := loc) (v8 := inp) (v9 := out) (v10 := set) (v11 := rds) (v12 := held) (v13 := flt) (v14 := stp) (v15 := mem) h0 hi2 hx2).trans ?_
 rw [fH n _ _ _ _ _ (v6 := stk) _ _ _ _ _ _ _ _ (by omega) (by omega), ae, fH n _ _ _ _ _ (v6 := pr stk) _ _ _ _ _ _ _ _ (by rw [eG]; omega) (by rw [eG]; omega), ae]
 simp only []
 rw [if_pos (fz (by rw [eG, eG]; omega)), hn]
 kernel_rfl
theorem OJ (n : Nat) {l : List cP} {m : List Int} {i : Nat} (hl : l.length ≤ 200) (hi : i < l.length) {A B : Int} (hx : l.getD i (0, 0, 0) = (10, A, B)) (hr : cZ (10, A, B) = true) {ret stk loc inp out rds : List Int} {set held flt stp : Int} {mem : dS} (hs : stk.length ≤ 16) {mt : Int} : d5 n l m (10, A, B) mt ⟨ret, (i : Int), stk, loc, inp, out, set, rds, held, flt, stp⟩ mem := by
 have h0 : decide ((l.length : Int) > 0) = true := ah (by omega)
 have hi2 : (decide (0 ≤ (i : Int)) && decide ((i : Int) < (l.length : Int))) = true := cU hi
 have hx2 : l.getD ((i : Int)).toNat (0, 0, 0) = (10, A, B) := by rw [ai]; exact hx
 have hn := d8 (show i < 1000000 by omega)
 refine (NX n (v1 := l) (v2 := m) (v3 := ret) (v5 := (i : Int)) (v6 := stk) (v7 := loc) (v8 := inp) (v9 := out) (v10 := set) (v11 := rds) (v12 := held) (v13 := flt) (v14 := stp) (v15 := mem) h0 hi2 hx2).trans ?_
 rw [hn]
 kernel_rfl
theorem OK (n : Nat) {l : List cP} {m : List Int} {i : Nat} (hl : l.length ≤ 200) (hi : i < l.length) {A B : Int} (hx : l.getD i (0, 0, 0) = (11, A, B)) (hr : cZ (11, A, B) = true) {ret stk loc inp out rds : List Int} {set held flt stp : Int} {mem : dS} (hs : stk.length ≤ 16) {mt : Int} : d5 n l m (11, A, B) mt ⟨ret, (i : Int), stk, loc, inp, out, set, rds, held, flt, stp⟩ mem := by
 have h0 : decide ((l.length : Int) > 0) = true := ah (by omega)
 have hi2 : (decide (0 ≤ (i : Int)) && decide ((i : Int) < (l.length : Int))) = true := cU hi
 have hx2 : l.getD ((i : Int)).toNat (0, 0, 0) = (11, A, B) := by rw [ai]; exact hx
 have hn := d8 (show i < 1000000 by omega)
 have ha := mI (by omega) hr
 refine (NY n (v1 := l) (v2 := m) (v3 := ret) (v5 := (i : Int)) (v6 := stk) (v7 := loc) (v8 := inp) (v9 := out) (v10 := set) (v11 := rds) (v12 := held) (v13 := flt) (v14 := stp) (v15 := mem) h0 hi2 hx2).trans ?_
 rw [if_pos (l4 (by omega)), if_pos (fz (by omega)), hn]
 kernel_rfl
theorem OL (n : Nat) {l : List cP} {m : List Int} {i : Nat} (hl : l.length ≤ 200) (hi : i < l.length) {A B : Int} (hx : l.getD i (0, 0, 0) = (13, A, B)) (hr : cZ (13, A, B) = true) {ret stk loc inp out rds : List Int} {set held flt stp : Int} {mem : dS} (hs : stk.length ≤ 16) {mt : Int} : d5 n l m (13, A, B) mt ⟨ret, (i : Int), stk, loc, inp, out, set, rds, held, flt, stp⟩ mem := by
 have h0 : decide ((l.length : Int) > 0) = true := ah (by omega)
 have hi2 : (decide (0 ≤ (i : Int)) && decide ((i : Int) < (l.length : Int))) = true := cU hi
 have hx2 : l.getD ((i : Int)).toNat (0, 0, 0) = (13, A, B) := by rw [ai]; exact hx
 have hn := d8 (show i < 1000000 by omega)
 have ha := mI (by omega) hr
 refine (N0 n (v1 := l) (v2 := m) (v3 := ret) (v5 := (i : Int)) (v6 := stk) (v7 := loc) (v8 := inp) (v9 := out) (v10 := set) (v11 := rds) (v12 := held) (v13 := flt) (v14 := stp) (v15 := mem) h0 hi2 hx2).trans ?_
 rw [if_pos (l4 (by omega)), if_pos (fz (by omega)), hn]
 kernel_rfl
theorem OM (n : Nat) {l : List cP} {m : List Int} {i : Nat} (hl : l.length ≤ 200) (hi : i < l.length) {A B : Int} (hx : l.getD i (0, 0, 0) = (15, A, B)) (hr : cZ (15, A, B) = true) {ret stk loc inp out rds : List Int} {set held flt stp : Int} {mem : dS} (hs : stk.length ≤ 16) {mt : Int} : d5 n l m (15, A, B) mt ⟨ret, (i : Int), stk, loc, inp, out, set, rds, held, flt, stp⟩ mem := by
 have h0 : decide ((l.length : Int) > 0) = true := ah (by omega)
 have hi2 : (decide (0 ≤ (i : Int)) && decide ((i : Int) < (l.length : Int))) = true := cU hi
 have hx2 : l.getD ((i : Int)).toNat (0, 0, 0) = (15, A, B) := by rw [ai]; exact hx
 have hn := d8 (show i < 1000000 by omega)
 have ha := yy (by omega) hr
 refine (N2 n (v1 := l) (v2 := m) (v3 := ret) (v5 := (i : Int)) (v6 := stk) (v7 := loc) (v8 := inp) (v9 := out) (v10 := set) (v11 := rds) (v12 := held) (v13 := flt) (v14 := stp) (v15 := mem) h0 hi2 hx2).trans ?_
 rw [if_pos (l4 (by omega)), if_pos (fz (by omega)), hn]
 kernel_rfl
theorem ON (n : Nat) {l : List cP} {m : List Int} {i : Nat} (hl : l.length ≤ 200) (hi : i < l.length) {A B : Int} (hx : l.getD i (0, 0, 0) = (17, A, B)) (hr : cZ (17, A, B) = true) {ret stk loc inp out rds : List Int} {set held flt stp : Int} {mem : dS} (hs : stk.length ≤ 16) {mt : Int} : d5 n l m (17, A, B) mt ⟨ret, (i : Int), stk, loc, inp, out, set, rds, held, flt, stp⟩ mem := by
 have h0 : decide ((l.length : Int) > 0) = true := ah (by omega)
 have hi2 : (decide (0 ≤ (i : Int)) && decide ((i : Int) < (l.length : Int))) = true := cU hi
 have hx2 : l.getD ((i : Int)).toNat (0, 0, 0) = (17, A, B) := by rw [ai]; exact hx
 have hn := d8 (show i < 1000000 by omega)
 have ha := D9 (by omega) hr
 refine (N4 n (v1 := l) (v2 := m) (v3 := ret) (v5 := (i : Int)) (v6 := stk) (v7 := loc) (v8 := inp) (v9 := out) (v10 := set) (v11 := rds) (v12 := held) (v13 := flt) (v14 := stp) (v15 := mem) h0 hi2 hx2).trans ?_
 rw [if_pos (l4 (by omega)), if_pos (l4 (by omega)), if_pos (fz (by omega)), hn]
 kernel_rfl
theorem OO (n : Nat) {l : List cP} {m : List Int} {i : Nat} (hl : l.length ≤ 200) (hi : i < l.length) {A B : Int} (hx : l.getD i (0, 0, 0) = (12, A, B)) (hr : cZ (12, A, B) = true) {ret stk loc inp out rds : List Int} {set held flt stp : Int} {mem : dS} (hs : stk.length ≤ 16) (hd : 1 ≤ stk.length) {mt : Int} : d5 n l m (12, A, B) mt ⟨ret, (i : Int), stk, loc, inp, out, set, rds, held, flt, stp⟩ mem := by
 have h0 : decide ((l.length : Int) > 0) = true := ah (by omega)
 have hi2 : (decide (0 ≤ (i : Int)) && decide ((i : Int) < (l.length : Int))) = true := cU hi
 have hx2 : l.getD ((i : Int)).toNat (0, 0, 0) = (12, A, B) := by rw [ai]; exact hx
 have hn := d8 (show i < 1000000 by omega)
 have ha := mI (by omega) hr
 refine (NZ n (v1 := l) (v2 := m) (v3 := ret) (v5 := (i : Int)) (v6 := stk) (v7 := loc) (v8 := inp) (v9 := out) (v10 := set) (v11 := rds) (v12 := held) (v13 := flt) (v14 := stp) (v15 := mem) h0 hi2 hx2).trans ?_
 rw [fH n _ _ _ _ _ (v6 := stk) _ _ _ _ _ _ _ _ (by omega) (by omega), ae, if_pos (l4 (by omega)), hn]
 kernel_rfl
theorem OP (n : Nat) {l : List cP} {m : List Int} {i : Nat} (hl : l.length ≤ 200) (hi : i < l.length) {A B : Int} (hx : l.getD i (0, 0, 0) = (14, A, B)) (hr : cZ (14, A, B) = true) {ret stk loc inp out rds : List Int} {set held flt stp : Int} {mem : dS} (hs : stk.length ≤ 16) (hd : 1 ≤ stk.length) {mt : Int} : d5 n l m (14, A, B) mt ⟨ret, (i : Int), stk, loc, inp, out, set, rds, held, flt, stp⟩ mem := by
 have h0 : decide ((l.length : Int) > 0) = true := ah (by omega)
 have hi2 : (decide (0 ≤ (i : Int)) && decide ((i : Int) < (l.length : Int))) = true := cU hi
 have hx2 : l.getD ((i : Int)).toNat (0, 0, 0) = (14, A, B) := by rw [ai]; exact hx
 have hn := d8 (show i < 1000000 by omega)
 have ha := mI (by omega) hr
 refine (N1 n (v1 := l) (v2 := m) (v3 := ret) (v5 := (i : Int)) (v6 := stk) (v7 := loc) (v8 := inp) (v9 := out) (v10 := set) (v11 := rds) (v12 := held) (v13 := flt) (v14 := stp) (v15 := mem) h0 hi2 hx2).trans ?_
 rw [fH n _ _ _ _ _ (v6 := stk) _ _ _ _ _ _ _ _ (by omega) (by omega), ae, if_pos (l4 (by omega)), hn]
 kernel_rfl
theorem OQ (n : Nat) {l : List cP} {m : List Int} {i : Nat} (hl : l.length ≤ 200) (hi : i < l.length) {A B : Int} (hx : l.getD i (0, 0, 0) = (16, A, B)) (hr : cZ (16, A, B) = true) {ret stk loc inp out rds : List Int} {set held flt stp : Int} {mem : dS} (hs : stk.length ≤ 16) (hd : 1 ≤ stk.length) {mt : Int} : d5 n l m (16, A, B) mt ⟨ret, (i : Int), stk, loc, inp, out, set, rds, held, flt, stp⟩ mem := by
 have h0 : decide ((l.length : Int) > 0) = true := ah (by omega)
 have hi2 : (decide (0 ≤ (i : Int)) && decide ((i : Int) < (l.length : Int))) = true := cU hi
 have hx2 : l.getD ((i : Int)).toNat (0, 0, 0) = (16, A, B) := by rw [ai]; exact hx
 have hn := d8 (show i < 1000000 by omega)
 have ha := yy (by omega) hr
 refine (N3 n (v1 := l) (v2 := m) (v3 := ret) (v5 := (i : Int)) (v6 := stk) (v7 := loc) (v8 := inp) (v9 := out) (v10 := set) (v11 := rds) (v12 := held) (v13 := flt) (v14 := stp) (v15 := mem) h0 hi2 hx2).trans ?_
 rw [fH n _ _ _ _ _ (v6 := stk) _ _ _ _ _ _ _ _ (by omega) (by omega), ae, if_pos (l4 (by omega)), if_neg (by simp; omega), hn]
 kernel_rfl
theorem OR (n : Nat) {l : List cP} {m : List Int} {i : Nat} (hl : l.length ≤ 200) (hi : i < l.length) {A B : Int} (hx : l.getD i (0, 0, 0) = (18, A, B)) (hr : cZ (18, A, B) = true) {ret stk loc inp out rds : List Int} {set held flt stp : Int} {mem : dS} (hs : stk.length ≤ 16) (hd : 1 ≤ stk.length) {mt : Int} : d5 n l m (18, A, B) mt ⟨ret, (i : Int), stk, loc, inp, out, set, rds, held, flt, stp⟩ mem := by
 have h0 : decide ((l.length : Int) > 0) = true := ah (by omega)
 have hi2 : (decide (0 ≤ (i : Int)) && decide ((i : Int) < (l.length : Int))) = true := cU hi
 have hx2 : l.getD ((i : Int)).toNat (0, 0, 0) = (18, A, B) := by rw [ai]; exact hx
 have hn := d8 (show i < 1000000 by omega)
 have ha := D9 (by omega) hr
 refine (N5 n (v1 := l) (v2 := m) (v3 := ret) (v5 := (i : Int)) (v6 := stk) (v7 := loc) (v8 := inp) (v9 := out) (v10 := set) (v11 := rds) (v12 := held) (v13 := flt) (v14 := stp) (v15 := mem) h0 hi2 hx2).trans ?_
 rw [fH n _ _ _ _ _ (v6 := stk) _ _ _ _ _ _ _ _ (by omega) (by omega), ae, if_pos (l4 (by omega)), if_pos (l4 (by omega)), hn]
 kernel_rfl
theorem OS (n : Nat) {l : List cP} {m : List Int} {i : Nat} (hl : l.length ≤ 200) (hi : i < l.length) {A B : Int} (hx : l.getD i (0, 0, 0) = (19, A, B)) (hr : cZ (19, A, B) = true) {ret stk loc inp out rds : List Int} {set held flt stp : Int} {mem : dS} (hs : stk.length ≤ 16) {mt : Int} : d5 n l m (19, A, B) mt ⟨ret, (i : Int), stk, loc, inp, out, set, rds, held, flt, stp⟩ mem := by
 have h0 : decide ((l.length : Int) > 0) = true := ah (by omega)
 have hi2 : (decide (0 ≤ (i : Int)) && decide ((i : Int) < (l.length : Int))) = true := cU hi
 have hx2 : l.getD ((i : Int)).toNat (0, 0, 0) = (19, A, B) := by rw [ai]; exact hx
 have hn := d8 (show i < 1000000 by omega)
 have ha := n8 (.inl rfl) hr
 refine (N6 n (v1 := l) (v2 := m) (v3 := ret) (v5 := (i : Int)) (v6 := stk) (v7 := loc) (v8 := inp) (v9 := out) (v10 := set) (v11 := rds) (v12 := held) (v13 := flt) (v14 := stp) (v15 := mem) h0 hi2 hx2).trans ?_
 rw [hn, dC (show -9223372036854775808 ≤ (i : Int) + 1 + A by omega) (by omega)]
 kernel_rfl
theorem OT (n : Nat) {l : List cP} {m : List Int} {i : Nat} (hl : l.length ≤ 200) (hi : i < l.length) {A B : Int} (hx : l.getD i (0, 0, 0) = (20, A, B)) (hr : cZ (20, A, B) = true) {ret stk loc inp out rds : List Int} {set held flt stp : Int} {mem : dS} (hs : stk.length ≤ 16) (hd : 1 ≤ stk.length) {mt : Int} : d5 n l m (20, A, B) mt ⟨ret, (i : Int), stk, loc, inp, out, set, rds, held, flt, stp⟩ mem := by
 have h0 : decide ((l.length : Int) > 0) = true := ah (by omega)
 have hi2 : (decide (0 ≤ (i : Int)) && decide ((i : Int) < (l.length : Int))) = true := cU hi
 have hx2 : l.getD ((i : Int)).toNat (0, 0, 0) = (20, A, B) := by rw [ai]; exact hx
 have hn := d8 (show i < 1000000 by omega)
 have ha := n8 (.inr rfl) hr
 refine (N7 n (v1 := l) (v2 := m) (v3 := ret) (v5 := (i : Int)) (v6 := stk) (v7 := loc) (v8 := inp) (v9 := out) (v10 := set) (v11 := rds) (v12 := held) (v13 := flt) (v14 := stp) (v15 := mem) h0 hi2 hx2).trans ?_
 rw [fH n _ _ _ _ _ (v6 := stk) _ _ _ _ _ _ _ _ (by omega) (by omega), ae]
 simp only []
 rw [hn, dC (show -9223372036854775808 ≤ (i : Int) + 1 + A by omega) (by omega)]
 by_cases h : pv stk = 0
 ·rw [if_pos (by simpa using h)]
  unfold eb
  rw [show dT (20, A, B) mt ⟨ret, (i : Int), stk, loc, inp, out, set, rds, held, flt, stp⟩ = (i : Int) + 1 + A by
   unfold dT
   rw [if_neg (show ¬ (20 : Int) = 19 by decide), if_pos rfl, if_pos h]]
  kernel_rfl
 ·rw [if_neg (by simpa using h)]
  unfold eb
  rw [show dT (20, A, B) mt ⟨ret, (i : Int), stk, loc, inp, out, set, rds, held, flt, stp⟩ = (i : Int) + 1 by
   unfold dT
   rw [if_neg (show ¬ (20 : Int) = 19 by decide), if_pos rfl, if_neg h]]
  kernel_rfl
theorem OU (n : Nat) {l : List cP} {m : List Int} {i : Nat} (hl : l.length ≤ 200) (hi : i < l.length) {A B : Int} (hx : l.getD i (0, 0, 0) = (21, A, B)) (hr : cZ (21, A, B) = true) {ret stk loc inp out rds : List Int} {set held flt stp : Int} {mem : dS} (hs : stk.length ≤ 16) (hd : rds.length ≤ 200) {mt : Int} : d5 n l m (21, A, B) mt ⟨ret, (i : Int), stk, loc, inp, out, set, rds, held, flt, stp⟩ mem := by
 have h0 : decide ((l.length : Int) > 0) = true := ah (by omega)
 have hi2 : (decide (0 ≤ (i : Int)) && decide ((i : Int) < (l.length : Int))) = true := cU hi
 have hx2 : l.getD ((i : Int)).toNat (0, 0, 0) = (21, A, B) := by rw [ai]; exact hx
 have hn := d8 (show i < 1000000 by omega)
 refine (N8 n (v1 := l) (v2 := m) (v3 := ret) (v5 := (i : Int)) (v6 := stk) (v7 := loc) (v8 := inp) (v9 := out) (v10 := set) (v11 := rds) (v12 := held) (v13 := flt) (v14 := stp) (v15 := mem) h0 hi2 hx2).trans ?_
 rw [if_pos (fz (by omega)), hn]
 kernel_rfl
theorem OV (n : Nat) {l : List cP} {m : List Int} {i : Nat} (hl : l.length ≤ 200) (hi : i < l.length) {A B : Int} (hx : l.getD i (0, 0, 0) = (22, A, B)) (hr : cZ (22, A, B) = true) {ret stk loc inp out rds : List Int} {set held flt stp : Int} {mem : dS} (hs : stk.length ≤ 16) {r0 : List Int} {r : Int} (hrd : rds = r0 ++ [r]) (hr1 : 1 ≤ r ∧ r ≤ 1000) (hd : r0.length ≤ 200) (hm : m.length = l.length) {k : Nat} (hk : m.getD i 0 = (k : Int)) (hk2 : k < i) {mt : Int} (hmt : mt = m.getD i 0) : d5 n l m (22, A, B) mt ⟨ret, (i : Int), stk, loc, inp, out, set, rds, held, flt, stp⟩ mem := by
 have h0 : decide ((l.length : Int) > 0) = true := ah (by omega)
 have hi2 : (decide (0 ≤ (i : Int)) && decide ((i : Int) < (l.length : Int))) = true := cU hi
 have hx2 : l.getD ((i : Int)).toNat (0, 0, 0) = (22, A, B) := by rw [ai]; exact hx
 have hn := d8 (show i < 1000000 by omega)
 have hlen : (r0 ++ [r]).length = r0.length + 1 := by simp
 subst hrd
 have e1 : wrap .i64 (((r0 ++ [r]).length : Int) - 1) = (r0.length : Int) := by
  rw [dC (by omega) (by omega)]; omega
 have e2 : (r0 ++ [r]).getD r0.length 0 = r := by
  have := fh r0 r
  unfold pv at this
  rw [hlen, cy] at this
  exact this
 have e3 : wrap .i64 (r - 1) = r - 1 := dC (by omega) (by omega)
 have e4 : (r0 ++ [r - 1]).getD r0.length 0 = r - 1 := by
  have := fh r0 (r - 1)
  unfold pv at this
  rw [show (r0 ++ [r - 1]).length = r0.length + 1 by simp, cy] at this
  exact this
 have e5 : (r0 ++ [r - 1]).length = r0.length + 1 := by simp
 have e6 : (r0 ++ [r - 1]).take r0.length = r0 := by rw [List.take_left]
 have a1 : r - 1 > 0 → dT (22, A, B) mt ⟨ret, (i : Int), stk, loc, inp, out, set, r0 ++ [r], held, flt, stp⟩ = (k : Int) + 1 ∧ fw (22, A, B) ⟨ret, (i : Int), stk, loc, inp, out, set, r0 ++ [r], held, flt, stp⟩ = r0 ++ [r - 1] := fun h => by
  unfold dT fw
  simp only [fh, gp]
  simp only [if_true, if_pos h, hmt, hk]
  exact ⟨rfl, rfl⟩
 have a2 : ¬ r - 1 > 0 → dT (22, A, B) mt ⟨ret, (i : Int), stk, loc, inp, out, set, r0 ++ [r], held, flt, stp⟩ = (i : Int) + 1 ∧ fw (22, A, B) ⟨ret, (i : Int), stk, loc, inp, out, set, r0 ++ [r], held, flt, stp⟩ = r0 := fun h => by
  unfold dT fw
  simp only [fh, gp]
  simp only [if_true, if_neg h]
  exact ⟨rfl, rfl⟩
 refine (N9 n (v1 := l) (v2 := m) (v3 := ret) (v5 := (i : Int)) (v6 := stk) (v7 := loc) (v8 := inp) (v9 := out) (v10 := set) (v11 := r0 ++ [r]) (v12 := held) (v13 := flt) (v14 := stp) (v15 := mem) h0 hi2 hx2).trans ?_
 rw [e1]
 simp only [ai, e2, e3, JE, e4, bf, e6, hk]
 rw [if_pos (cU (by omega)), if_pos (cU (by omega)), if_pos (cU (by omega)), hn, d8 (show k < 1000000 by omega)]
 by_cases h : r - 1 > 0
 ·rw [if_pos (ah h), if_pos (cU (by omega))]
  unfold eb
  rw [(a1 h).1, (a1 h).2]
  kernel_rfl
 ·rw [if_neg (by simpa using h), if_pos (by simp only [e5, ak, am]; omega)]
  unfold eb
  rw [(a2 h).1, (a2 h).2]
  kernel_rfl
theorem OW (n : Nat) {l : List cP} {m : List Int} {i : Nat} (hl : l.length ≤ 200) (hi : i < l.length) {A B : Int} (hx : l.getD i (0, 0, 0) = (23, A, B)) (hr : cZ (23, A, B) = true) {ret stk loc inp out rds : List Int} {set held flt stp : Int} {mem : dS} (hs : stk.length ≤ 16) {mt : Int} : d5 n l m (23, A, B) mt ⟨ret, (i : Int), stk, loc, inp, out, set, rds, held, flt, stp⟩ mem := by
 have h0 : decide ((l.length : Int) > 0) = true := ah (by omega)
 have hi2 : (decide (0 ≤ (i : Int)) && decide ((i : Int) < (l.length : Int))) = true := cU hi
 have hx2 : l.getD ((i : Int)).toNat (0, 0, 0) = (23, A, B) := by rw [ai]; exact hx
 have hn := d8 (show i < 1000000 by omega)
 have ha := mI (by omega) hr
 refine (Oa n (v1 := l) (v2 := m) (v3 := ret) (v5 := (i : Int)) (v6 := stk) (v7 := loc) (v8 := inp) (v9 := out) (v10 := set) (v11 := rds) (v12 := held) (v13 := flt) (v14 := stp) (v15 := mem) h0 hi2 hx2).trans ?_
 rw [if_neg (by simp; omega), hn]
 kernel_rfl
theorem OX (n : Nat) {l : List cP} {m : List Int} {i : Nat} (hl : l.length ≤ 200) (hi : i < l.length) {A B : Int} (hx : l.getD i (0, 0, 0) = (24, A, B)) (hr : cZ (24, A, B) = true) {ret stk loc inp out rds : List Int} {set held flt stp : Int} {mem : dS} (hs : stk.length ≤ 16) {mt : Int} : d5 n l m (24, A, B) mt ⟨ret, (i : Int), stk, loc, inp, out, set, rds, held, flt, stp⟩ mem := by
 have h0 : decide ((l.length : Int) > 0) = true := ah (by omega)
 have hi2 : (decide (0 ≤ (i : Int)) && decide ((i : Int) < (l.length : Int))) = true := cU hi
 have hx2 : l.getD ((i : Int)).toNat (0, 0, 0) = (24, A, B) := by rw [ai]; exact hx
 have hn := d8 (show i < 1000000 by omega)
 have ha := mI (by omega) hr
 refine (Ob n (v1 := l) (v2 := m) (v3 := ret) (v5 := (i : Int)) (v6 := stk) (v7 := loc) (v8 := inp) (v9 := out) (v10 := set) (v11 := rds) (v12 := held) (v13 := flt) (v14 := stp) (v15 := mem) h0 hi2 hx2).trans ?_
 rw [if_neg (by simp; omega), hn]
 kernel_rfl
theorem OY (n : Nat) {l : List cP} {m : List Int} {i : Nat} (hl : l.length ≤ 200) (hi : i < l.length) {A B : Int} (hx : l.getD i (0, 0, 0) = (25, A, B)) (hr : cZ (25, A, B) = true) {ret stk loc inp out rds : List Int} {set held flt stp : Int} {mem : dS} (hs : stk.length ≤ 16) {mt : Int} : d5 n l m (25, A, B) mt ⟨ret, (i : Int), stk, loc, inp, out, set, rds, held, flt, stp⟩ mem := by
 have h0 : decide ((l.length : Int) > 0) = true := ah (by omega)
 have hi2 : (decide (0 ≤ (i : Int)) && decide ((i : Int) < (l.length : Int))) = true := cU hi
 have hx2 : l.getD ((i : Int)).toNat (0, 0, 0) = (25, A, B) := by rw [ai]; exact hx
 have hn := d8 (show i < 1000000 by omega)
 refine (Oc n (v1 := l) (v2 := m) (v3 := ret) (v5 := (i : Int)) (v6 := stk) (v7 := loc) (v8 := inp) (v9 := out) (v10 := set) (v11 := rds) (v12 := held) (v13 := flt) (v14 := stp) (v15 := mem) h0 hi2 hx2).trans ?_
 rw [hn]
 kernel_rfl
theorem Hz {x y : Int} (hx : x = 0 ∨ x = 1) (hy : y = 0 ∨ y = 1) : (bits .and .i64 y x = 0 ∨ bits .and .i64 y x = 1) ∧ (bits .or .i64 y x = 0 ∨ bits .or .i64 y x = 1) := by
 rcases hx with rfl | rfl <;> rcases hy with rfl | rfl
 ·exact ⟨.inl (by kernel_rfl), .inl (by kernel_rfl)⟩
 ·exact ⟨.inl (by kernel_rfl), .inr (by kernel_rfl)⟩
 ·exact ⟨.inl (by kernel_rfl), .inr (by kernel_rfl)⟩
 ·exact ⟨.inr (by kernel_rfl), .inr (by kernel_rfl)⟩
theorem yz {o A B : Int} {t : ByteArray} {S : MS} {mem : dS} (hr : cZ (o, A, B) = true) (h : (dg (o, A, B) t).2 = 0) (hv : VT t S.stk) :
  VT (dg (o, A, B) t).1 (fv (o, A, B) S mem) ∧ (o = 2 ∨ o = 3 ∨ o = 6 ∨ o = 7 ∨ o = 12 ∨ o = 14 ∨ o = 16 ∨ o = 18 ∨ o = 20 → 1 ≤ S.stk.length) ∧ (o = 4 ∨ o = 5 ∨ o = 8 ∨ o = 9 → 2 ≤ S.stk.length) := by
 have hA := fun (h5 : o = 5) => Ch (h5 ▸ hr)
 have in_ : ∀ y, (o = 1 ∨ o = 11 ∨ o = 13 ∨ o = 15 ∨ o = 17) → fv (o, A, B) S mem = S.stk ++ [y] → VT (dg (o, A, B) t).1 (fv (o, A, B) S mem) ∧ (o = 2 ∨ o = 3 ∨ o = 6 ∨ o = 7 ∨ o = 12 ∨ o = 14 ∨ o = 16 ∨ o = 18 ∨ o = 20 → 1 ≤ S.stk.length) ∧ (o = 4 ∨ o = 5 ∨ o = 8 ∨ o = 9 → 2 ≤ S.stk.length) := fun y ho e => by
  rw [e]
  exact ⟨NW h hv ho y, fun h => by omega, fun h => by omega⟩
 have out : (o = 2 ∨ o = 12 ∨ o = 14 ∨ o = 16 ∨ o = 18 ∨ o = 20) → VT (dg (o, A, B) t).1 (fv (o, A, B) S mem) ∧ (o = 2 ∨ o = 3 ∨ o = 6 ∨ o = 7 ∨ o = 12 ∨ o = 14 ∨ o = 16 ∨ o = 18 ∨ o = 20 → 1 ≤ S.stk.length) ∧ (o = 4 ∨ o = 5 ∨ o = 8 ∨ o = 9 → 2 ≤ S.stk.length) := fun ho => by
  obtain ⟨r, x, e1, e2⟩ := Nj h hv ho
  have e : fv (o, A, B) S mem = pr S.stk := by
   unfold fv
   rw [if_neg (by show ¬ o = 1; omega), if_pos (show o = 2 ∨ o = 12 ∨ o = 14 ∨ o = 16 ∨ o = 18 ∨ o = 20 from ho)]
  rw [e, e1, gp]
  exact ⟨e2, fun _ => by simp, fun h => by omega⟩
 have no : (o = 19 ∨ o = 21 ∨ o = 22 ∨ o = 23 ∨ o = 24 ∨ o = 25) → fv (o, A, B) S mem = S.stk → VT (dg (o, A, B) t).1 (fv (o, A, B) S mem) ∧ (o = 2 ∨ o = 3 ∨ o = 6 ∨ o = 7 ∨ o = 12 ∨ o = 14 ∨ o = 16 ∨ o = 18 ∨ o = 20 → 1 ≤ S.stk.length) ∧ (o = 4 ∨ o = 5 ∨ o = 8 ∨ o = 9 → 2 ≤ S.stk.length) := fun ho e => by
  rw [e]
  exact ⟨Ff h hv ho, fun h => by omega, fun h => by omega⟩
 rcases oa (lN hr) with ho | ho | ho | ho | ho | ho | ho | ho | ho | ho | ho | ho | ho | ho | ho | ho | ho | ho | ho | ho | ho | ho | ho | ho | ho
 ·exact in_ A (by omega) (by subst ho; kernel_rfl)
 ·exact out (by omega)
 ·obtain ⟨r, x, e1, e2⟩ := Nk h hv ho
  have e : fv (o, A, B) S mem = S.stk ++ [pv S.stk] := by subst ho; kernel_rfl
  rw [e, e1, fh, aJ]
  exact ⟨e2, fun _ => by simp, fun h => by omega⟩
 ·obtain ⟨r, x, y, e1, e2⟩ := Ky h hv ho
  have e : fv (o, A, B) S mem = (pr (pr S.stk) ++ [pv S.stk]) ++ [pv (pr S.stk)] := by subst ho; kernel_rfl
  rw [e, e1, ut, uu, fh, gp, aJ]
  exact ⟨e2, fun h => by omega, fun _ => by simp⟩
 ·obtain ⟨r, x, y, e1, e2⟩ := Nn h hv ho
  have e : fv (o, A, B) S mem = pr (pr S.stk) ++ [(rh A (pv (pr S.stk)) (pv S.stk)).1] := by subst ho; kernel_rfl
  rw [e, e1, ut, uu, fh, gp]
  exact ⟨e2 _ (Hy 0 (hA ho) _ _).2, fun h => by omega, fun _ => by simp⟩
 ·obtain ⟨r, x, e1, e2⟩ := Nl h hv ho
  have e : fv (o, A, B) S mem = pr S.stk ++ [wrap .i64 (0 - pv S.stk)] := by subst ho; kernel_rfl
  rw [e, e1, gp]
  exact ⟨e2 _, fun _ => by simp, fun h => by omega⟩
 ·obtain ⟨r, x, e1, e2, e3⟩ := Nm h hv ho
  have e : fv (o, A, B) S mem = pr S.stk ++ [if pv S.stk = 0 then 1 else 0] := by subst ho; kernel_rfl
  rw [e, e1, gp]
  exact ⟨e3 _ (by split; exact .inr rfl; exact .inl rfl), fun _ => by simp, fun h => by omega⟩
 ·obtain ⟨r, x, y, e1, e2, e3, e4⟩ := Hs h hv (.inl ho)
  have e : fv (o, A, B) S mem = pr (pr S.stk) ++ [bits .and .i64 (pv S.stk) (pv (pr S.stk))] := by subst ho; kernel_rfl
  rw [e, e1, ut, uu, fh, gp]
  exact ⟨e4 _ (Hz e2 e3).1, fun h => by omega, fun _ => by simp⟩
 ·obtain ⟨r, x, y, e1, e2, e3, e4⟩ := Hs h hv (.inr ho)
  have e : fv (o, A, B) S mem = pr (pr S.stk) ++ [bits .or .i64 (pv S.stk) (pv (pr S.stk))] := by subst ho; kernel_rfl
  rw [e, e1, ut, uu, fh, gp]
  exact ⟨e4 _ (Hz e2 e3).2, fun h => by omega, fun _ => by simp⟩
 ·have e : fv (o, A, B) S mem = S.stk := by subst ho; kernel_rfl
  rw [e]
  exact ⟨Kx h hv ho, fun h => by omega, fun h => by omega⟩
 ·exact in_ (S.loc.getD A.toNat 0) (by omega) (by subst ho; kernel_rfl)
 ·exact out (by omega)
 ·exact in_ (S.ret.getD A.toNat 0) (by omega) (by subst ho; kernel_rfl)
 ·exact out (by omega)
 ·exact in_ (S.inp.getD A.toNat 0) (by omega) (by subst ho; kernel_rfl)
 ·exact out (by omega)
 ·exact in_ ((mem.getD A.toNat z8).getD B.toNat 0) (by omega) (by subst ho; kernel_rfl)
 ·exact out (by omega)
 ·exact no (by omega) (by subst ho; kernel_rfl)
 ·exact out (by omega)
 ·exact no (by omega) (by subst ho; kernel_rfl)
 ·exact no (by omega) (by subst ho; kernel_rfl)
 ·exact no (by omega) (by subst ho; kernel_rfl)
 ·exact no (by omega) (by subst ho; kernel_rfl)
 ·exact no (by omega) (by subst ho; kernel_rfl)
theorem Ok.len {l : List cP} {m h : List Int} {st : List ByteArray} (hR : Row l m h st) {s : MS} {i : Nat} {rs : List (Nat × Int)} (hO : Ok l m st s i rs) : s.stk.length ≤ 16 ∧ s.rds.length ≤ 200 ∧ l.length ≤ 200 := by
 have h1 := hO.vt.len
 have h2 := hR.stk.sz i
 have h3 := hR.fine.len
 have h4 : rs.length ≤ i := by
  have e : (rs.map (·.1)).length = rs.length := cc _
  rw [← e, hO.lps]
  unfold Go.Proofs.Dk.lps
  exact aQ (List.length_filter_le _ _) (by rw [List.length_range]; exact aj _)
 have h5 := hO.lt
 rw [hO.rds, cc]
 omega
theorem Ea {l : List cP} {m h : List Int} {st : List ByteArray} (hR : Row l m h st) {s : MS} {i : Nat} {rs : List (Nat × Int)} (hO : Ok l m st s i rs) (n : Nat) (mem : dS) : d5 n l m (l.getD i (0, 0, 0)) (m.getD i 0) s mem := by
 obtain ⟨hstk, hrl, hl⟩ := hO.len hR
 have hi := hO.lt
 have hF := hR.fine
 have hr := hF.right hi
 have hok := hR.stk.ok i hi
 have hlast : opAt l i = 22 → ∃ (k : Nat) (r0 : List Int) (r : Int), m.getD i 0 = (k : Int) ∧ k < i ∧ s.rds = r0 ++ [r] ∧ 1 ≤ r ∧ r ≤ 1000 ∧ r0.length ≤ 200 := fun h22 => by
  obtain ⟨k, a1, a2, a3, a4, a5, a6, a7⟩ := oe hF hi h22
  have e := hO.lps
  rw [a5] at e
  obtain ⟨rs0, rs1, e1, e2, e3⟩ := List.map_eq_append_iff.1 e
  obtain ⟨q, e4, e5⟩ := List.map_eq_singleton_iff.1 e3
  have hb := hO.rnd q (by rw [e1, e4]; simp)
  have hA := xG (hF.right (show k < l.length by omega)) a3
  rw [e5] at hb
  refine ⟨k, rs0.map (·.2), q.2, a1, a2, by rw [hO.rds, e1, e4]; simp, hb.1, by omega, ?_⟩
  have := hrl
  rw [hO.rds, e1, e4] at this
  simp at this ⊢
  omega
 have hv := yz (o := (l.getD i (0, 0, 0)).1) (A := (l.getD i (0, 0, 0)).2.1) (B := (l.getD i (0, 0, 0)).2.2) (S := s) (mem := mem) hr hok hO.vt
 have d1 := hv.2.1
 have d2 := hv.2.2
 have hp := hO.place
 clear hv hok hO
 unfold opAt at hlast
 generalize hx : l.getD i (0, 0, 0) = x at hr d1 d2 hlast
 obtain ⟨o, A, B⟩ := x
 obtain ⟨ret, at_, stk, loc, inp, out, set, rds, held, flt, stp⟩ := s
 simp only at hstk hrl d1 d2 hp hlast
 subst hp
 rcases oa (lN hr) with rfl | rfl | rfl | rfl | rfl | rfl | rfl | rfl | rfl | rfl | rfl | rfl | rfl | rfl | rfl | rfl | rfl | rfl | rfl | rfl | rfl | rfl | rfl | rfl | rfl
 ·exact Qw n hl hi hx hr hstk
 ·exact Qx n hl hi hx hr hstk (d1 (by decide))
 ·exact Qy n hl hi hx hr hstk (d1 (by decide))
 ·exact Qz n hl hi hx hr hstk (d2 (by decide))
 ·exact QA n hl hi hx hr hstk (d2 (by decide))
 ·exact QB n hl hi hx hr hstk (d1 (by decide))
 ·exact QC n hl hi hx hr hstk (d1 (by decide))
 ·exact QD n hl hi hx hr hstk (d2 (by decide))
 ·exact QE n hl hi hx hr hstk (d2 (by decide))
 ·exact OJ n hl hi hx hr hstk
 ·exact OK n hl hi hx hr hstk
 ·exact OO n hl hi hx hr hstk (d1 (by decide))
 ·exact OL n hl hi hx hr hstk
 ·exact OP n hl hi hx hr hstk (d1 (by decide))
 ·exact OM n hl hi hx hr hstk
 ·exact OQ n hl hi hx hr hstk (d1 (by decide))
 ·exact ON n hl hi hx hr hstk
 ·exact OR n hl hi hx hr hstk (d1 (by decide))
 ·exact OS n hl hi hx hr hstk
 ·exact OT n hl hi hx hr hstk (d1 (by decide))
 ·exact OU n hl hi hx hr hstk hrl
 ·obtain ⟨k, r0, r, e1, e2, e3, e4, e5, e6⟩ := hlast rfl
  exact OV n hl hi hx hr hstk e3 ⟨e4, e5⟩ e6 hF.nest.hm e1 e2 rfl
 ·exact OW n hl hi hx hr hstk
 ·exact OX n hl hi hx hr hstk
 ·exact OY n hl hi hx hr hstk
theorem uv {A : Int} {a : Nat} (h : A = (a : Int)) (ha : a ≤ 7) : mO A = ((2 ^ a : Nat) : Int) := by
 subst h
 exact zO ha
theorem Ad (v a : Nat) (hv : v < 256) (ha : a ≤ 7) : ∃ w : Nat, bits .andNot .i64 (v : Int) ((2 ^ a : Nat) : Int) = (w : Int) ∧ w < 256 ∧ ∀ b, w.testBit b = (v.testBit b && decide (b ≠ a)) := by
 have h2 : 2 ^ a < 2 ^ 8 := Nat.pow_lt_pow_right (by omega) (by omega)
 have key : bits .andNot .i64 (v : Int) ((2 ^ a : Nat) : Int) = IntKind.i64.wrap (((BitVec.ofInt 64 (v : Int)) &&& ~~~ (BitVec.ofInt 64 ((2 ^ a : Nat) : Int))).toNat : Int) := rfl
 have hw : ∀ b, ((BitVec.ofInt 64 (v : Int)) &&& ~~~ (BitVec.ofInt 64 ((2 ^ a : Nat) : Int))).toNat.testBit b = (v.testBit b && decide (b ≠ a)) := fun b => by
  rw [BitVec.toNat_and, Nat.testBit_and, ofInt_u64 v (by omega)]
  by_cases hb : b < 64
  ·rw [BitVec.testBit_toNat, BitVec.getLsbD_not, ← BitVec.testBit_toNat, ofInt_u64 _ (by omega), Nat.testBit_two_pow, ah hb, aS]
   congr 1
   by_cases hab : a = b
   ·rw [ah hab, aK (by omega)]; rfl
   ·rw [aK hab, ah (by omega)]; rfl
  ·have : v.testBit b = false := Nat.testBit_lt_two_pow (bi hv (by
    have := Nat.pow_le_pow_right (n := 2) (by decide) (show 8 ≤ b by omega)
    omega))
   rw [this, bg, bg]
 generalize hW : ((BitVec.ofInt 64 (v : Int)) &&& ~~~ (BitVec.ofInt 64 ((2 ^ a : Nat) : Int))).toNat = W at key hw
 have hlt : W < 256 := by
  have hle : W ≤ v := by
   rw [← hW, BitVec.toNat_and, ofInt_u64 v (by omega)]
   exact Nat.and_le_left
  omega
 refine ⟨W, ?_, hlt, hw⟩
 rw [key, dC (by omega) (by omega)]
structure NextI (l : List cP) (m : List Int) (st : List ByteArray) (i : Nat) (rs : List (Nat × Int)) (s' : MS) : Prop where
 ex : ∃ q rs', Ok l m st s' q rs' ∧ m8 l m q rs' + 1 ≤ m8 l m i rs
theorem fC {l : List cP} {i : Nat} (h19 : opAt l i ≠ 19) (h25 : opAt l i ≠ 25) : i + 1 ∈ dn l i := by
 unfold dn
 rw [if_neg h19]
 split
 ·exact aD ..
 ·exact ao.2 rfl
theorem JF {l : List cP} {m h : List Int} {st : List ByteArray} (hR : Row l m h st) {s s' : MS} {i : Nat} {rs : List (Nat × Int)} (hO : Ok l m st s i rs) (h21 : opAt l i ≠ 21) (h22 : opAt l i ≠ 22) (h23 : opAt l i ≠ 23) (h24 : opAt l i ≠ 24) {q : Nat} (hq : q ∈ dn l i)
  (e1 : s'.at_ = (q : Int)) (e2 : VT (dg (l.getD i (0, 0, 0)) (mZ st i)).1 s'.stk) (e3 : s'.rds = s.rds) (e4 : s'.held = s.held) : NextI l m st i rs s' := by
 have hF := hR.fine
 have hi := hO.lt
 have hql := hF.next hi q hq
 have hlps : lps l m q = lps l m i ∧ ∀ v, HeldB l m i v → HeldB l m q v := by
  unfold dn at hq
  split at hq
  ·rename_i h19
   rw [ao] at hq
   subst hq
   exact ⟨re hF hi (.inl h19), fun v hv => hv.jump hF hi (.inl h19)⟩
  ·split at hq
   ·rename_i h20
    rw [ay, ao] at hq
    rcases hq with rfl | rfl
    ·exact ⟨kz hF hi h21 h22 h24, fun v hv => hv.plain hF hi h23 h22 h24⟩
    ·exact ⟨re hF hi (.inr h20), fun v hv => hv.jump hF hi (.inr h20)⟩
   ·split at hq
    ·cases hq
    ·rw [ao] at hq
     subst hq
     exact ⟨kz hF hi h21 h22 h24, fun v hv => hv.plain hF hi h23 h22 h24⟩
 refine ⟨q, rs, ⟨e1, hql, ?_, by rw [hlps.1]; exact hO.lps, by rw [e3]; exact hO.rds, hO.rnd, ?_⟩, p8 hF hi (wr hq) hO.lps⟩
 ·rw [hR.stk.nx i hi q hq]
  exact e2
 ·obtain ⟨v, v1, v2⟩ := hO.held
  exact ⟨v, e4.trans v1, hlps.2 v v2⟩
theorem Ae {l : List cP} {m h : List Int} {st : List ByteArray} (hR : Row l m h st) {s : MS} {i : Nat} {rs : List (Nat × Int)} (hO : Ok l m st s i rs) (mem : dS) (h25 : opAt l i ≠ 25) : NextI l m st i rs (eb (l.getD i (0, 0, 0)) (m.getD i 0) s mem) := by
 have hi := hO.lt
 have hF := hR.fine
 have hr := hF.right hi
 have hok := hR.stk.ok i hi
 have hp := hO.place
 have hv := (yz (o := (l.getD i (0, 0, 0)).1) (A := (l.getD i (0, 0, 0)).2.1) (B := (l.getD i (0, 0, 0)).2.2) (S := s) (mem := mem) hr hok hO.vt).1
 have hx : l.getD i (0, 0, 0) = (opAt l i, cT l i, (l.getD i (0, 0, 0)).2.2) := rfl
 have hstk : VT (dg (l.getD i (0, 0, 0)) (mZ st i)).1 (eb (l.getD i (0, 0, 0)) (m.getD i 0) s mem).stk := hv
 have hrds : opAt l i ≠ 21 → opAt l i ≠ 22 → (eb (l.getD i (0, 0, 0)) (m.getD i 0) s mem).rds = s.rds := fun h1 h2 => by
  show fw _ _ = _
  unfold fw
  rw [if_neg h1, if_neg h2]
 have hheld : opAt l i ≠ 23 → opAt l i ≠ 24 → (eb (l.getD i (0, 0, 0)) (m.getD i 0) s mem).held = s.held := fun h1 h2 => by
  show (if _ then _ else if _ then _ else _) = _
  rw [if_neg h1, if_neg h2]
 have hon : opAt l i ≠ 19 → opAt l i ≠ 20 → opAt l i ≠ 22 → (eb (l.getD i (0, 0, 0)) (m.getD i 0) s mem).at_ = ((i + 1 : Nat) : Int) := fun h1 h2 h3 => by
  show dT _ _ _ = _
  unfold dT
  rw [if_neg h1, if_neg h2, if_neg h3, hp]
  rfl
 by_cases h22 : opAt l i = 22
 ·obtain ⟨k, a1, a2, a3, a4, a5, a6, a7⟩ := oe hF hi h22
  obtain ⟨k', b1, b2, b3⟩ : ∃ k' : Nat, m.getD i 0 = (k' : Int) ∧ (∀ v, HeldB l m i v → HeldB l m (k' + 1) v) ∧ (∀ v, HeldB l m i v → HeldB l m (i + 1) v) := by
   refine ⟨k, a1, fun v hv => ?_, fun v hv => ?_⟩
   ·obtain ⟨k2, c1, c2, c3⟩ := hv.next hF hi h22
    have : k = k2 := by rw [a1] at c1; omega
    rw [this]; exact c2
   ·obtain ⟨k2, c1, c2, c3⟩ := hv.next hF hi h22
    exact c3
  have hkk : k = k' := by rw [a1] at b1; omega
  subst hkk
  obtain ⟨v, v1, v2⟩ := hO.held
  have e := hO.lps
  rw [a5] at e
  obtain ⟨rs0, rs1, e1, e2, e3⟩ := List.map_eq_append_iff.1 e
  obtain ⟨q, e4, e5⟩ := List.map_eq_singleton_iff.1 e3
  obtain ⟨qk, qr⟩ := q
  simp only at e5
  subst e5
  subst e4
  subst e1
  have hsr : s.rds = rs0.map (·.2) ++ [qr] := by rw [hO.rds]; simp
  have hb := hO.rnd (qk, qr) (by simp)
  have hph := Cy hF hi a2 a3 a4 a5 e2 (r := qr)
  have hst22 := hR.stk.nt i hi h22
  rw [a1, ai] at hst22
  -- the types ahead of the loop's first instruction are those of its Next
  have hgo : mZ st (qk + 1) = (dg (l.getD qk (0, 0, 0)) (mZ st i)).1 := by
   rw [hR.stk.nx qk (by omega) (qk + 1) (fC (by rw [a3]; decide) (by rw [a3]; decide)), hst22]
  have hx22 : l.getD i (0, 0, 0) = (22, cT l i, (l.getD i (0, 0, 0)).2.2) := by rw [← h22]
  have hst : (eb (l.getD i (0, 0, 0)) (m.getD i 0) s mem).stk = s.stk := by
   have e : ∀ A B, fv (22, A, B) s mem = s.stk := fun A B => by kernel_rfl
   show fv (l.getD i (0, 0, 0)) s mem = _
   rw [hx22, e]
  by_cases hq : qr - 1 > 0
  ·refine ⟨qk + 1, rs0 ++ [(qk, qr - 1)], ⟨?_, by omega, ?_, ?_, ?_, ?_, v, (hheld (by omega) (by omega)).trans v1, b2 v v2⟩, hph.1⟩
   ·show dT _ _ _ = _
    unfold dT
    rw [if_neg (show ¬ opAt l i = 19 by omega), if_neg (show ¬ opAt l i = 20 by omega), if_pos h22, hsr, fh, if_pos hq, a1]
    rfl
   ·rw [hst, hgo]
    have hr2 := hF.right (show qk < l.length by omega)
    have hok2 := hR.stk.ok qk (by omega)
    rw [hst22] at hok2
    exact Ff (o := (l.getD qk (0, 0, 0)).1) (A := (l.getD qk (0, 0, 0)).2.1) (B := (l.getD qk (0, 0, 0)).2.2) hok2 hO.vt (.inr (.inl a3))
   ·rw [a6]; simp [e2]
   ·show fw _ _ = _
    unfold fw
    rw [if_neg (show ¬ opAt l i = 21 by omega), if_pos h22, hsr, fh, gp, if_pos hq]
    simp
   ·intro e he
    rw [ax, ao] at he
    rcases he with he | he
    ·exact hO.rnd e (aV _ he)
    ·subst he
     exact ⟨by show 1 ≤ qr - 1; omega, by have := hb.2; show qr - 1 ≤ cT l qk; simp only at this; omega⟩
  ·have hq1 : qr = 1 := by have := hb.1; simp only at this; omega
   have hnx := fC (l := l) (i := i) (by omega) h25
   refine ⟨i + 1, rs0, ⟨?_, hF.next hi _ hnx, ?_, ?_, ?_, fun e he => hO.rnd e (aV _ he), v, (hheld (by omega) (by omega)).trans v1, b3 v v2⟩, hph.2 hq1⟩
   ·show dT _ _ _ = _
    unfold dT
    rw [if_neg (show ¬ opAt l i = 19 by omega), if_neg (show ¬ opAt l i = 20 by omega), if_pos h22, hsr, fh, if_neg hq, hp]
    rfl
   ·rw [hR.stk.nx i hi _ hnx]
    exact hstk
   ·rw [a7]; exact e2
   ·show fw _ _ = _
    unfold fw
    rw [if_neg (show ¬ opAt l i = 21 by omega), if_pos h22, hsr, fh, gp, if_neg hq]
 by_cases h21 : opAt l i = 21
 ·have hnx := fC (l := l) (i := i) (by omega) h25
  obtain ⟨v, v1, v2⟩ := hO.held
  refine ⟨i + 1, rs ++ [(i, cT l i)], ⟨hon (by omega) (by omega) h22, hF.next hi _ hnx, ?_, ?_, ?_, ?_, v, (hheld (by omega) (by omega)).trans v1, v2.plain hF hi (by omega) h22 (by omega)⟩, Cw hF hi hO.lps⟩
  ·rw [hR.stk.nx i hi _ hnx]; exact hstk
  ·rw [rf hF hi h21]; simp [hO.lps]
  ·show fw _ _ = _
   unfold fw
   rw [if_pos h21, hO.rds, List.map_append]
   rfl
  ·intro e he
   rw [ax, ao] at he
   rcases he with he | he
   ·exact hO.rnd e he
   ·subst he
    exact ⟨(xG hr h21).1, aN _⟩
 by_cases h23 : opAt l i = 23
 ·have hnx := fC (l := l) (i := i) (by omega) h25
  obtain ⟨v, v1, v2⟩ := hO.held
  obtain ⟨a, ha, ha7⟩ := qY hr (.inl h23)
  refine ⟨i + 1, rs, ⟨hon (by omega) (by omega) h22, hF.next hi _ hnx, ?_, ?_, ?_, hO.rnd, v ||| 2 ^ a, ?_, v2.lockS hF hi h23 ha ha7⟩, p8 hF hi (by omega) hO.lps⟩
  ·rw [hR.stk.nx i hi _ hnx]; exact hstk
  ·rw [kz hF hi h21 h22 (by omega)]; exact hO.lps
  ·rw [hrds h21 h22]; exact hO.rds
  ·show (if _ then _ else if _ then _ else _) = _
   rw [if_pos h23, v1]
   show bits .or .i64 (v : Int) (mO (cT l i)) = _
   rw [uv ha ha7]
   exact Ce v (2 ^ a) v2.1 (by have := Nat.pow_lt_pow_right (a := 2) (by omega) (show a < 8 by omega); omega)
 by_cases h24 : opAt l i = 24
 ·have hnx := fC (l := l) (i := i) (by omega) h25
  obtain ⟨v, v1, v2⟩ := hO.held
  have h0 := mI (o := (l.getD i (0, 0, 0)).1) (A := (l.getD i (0, 0, 0)).2.1) (B := (l.getD i (0, 0, 0)).2.2) (by rw [show (l.getD i (0, 0, 0)).1 = 24 from h24]; omega) hr
  obtain ⟨a, ha, ha7⟩ : ∃ a : Nat, cT l i = (a : Int) ∧ a ≤ 7 := ⟨(cT l i).toNat, by unfold cT; omega, by unfold cT; omega⟩
  obtain ⟨w, w1, w2, w3⟩ := Ad v a v2.1 ha7
  refine ⟨i + 1, rs, ⟨hon (by omega) (by omega) h22, hF.next hi _ hnx, ?_, ?_, ?_, hO.rnd, w, ?_, v2.unlock hF hR.rise hi h24 ha w2 w3⟩, p8 hF hi (by omega) hO.lps⟩
  ·rw [hR.stk.nx i hi _ hnx]; exact hstk
  ·rw [xD hF hi h24]; exact hO.lps
  ·rw [hrds h21 h22]; exact hO.rds
  ·show (if _ then _ else if _ then _ else _) = _
   rw [if_neg h23, if_pos h24, v1]
   show bits .andNot .i64 (v : Int) (mO (cT l i)) = _
   rw [uv ha ha7]
   exact w1
 have key := fun {q : Nat} (hq : q ∈ dn l i) (e1 : (eb (l.getD i (0, 0, 0)) (m.getD i 0) s mem).at_ = (q : Int)) => JF hR hO h21 h22 h23 h24 hq e1 hstk (hrds h21 h22) (hheld h23 h24)
 by_cases h19 : opAt l i = 19
 ·have hj := n8 (o := (l.getD i (0, 0, 0)).1) (A := (l.getD i (0, 0, 0)).2.1) (B := (l.getD i (0, 0, 0)).2.2) (.inl h19) hr
  refine key (q := db l i) (by unfold dn; rw [if_pos h19]; exact ao.2 rfl) ?_
  show dT _ _ _ = _
  unfold dT db
  rw [if_pos h19, hp]
  omega
 by_cases h20 : opAt l i = 20
 ·have hj := n8 (o := (l.getD i (0, 0, 0)).1) (A := (l.getD i (0, 0, 0)).2.1) (B := (l.getD i (0, 0, 0)).2.2) (.inr h20) hr
  by_cases hz : pv s.stk = 0
  ·refine key (q := db l i) (by unfold dn; rw [if_neg h19, if_pos h20]; simp) ?_
   show dT _ _ _ = _
   unfold dT db
   rw [if_neg h19, if_pos h20, if_pos hz, hp]
   omega
  ·refine key (q := i + 1) (by unfold dn; rw [if_neg h19, if_pos h20]; simp) ?_
   show dT _ _ _ = _
   unfold dT
   rw [if_neg h19, if_pos h20, if_neg hz, hp]
   rfl
 ·exact key (q := i + 1) (fC h19 h25) (hon h19 h20 h22)
theorem xJ {X R : Type} {S : (X → Option R) → X → Option R} (Q : Nat → X → Prop) (P : R → Prop) (h0 : ∀ x, ¬ Q 0 x) (h : ∀ f x F, (∀ y, Q f y → ∃ r, F y = some r ∧ P r) → Q (f + 1) x → ∃ r, S F x = some r ∧ P r) : ∀ f x, Q f x → ∃ r, it S f x = some r ∧ P r
 | 0, x, hq => absurd hq (h0 x)
 | f + 1, x, hq => h f x (it S f) (xJ Q P h0 h f) hq
abbrev z16 : List Int := [0, 0, 0, 0, 0, 0, 0, 0, 0, 0, 0, 0, 0, 0, 0, 0]
abbrev lj (ret inp : List Int) : MS := ⟨ret, 0, [], z8, inp, z16, 0, [], 0, 0, 0⟩
theorem wu {l : List cP} {m h : List Int} {st : List ByteArray} (hR : Row l m h st) (ret inp : List Int) : Ok l m st (lj ret inp) 0 [] := by
 have hl := hR.fine.len
 refine ⟨rfl, by omega, ?_, rfl, rfl, (fun e he => by cases he), 0, rfl, by omega, fun b => ?_⟩
 ·rw [hR.stk.z]
  exact trivial
 ·rw [Nat.zero_testBit]
  exact ⟨(fun h => by cases h), fun ⟨k, k1, _⟩ => by have := (dW k1).1; omega⟩
theorem JG (n : Nat) {l : List cP} (hl : 0 < l.length) (m ret inp : List Int) (at_ : Int) (stk loc inp2 out : List Int) (set : Int) (rds : List Int) (held flt stp : Int) :
  gi n inp l m ret false at_ stk loc inp2 out set rds held flt stp = some (0, l, m, ret, true, 0, [], z8, inp, z16, 0, [], 0, 0, 0) := by
 unfold gi
 rw [ah (show (l.length : Int) > 0 by omega), if_neg (by decide), if_neg (by decide)]
theorem Nt {l : List cP} (h : l.length ≤ 200) : (decide (0 = 0) && decide (0 = 0) && decide (l.length * 24 ≤ 140737488355328) && decide (1 ≤ 24)) = true := by simp; omega
theorem Od (a : List Int) (k : Nat) : Sh.eqT (.arr k (.int .i64)) a a = true := by
 show (List.range k).all (fun i => (a.getD i (0 : Int) == a.getD i 0)) = true
 rw [aO]
 intro i _
 exact bV _
structure CS where
 on : Bool
 s : MS
 mem : dS
def eJ (l : List cP) (m : List Int) (c : CS) : CS :=
 if c.on = true then ⟨decide ((l.getD c.s.at_.toNat (0, 0, 0)).1 ≠ 25), eb (l.getD c.s.at_.toNat (0, 0, 0)) (m.getD c.s.at_.toNat 0) c.s c.mem, wt (l.getD c.s.at_.toNat (0, 0, 0)) c.s c.mem⟩ else c
def xK (l : List cP) (m : List Int) (st : List ByteArray) (c : CS) : Prop := c.on = true → ∃ i rs, Ok l m st c.s i rs
abbrev OZ (l : List cP) (m : List Int) (c : CS) := Fj l m c.on c.s c.mem
theorem Oe {l : List cP} {m h : List Int} {st : List ByteArray} (hR : Row l m h st) {c : CS} (hc : xK l m st c) (n : Nat) : (∃ ev e, xI n l m c.on c.s c.mem = some (ev, e, OZ l m (eJ l m c))) ∧ xK l m st (eJ l m c) := by
 obtain ⟨on, s, mem⟩ := c
 cases on with
 | false =>
  refine ⟨⟨(0, 0), 16, ?_⟩, fun h => by cases h⟩
  have hl := hR.fine.len
  unfold xI dq
  dsimp only
  rw [ah (show (l.length : Int) > 0 by omega), if_neg (by decide), if_pos (by decide)]
  rfl
 | true =>
  obtain ⟨i, rs, hO⟩ := hc rfl
  have hp : s.at_ = (i : Int) := hO.place
  have e : s.at_.toNat = i := by rw [hp]; exact ai i
  have e1 : eJ l m ⟨true, s, mem⟩ = ⟨decide ((l.getD i (0, 0, 0)).1 ≠ 25), eb (l.getD i (0, 0, 0)) (m.getD i 0) s mem, wt (l.getD i (0, 0, 0)) s mem⟩ := by
   unfold eJ
   rw [if_pos rfl]
   dsimp only
   rw [e]
  rw [e1]
  refine ⟨⟨_, 0, Ea hR hO n mem⟩, fun h => ?_⟩
  have h25 : opAt l i ≠ 25 := bl h
  obtain ⟨q, rs', hq, _⟩ := (Ae hR hO mem h25).ex
  exact ⟨q, rs', hq⟩
structure TM where
 sw : Int
 la : Int
 co : Int
structure TOk (t : TM) : Prop where
 s0 : 0 ≤ t.sw
 s1 : t.sw ≤ 100
 l0 : 1 ≤ t.la
 l1 : t.la ≤ 100
 c0 : 1 ≤ t.co
 c1 : t.co ≤ 100
structure IS where
 ph : Int
 left : Int
 used : Int
 inn : List Int
 c : CS
def dB (t : TM) (ph left : Int) : Int × Int :=
 if left ≠ 0 then (ph, left)
 else if ph = 0 then (1, t.la) else if ph = 1 then (2, 1) else if ph = 2 then (3, t.co) else if ph = 3 then (if t.sw = 0 then (5, 1) else (4, t.sw)) else if ph = 4 then (5, 1) else (ph, left)
abbrev tS (t : TM) : List Int := [t.sw, t.la, 1, t.co, t.sw, 1]
abbrev tT (j1 j2 j3 : Int) (t : TM) (ph left used : Int) (inn : List Int) (l : List cP) (m : List Int) (on : Bool) (s : MS) := (j1, j2, j3, t.sw, t.la, t.co, ph, left, used, inn, tS t, l, m, s.ret, on, s.at_, s.stk, s.loc, s.inp, s.out, s.set, s.rds, s.held, s.flt, s.stp)
theorem tU (n : Nat) (hn : 8 ≤ n) (j1 j2 j3 : Int) {t : TM} (ht : TOk t) {ph left : Int} (h0 : 0 ≤ ph ∧ ph ≤ 5) (used : Int) (inn : List Int) (l : List cP) (m : List Int) (on : Bool) (s : MS) :
  fb n (tT j1 j2 j3 t ph left used inn l m on s) = some (tT j1 j2 j3 t (dB t ph left).1 (dB t ph left).2 used inn l m on s) := by
 have key : ∃ r, fb n (tT j1 j2 j3 t ph left used inn l m on s) = some r ∧ r = tT j1 j2 j3 t (dB t ph left).1 (dB t ph left).2 used inn l m on s := by
  show ∃ r, it _ n _ = some r ∧ _
  refine xJ (fun f x => ∃ p q : Int, 0 ≤ p ∧ p ≤ 5 ∧ 5 - p < f ∧ dB t p q = dB t ph left ∧ x = tT j1 j2 j3 t p q used inn l m on s) _ (fun x ⟨p, q, h1, h2, h3, _⟩ => by omega) ?_ n _ ⟨ph, left, h0.1, h0.2, by omega, rfl, rfl⟩
  rintro f x F hF ⟨p, q, h1, h2, h3, h4, rfl⟩
  show ∃ r, ul n F j1 j2 j3 t.sw t.la t.co p q used inn (tS t) l m s.ret on s.at_ s.stk s.loc s.inp s.out s.set s.rds s.held s.flt s.stp = some r ∧ _
  unfold ul
  by_cases hq : q = 0
  ·subst hq
   rw [if_pos (by decide)]
   by_cases hp : p < 5
   ·have hl0 := ht.l0
    have hc0 := ht.c0
    rw [if_pos (ah hp), dC (by omega) (by omega), if_pos (by simp; omega)]
    have hc : p = 0 ∨ p = 1 ∨ p = 2 ∨ p = 3 ∨ p = 4 := by omega
    rcases hc with rfl | rfl | rfl | rfl | rfl
    ·exact hF _ ⟨1, t.la, by omega, by omega, by omega, by rw [← h4]; unfold dB; rw [if_pos (by omega)]; rfl, rfl⟩
    ·exact hF _ ⟨2, 1, by omega, by omega, by omega, by rw [← h4]; rfl, rfl⟩
    ·exact hF _ ⟨3, t.co, by omega, by omega, by omega, by rw [← h4]; unfold dB; rw [if_pos (by omega)]; rfl, rfl⟩
    ·exact hF _ ⟨4, t.sw, by omega, by omega, by omega, by
      rw [← h4]
      by_cases hs : t.sw = 0
      ·rw [hs]; unfold dB; rw [if_neg (by decide), if_neg (by decide), if_neg (by decide), if_neg (by decide), if_neg (by decide), if_pos rfl, if_neg (by decide), if_neg (by decide), if_neg (by decide), if_neg (by decide), if_pos rfl, if_pos hs]
      ·unfold dB; rw [if_pos hs, if_neg (by decide), if_neg (by decide), if_neg (by decide), if_neg (by decide), if_pos rfl, if_neg hs], rfl⟩
    ·exact hF _ ⟨5, 1, by omega, by omega, by omega, by rw [← h4]; rfl, rfl⟩
   ·have : p = 5 := by omega
    subst this
    rw [if_neg (by decide)]
    refine ⟨_, rfl, ?_⟩
    rw [← h4]
    rfl
  ·rw [if_neg (by simpa using hq)]
   refine ⟨_, rfl, ?_⟩
   rw [← h4]
   unfold dB
   rw [if_pos hq]
 obtain ⟨r, e1, e2⟩ := key
 rw [e1, e2]
abbrev O0 (j1 j2 j3 : Int) (t : TM) (l : List cP) (m : List Int) (x : IS) := (j1, j2, j3, t.sw, t.la, t.co, x.ph, x.left, x.used, x.inn, x.c.mem, l, m, x.c.s.ret, x.c.on, x.c.s.at_, x.c.s.stk, x.c.s.loc, x.c.s.inp, x.c.s.out, x.c.s.set, x.c.s.rds, x.c.s.held, x.c.s.flt, x.c.s.stp)
abbrev Fk (n : Nat) (inp : List Int) (j1 j2 j3 : Int) (t : TM) (l : List cP) (m : List Int) (x : IS) := s9 n inp j1 j2 j3 t.sw t.la t.co x.ph x.left x.used x.inn x.c.mem l m x.c.s.ret x.c.on x.c.s.at_ x.c.s.stk x.c.s.loc x.c.s.inp x.c.s.out x.c.s.set x.c.s.rds x.c.s.held x.c.s.flt x.c.s.stp
abbrev iY (l : List cP) (x : IS) : cP := l.getD x.c.s.at_.toNat (0, 0, 0)
def jH (l : List cP) (x : IS) : Int × Int :=
 if x.ph = 2 then (if (iY l x).1 = 23 then (2, (iY l x).2.1) else if (iY l x).1 = 24 then (3, (iY l x).2.1) else (0, 0))
 else if 1 < x.left then (0, 0) else if x.ph = 1 then (1, 0) else if x.ph = 3 then (4, 0) else (0, 0)
def iI (l : List cP) (x : IS) : Int := if x.ph = 2 then (if (iY l x).1 = 25 then 0 else x.left) else x.left - 1
def eK (x : IS) : Bool := decide (x.ph = 1) && decide (x.left = 1)
def dc (t : TM) (l : List cP) (m : List Int) (inp : List Int) (x : IS) : IS where
 ph := (dB t x.ph (iI l x)).1
 left := (dB t x.ph (iI l x)).2
 used := x.used + 1
 inn := if eK x = true then inp else x.inn
 c := if x.ph = 2 then eJ l m x.c else if eK x = true then ⟨true, lj x.c.s.ret inp, x.c.mem⟩ else x.c
structure IOk (t : TM) (l : List cP) (m : List Int) (st : List ByteArray) (x : IS) : Prop where
 ph : 0 ≤ x.ph ∧ x.ph ≤ 5
 left : 1 ≤ x.left ∧ x.left ≤ 100
 used : 0 ≤ x.used
 on : x.c.on = decide (x.ph = 2)
 one : x.ph = 2 → x.left = 1
 run : x.ph = 2 → ∃ i rs, Ok l m st x.c.s i rs
 off : 3 ≤ x.ph → x.c.s.held = 0
theorem Nu (x : cP) : Oj x = if x.1 = 25 then (3, 0) else if x.1 = 24 then (2, x.2.1) else if x.1 = 23 then (1, x.2.1) else (0, 0) := rfl
theorem Cz {l : List cP} {m h : List Int} {st : List ByteArray} (hR : Row l m h st) {t : TM} (ht : TOk t) {x : IS} (hx : IOk t l m st x) (h5 : x.ph ≠ 5) (hu : x.used < 1000000) (n : Nat) (hn : 8 ≤ n) (inp : List Int) (j1 j2 j3 : Int) :
  Fk n inp j1 j2 j3 t l m x = some (((jH l x).1, ((jH l x).2, (dc t l m inp x).ph == 5)), 0, O0 j1 j2 j3 t l m (dc t l m inp x)) := by
 have hl := hR.fine.len
 obtain ⟨x1, x2, x3, x4, x5, x6, x7⟩ := hx
 obtain ⟨ph, left, used, inn, ⟨on, s, mem⟩⟩ := x
 simp only at x1 x2 x3 x4 x5 x6 x7 h5 hu
 unfold Fk s9
 dsimp only
 rw [if_neg (show ¬ (ph == 5) = true by simpa using h5), show wrap .i64 (used + 1) = used + 1 from dC (by omega) (by omega)]
 by_cases h2 : ph = 2
 ·subst h2
  obtain ⟨i, rs, hO⟩ := x6 rfl
  have hp : s.at_ = (i : Int) := hO.place
  have hi : s.at_.toNat = i := by rw [hp]; exact ai i
  have hS := Ea hR hO n mem
  unfold d5 xI Fj at hS
  have x4' : on = true := x4
  subst x4'
  have h1 := x5 rfl
  subst h1
  rw [if_pos (by decide), hS, ae]
  dsimp only
  have eI : iY l ⟨2, 1, used, inn, ⟨true, s, mem⟩⟩ = l.getD i (0, 0, 0) := by show l.getD s.at_.toNat _ = _; rw [hi]
  have e1 : eJ l m ⟨true, s, mem⟩ = ⟨decide ((l.getD i (0, 0, 0)).1 ≠ 25), eb (l.getD i (0, 0, 0)) (m.getD i 0) s mem, wt (l.getD i (0, 0, 0)) s mem⟩ := by
   unfold eJ
   rw [if_pos rfl]
   dsimp only
   rw [hi]
  have eN : dc t l m inp ⟨2, 1, used, inn, ⟨true, s, mem⟩⟩ = ⟨(dB t 2 (if (l.getD i (0, 0, 0)).1 = 25 then 0 else 1)).1, (dB t 2 (if (l.getD i (0, 0, 0)).1 = 25 then 0 else 1)).2, used + 1, inn, ⟨decide ((l.getD i (0, 0, 0)).1 ≠ 25), eb (l.getD i (0, 0, 0)) (m.getD i 0) s mem, wt (l.getD i (0, 0, 0)) s mem⟩⟩ := by
   unfold dc
   rw [if_pos rfl, e1]
   unfold iI
   rw [if_pos rfl, eI]
   rfl
  have eE : jH l ⟨2, 1, used, inn, ⟨true, s, mem⟩⟩ = if (l.getD i (0, 0, 0)).1 = 23 then (2, (l.getD i (0, 0, 0)).2.1) else if (l.getD i (0, 0, 0)).1 = 24 then (3, (l.getD i (0, 0, 0)).2.1) else (0, 0) := by
   unfold jH
   rw [if_pos rfl, eI]
  rw [eN, eE, Nu]
  have hs := fun left => tU n hn j1 j2 j3 ht (ph := 2) (left := left) (by omega) (used + 1) inn l m (decide ((l.getD i (0, 0, 0)).1 ≠ 25)) (eb (l.getD i (0, 0, 0)) (m.getD i 0) s mem)
  unfold tT tS at hs
  by_cases h25 : (l.getD i (0, 0, 0)).1 = 25
  ·simp only [if_pos h25]
   rw [if_neg (by decide), if_neg (by decide), if_pos (by decide), hs 0, ae, if_neg (by rw [h25]; decide), if_neg (by rw [h25]; decide)]
  ·simp only [if_neg h25]
   by_cases h24 : (l.getD i (0, 0, 0)).1 = 24
   ·simp only [if_pos h24]
    rw [if_neg (by decide), if_pos (by decide), hs 1, ae, if_neg (by rw [h24]; decide)]
   ·simp only [if_neg h24]
    by_cases h23 : (l.getD i (0, 0, 0)).1 = 23
    ·simp only [if_pos h23]
     rw [if_pos (by decide), hs 1, ae]
    ·simp only [if_neg h23]
     rw [if_neg (by decide), if_neg (by decide), if_neg (by decide), hs 1, ae]
 ·have x4' : on = false := x4.trans (aK h2)
  subst x4'
  rw [if_neg (show ¬ (ph == 2) = true by simpa using h2), show wrap .i64 (left - 1) = left - 1 from dC (by omega) (by omega)]
  have hs := fun inn on s => tU n hn j1 j2 j3 ht (ph := ph) (left := left - 1) x1 (used + 1) inn l m on s
  unfold tT tS at hs
  have eL : iI l ⟨ph, left, used, inn, ⟨false, s, mem⟩⟩ = left - 1 := if_neg h2
  unfold jH dc
  rw [eL]
  dsimp only
  rw [if_neg h2, if_neg h2]
  by_cases hg : 1 < left
  ·have hla : eK ⟨ph, left, used, inn, ⟨false, s, mem⟩⟩ = false := by
    unfold eK
    rw [aK (show ¬ left = 1 by omega), Bool.and_false]
   rw [if_pos (ah (show left - 1 > 0 by omega)), hs inn false s, ae, if_pos hg, hla]
   rfl
  ·have hl1 : left = 1 := by omega
   rw [if_neg (by simp; omega), if_neg hg]
   by_cases p1 : ph = 1
   ·have hla : eK ⟨ph, left, used, inn, ⟨false, s, mem⟩⟩ = true := by
     unfold eK
     rw [p1, hl1]
     rfl
    rw [if_pos (show (ph == 1) = true from ag.2 p1), JG n hl.1, ae, if_pos p1, hla]
    dsimp only
    have := hs inp true (lj s.ret inp)
    dsimp only at this
    rw [this, ae]
    rfl
   ·have hla : eK ⟨ph, left, used, inn, ⟨false, s, mem⟩⟩ = false := by
     unfold eK
     rw [aK p1, bg]
    rw [if_neg (show ¬ (ph == 1) = true by simpa using p1), if_neg p1, hla]
    by_cases p3 : ph = 3
    ·rw [if_pos (show (ph == 3) = true from ag.2 p3), hs inn false s, ae, if_pos p3]
     rfl
    ·rw [if_neg (show ¬ (ph == 3) = true by simpa using p3), hs inn false s, ae, if_neg p3]
     rfl
theorem HA {l : List cP} {m h : List Int} {st : List ByteArray} (hR : Row l m h st) {s : MS} {i : Nat} {rs : List (Nat × Int)} (hO : Ok l m st s i rs) (h25 : opAt l i = 25) : s.held = 0 := by
 obtain ⟨v, v1, v2⟩ := hO.held
 have hF := hR.fine
 have hi := hO.lt
 have hlast : i + 1 = l.length := by
  have h1 := hF.ends i hi
  unfold pe at h1
  rw [show ((l.getD i (0, 0, 0)).1 == 25) = true from ag.2 h25] at h1
  cases h4 : ((i : Int) == ((l.length - 1 : Nat) : Int))
  ·rw [h4] at h1; cases h1
  ·have := eq_of_beq h4; omega
 have : v = 0 := by
  apply Nat.eq_of_testBit_eq
  intro b
  rw [Nat.zero_testBit]
  cases hb : v.testBit b
  ·rfl
  ·exfalso
   obtain ⟨k, k1, k2, k3⟩ := (v2.2 b).1 hb
   have ho := (dW k1).2
   obtain ⟨j, j1, j2, j3, j4, j5⟩ := hF.closed.op_ k (fk ho) ho
   have := (ey ho j1).1 k1
   have hji : j = i := by omega
   subst hji
   have := nG (l.getD k (0, 0, 0))
   rw [← j4] at this
   unfold opAt at h25
   rw [h25] at this
   rcases this with h | h <;> cases h
 rw [v1, this]
 rfl
theorem JH {l : List cP} {m h : List Int} {st : List ByteArray} (hR : Row l m h st) {t : TM} (ht : TOk t) {x : IS} (hx : IOk t l m st x) (h5 : x.ph ≠ 5) (inp : List Int) : IOk t l m st (dc t l m inp x) := by
 obtain ⟨x1, x2, x3, x4, x5, x6, x7⟩ := hx
 obtain ⟨ph, left, used, inn, ⟨on, s, mem⟩⟩ := x
 simp only at x1 x2 x3 x4 x5 x6 x7 h5
 have hl0 := ht.l0
 have hl1 := ht.l1
 have hc0 := ht.c0
 have hc1 := ht.c1
 have hs0 := ht.s0
 have hs1 := ht.s1
 have hc : ph = 0 ∨ ph = 1 ∨ ph = 2 ∨ ph = 3 ∨ ph = 4 := by omega
 by_cases h2 : ph = 2
 ·subst h2
  obtain ⟨i, rs, hO⟩ := x6 rfl
  have hp : s.at_ = (i : Int) := hO.place
  have hi : s.at_.toNat = i := by rw [hp]; exact ai i
  have x4' : on = true := x4
  subst x4'
  have h1 := x5 rfl
  subst h1
  have e1 : eJ l m ⟨true, s, mem⟩ = ⟨decide ((l.getD i (0, 0, 0)).1 ≠ 25), eb (l.getD i (0, 0, 0)) (m.getD i 0) s mem, wt (l.getD i (0, 0, 0)) s mem⟩ := by
   unfold eJ
   rw [if_pos rfl]
   dsimp only
   rw [hi]
  have eN : dc t l m inp ⟨2, 1, used, inn, ⟨true, s, mem⟩⟩ = ⟨(dB t 2 (if (l.getD i (0, 0, 0)).1 = 25 then 0 else 1)).1, (dB t 2 (if (l.getD i (0, 0, 0)).1 = 25 then 0 else 1)).2, used + 1, inn, ⟨decide ((l.getD i (0, 0, 0)).1 ≠ 25), eb (l.getD i (0, 0, 0)) (m.getD i 0) s mem, wt (l.getD i (0, 0, 0)) s mem⟩⟩ := by
   unfold dc
   rw [if_pos rfl, e1]
   unfold iI
   rw [if_pos rfl]
   show _ = _
   unfold iY
   dsimp only
   rw [hi]
   rfl
  rw [eN]
  by_cases h25 : opAt l i = 25
  ·have hh := HA hR hO h25
   rw [if_pos h25]
   refine ⟨by show 0 ≤ (3 : Int) ∧ (3 : Int) ≤ 5; omega, by show 1 ≤ t.co ∧ t.co ≤ 100; omega, by show 0 ≤ used + 1; omega, ?_, (fun h => by cases h), (fun h => by cases h), fun _ => ?_⟩
   ·show decide (opAt l i ≠ 25) = decide ((3 : Int) = 2)
    rw [h25]
    rfl
   ·show (if _ then _ else if _ then _ else _) = _
    rw [if_neg (show ¬ opAt l i = 23 by omega), if_neg (show ¬ opAt l i = 24 by omega)]
    exact hh
  ·rw [if_neg h25]
   obtain ⟨q, rs', hq, _⟩ := (Ae hR hO mem h25).ex
   refine ⟨by show 0 ≤ (2 : Int) ∧ (2 : Int) ≤ 5; omega, by show 1 ≤ (1 : Int) ∧ (1 : Int) ≤ 100; omega, by show 0 ≤ used + 1; omega, ?_, fun _ => rfl, fun _ => ⟨q, rs', hq⟩, fun h => ?_⟩
   ·show decide (opAt l i ≠ 25) = decide ((2 : Int) = 2)
    rw [ah h25]
    rfl
   ·have h' : (3 : Int) ≤ 2 := h
    omega
 ·have x4' : on = false := x4.trans (aK h2)
  subst x4'
  have eL : iI l ⟨ph, left, used, inn, ⟨false, s, mem⟩⟩ = left - 1 := if_neg h2
  unfold dc
  rw [eL]
  dsimp only
  rw [if_neg h2]
  by_cases hg : 1 < left
  ·have hla : eK ⟨ph, left, used, inn, ⟨false, s, mem⟩⟩ = false := by
    unfold eK
    rw [aK (show ¬ left = 1 by omega), Bool.and_false]
   have hs : dB t ph (left - 1) = (ph, left - 1) := if_pos (by omega)
   rw [hla, hs]
   exact ⟨x1, by show 1 ≤ left - 1 ∧ left - 1 ≤ 100; omega, by show 0 ≤ used + 1; omega, by show false = decide (ph = 2); rw [aK h2], fun h => absurd h h2, fun h => absurd h h2, x7⟩
  ·have hl1 : left = 1 := by omega
   subst hl1
   rcases hc with rfl | rfl | rfl | rfl | rfl
   ·exact ⟨by show 0 ≤ (1 : Int) ∧ (1 : Int) ≤ 5; omega, by show 1 ≤ t.la ∧ t.la ≤ 100; omega, by show 0 ≤ used + 1; omega, rfl, (fun h => by cases h), (fun h => by cases h), fun h => by have h' : (3 : Int) ≤ 1 := h; omega⟩
   ·exact ⟨by show 0 ≤ (2 : Int) ∧ (2 : Int) ≤ 5; omega, by show 1 ≤ (1 : Int) ∧ (1 : Int) ≤ 100; omega, by show 0 ≤ used + 1; omega, rfl, fun _ => rfl, fun _ => ⟨0, [], wu hR s.ret inp⟩, fun h => by have h' : (3 : Int) ≤ 2 := h; omega⟩
   ·exact absurd rfl h2
   ·have hh := x7 (by omega)
    by_cases hs : t.sw = 0
    ·have e : dB t 3 (1 - 1) = (5, 1) := by
      unfold dB
      rw [if_neg (by decide), if_neg (by decide), if_neg (by decide), if_neg (by decide), if_pos rfl, if_pos hs]
     rw [e]
     exact ⟨by show 0 ≤ (5 : Int) ∧ (5 : Int) ≤ 5; omega, by show 1 ≤ (1 : Int) ∧ (1 : Int) ≤ 100; omega, by show 0 ≤ used + 1; omega, rfl, (fun h => by cases h), (fun h => by cases h), fun _ => hh⟩
    ·have e : dB t 3 (1 - 1) = (4, t.sw) := by
      unfold dB
      rw [if_neg (by decide), if_neg (by decide), if_neg (by decide), if_neg (by decide), if_pos rfl, if_neg hs]
     rw [e]
     exact ⟨by show 0 ≤ (4 : Int) ∧ (4 : Int) ≤ 5; omega, by show 1 ≤ t.sw ∧ t.sw ≤ 100; omega, by show 0 ≤ used + 1; omega, rfl, (fun h => by cases h), (fun h => by cases h), fun _ => hh⟩
   ·have hh := x7 (by omega)
    exact ⟨by show 0 ≤ (5 : Int) ∧ (5 : Int) ≤ 5; omega, by show 1 ≤ (1 : Int) ∧ (1 : Int) ≤ 100; omega, by show 0 ≤ used + 1; omega, rfl, (fun h => by cases h), (fun h => by cases h), fun _ => hh⟩
theorem wv (x lo : Int) (h : lo ≤ 100) : (x == (if (if (100 : Int) < x then 100 else x) > lo then (if (100 : Int) < x then 100 else x) else lo)) = (decide (lo ≤ x) && decide (x ≤ 100)) := by
 rw [ch, ag, ak, am, am]
 split <;> split <;> omega
def p9 (t : TM) : Bool := (decide ((0 : Int) ≤ t.sw) && decide (t.sw ≤ 100)) && ((decide ((1 : Int) ≤ t.la) && decide (t.la ≤ 100)) && (decide ((1 : Int) ≤ t.co) && decide (t.co ≤ 100)))
theorem CA (n : Nat) (a b c : Int) : gg n (a, (b, c)) = some (p9 ⟨a, b, c⟩) := by
 unfold gg p9
 dsimp only
 rw [wv a 0 (by omega), wv b 1 (by omega), wv c 1 (by omega)]
theorem times_ok {t : TM} : p9 t = true ↔ TOk t := by
 unfold p9
 simp only [ak, am]
 exact ⟨fun ⟨⟨a, b⟩, ⟨c, d⟩, e, f⟩ => ⟨a, b, c, d, e, f⟩, fun ⟨a, b, c, d, e, f⟩ => ⟨⟨a, b⟩, ⟨c, d⟩, e, f⟩⟩
abbrev QF : MS := ⟨z8, 0, [], z8, z16, z16, 0, [], 0, 0, 0⟩
abbrev gM (t : TM) (s : MS) (mem : dS) : IS := ⟨(dB t 0 t.sw).1, (dB t 0 t.sw).2, 0, z16, ⟨false, s, mem⟩⟩
theorem JI {t : TM} (ht : TOk t) (l : List cP) (m : List Int) (st : List ByteArray) (s : MS) (mem : dS) : IOk t l m st (gM t s mem) := by
 obtain ⟨s0, s1, l0, l1, c0, c1⟩ := ht
 by_cases h : t.sw = 0
 ·have e : dB t 0 t.sw = (1, t.la) := by unfold dB; rw [if_neg (fun h2 => h2 h), if_pos rfl]
  unfold gM
  rw [e]
  exact ⟨by show 0 ≤ (1 : Int) ∧ (1 : Int) ≤ 5; omega, ⟨l0, l1⟩, by show (0 : Int) ≤ 0; omega, rfl, (fun h => by cases h), (fun h => by cases h), fun h => by have h' : (3 : Int) ≤ 1 := h; omega⟩
 ·have e : dB t 0 t.sw = (0, t.sw) := by unfold dB; rw [if_pos h]
  unfold gM
  rw [e]
  exact ⟨by show 0 ≤ (0 : Int) ∧ (0 : Int) ≤ 5; omega, ⟨by show 1 ≤ t.sw; omega, s1⟩, by show (0 : Int) ≤ 0; omega, rfl, (fun h => by cases h), (fun h => by cases h), fun h => by have h' : (3 : Int) ≤ 0 := h; omega⟩
theorem Eb : gX 30000 = some true := by kernel_rfl
theorem KD {t : TM} {ph q : Int} (h : 2 ≤ ph) : 2 ≤ (dB t ph q).1 := by
 unfold dB
 split
 ·exact h
 ·rw [if_neg (by omega), if_neg (by omega)]
  split
  ·show (2 : Int) ≤ 3; omega
  ·split
   ·split
    ·show (2 : Int) ≤ 5; omega
    ·show (2 : Int) ≤ 4; omega
   ·split
    ·show (2 : Int) ≤ 5; omega
    ·exact h
structure WOk (t : TM) (x : IS) : Prop where
 w0 : x.ph = 0 → x.used + x.left = t.sw
 w1 : x.ph = 1 → x.used + x.left = t.sw + t.la
theorem HB {t : TM} {l : List cP} {m : List Int} (inp : List Int) {x : IS} (h0 : 0 ≤ x.ph) (hl : 1 ≤ x.left) (hw : WOk t x) : WOk t (dc t l m inp x) := by
 obtain ⟨w0, w1⟩ := hw
 obtain ⟨ph, left, used, inn, c⟩ := x
 simp only at h0 hl w0 w1
 by_cases h2 : 2 ≤ ph
 ·have := KD (t := t) (q := iI l ⟨ph, left, used, inn, c⟩) h2
  exact ⟨fun h => by have h' : (dB t ph (iI l ⟨ph, left, used, inn, c⟩)).1 = 0 := h; omega, fun h => by have h' : (dB t ph (iI l ⟨ph, left, used, inn, c⟩)).1 = 1 := h; omega⟩
 ·have eL : iI l ⟨ph, left, used, inn, c⟩ = left - 1 := if_neg (show ¬ ph = 2 by omega)
  have e : (dc t l m inp ⟨ph, left, used, inn, c⟩).ph = (dB t ph (left - 1)).1 ∧ (dc t l m inp ⟨ph, left, used, inn, c⟩).left = (dB t ph (left - 1)).2 ∧ (dc t l m inp ⟨ph, left, used, inn, c⟩).used = used + 1 := by
   unfold dc
   rw [eL]
   exact ⟨rfl, rfl, rfl⟩
  constructor <;> rw [e.1, e.2.1, e.2.2] <;> (
   have hc : ph = 0 ∨ ph = 1 := by omega
   by_cases h1 : left - 1 = 0
   ·rw [h1]
    rcases hc with rfl | rfl
    ·have := w0 rfl
     have e : dB t 0 0 = (1, t.la) := rfl
     rw [e]
     dsimp only
     omega
    ·have e : dB t 1 0 = (2, 1) := rfl
     rw [e]
     dsimp only
     omega
   ·have e : dB t ph (left - 1) = (ph, left - 1) := if_pos h1
    rw [e]
    dsimp only
    intro h
    rcases hc with rfl | rfl
    ·have := w0 rfl; omega
    ·have := w1 rfl; omega)
theorem JJ {t : TM} {x : IS} (hw : WOk t x) (h : eK x = true) : x.used + 1 = t.sw + t.la := by
 unfold eK at h
 rw [ak, am, am] at h
 have := hw.w1 h.1
 omega
theorem Fl {t : TM} (s : MS) (mem : dS) : WOk t (gM t s mem) := by
 by_cases h : t.sw = 0
 ·have e : dB t 0 t.sw = (1, t.la) := by unfold dB; rw [if_neg (fun h2 => h2 h), if_pos rfl]
  unfold gM
  rw [e]
  exact ⟨(fun h => by cases h), fun _ => show (0 : Int) + t.la = t.sw + t.la by omega⟩
 ·have e : dB t 0 t.sw = (0, t.sw) := by unfold dB; rw [if_pos h]
  unfold gM
  rw [e]
  exact ⟨fun _ => show (0 : Int) + t.sw = t.sw by omega, fun h => by cases h⟩
structure Meas (b : Int → Int → Int) (P : Int → Int → Prop) (Q : Int → Int → Int → Prop) : Prop where
 bet : pZ b
 zero : P 0 0
 one : ∀ t v, 0 ≤ t → 0 ≤ v ∧ v ≤ 1048577 → P t v → P (t + 1) (dz v 1)
 none_ : ∀ w, Q 0 0 w
 round : ∀ c n w t, 0 ≤ c → 0 ≤ n → 0 ≤ t → 0 ≤ w ∧ w ≤ 1048577 → Q c n w → P t w → Q (c + t + 1) (n + 1) w
 loop : ∀ t v c w A, 0 ≤ t → 0 ≤ v ∧ v ≤ 1048577 → 0 ≤ c → 0 ≤ w ∧ w ≤ 1048577 → 1 ≤ A → P t v → Q c A w → P (t + 1 + c) (dz v (eH w A))
 put : ∀ (D : Nat → Int) (k : Nat) (v t : Int), 0 ≤ v ∧ v ≤ 1048577 → (∀ j, StepsI (D j)) → P t v → P t (dX b D k v k)
 keep : ∀ (D : Nat → Int) (q k : Nat) (v t : Int), 0 ≤ v ∧ v ≤ 1048577 → (∀ j, StepsI (D j)) → D k ≠ -1 → P t (D k) → P t (dX b D q v k)
def rJ (t v : Int) : Prop := ee t ≤ v
def HC (c n w : Int) : Prop := w + 1 < 1048577 → c ≤ n * (w + 1)
def xL (t v : Int) : Prop := v ≤ t
def Ec (c n w : Int) : Prop := n * (w + 1) ≤ c
theorem KE (v : Int) : ee v ≤ 1048577 := by unfold ee; split <;> omega
theorem HD {a b : Int} (h : a ≤ b) : ee a ≤ ee b := by unfold ee; split <;> split <;> omega
theorem yA : Meas bM rJ HC where
 bet := jF
 zero := by unfold rJ ee; decide
 one := fun t v ht hv h => by unfold rJ ee at *; unfold dz; split at h <;> split <;> split <;> omega
 none_ := fun w => by intro h; simp
 round := fun c n w t hc hn ht hw h1 h2 => by
  intro h
  have h3 := h1 h
  unfold rJ ee at h2
  rw [Int.add_mul, Int.one_mul]
  split at h2 <;> omega
 loop := fun t v c w A ht hv hc hw hA h1 h2 => by
  unfold rJ at *
  have hp : 0 ≤ A * (w + 1) := bK (by omega) (by omega)
  by_cases hs : w + 1 < 1048577
  ·have h3 := h2 hs
   have e : eH w A = ee (1 + A * (w + 1)) := by
    have := oN hw.1 hA
    rw [show ee w = w by unfold ee; rw [if_neg (by omega)]] at this
    exact this
   rw [e]
   have h4 : ee (t + 1 + c) ≤ dz (ee t) (ee (1 + A * (w + 1))) := by
    rw [Cs ht (by omega)]
    exact HD (by omega)
   refine Int.le_trans h4 (D4 h1 (aN _))
  ·have e : eH w A = 1048577 := by
    unfold eH dz
    rw [if_pos (by split <;> omega)]
   rw [e]
   have := KE (t + 1 + c)
   unfold dz
   split <;> omega
 put := fun D k v t hv hD h => by
  unfold rJ dX at *
  rw [if_pos rfl]
  split
  ·exact h
  ·unfold bM
   split <;> omega
 keep := fun D q k v t hv hD hk h => by
  unfold rJ dX at *
  split
  ·rename_i e
   subst e
   rw [if_neg hk]
   unfold bM
   split <;> omega
  ·exact h
theorem Ed : Meas bL xL Ec where
 bet := oc
 zero := by unfold xL; decide
 one := fun t v ht hv h => by unfold xL at *; unfold dz; split <;> omega
 none_ := fun w => by unfold Ec; simp
 round := fun c n w t hc hn ht hw h1 h2 => by
  unfold xL Ec at *
  rw [Int.add_mul, Int.one_mul]
  omega
 loop := fun t v c w A ht hv hc hw hA h1 h2 => by
  unfold xL Ec at *
  have hp : 1 * 1 ≤ A * (w + 1) := Int.mul_le_mul hA (by omega) (by omega) (by omega)
  have e : eH w A ≤ 1 + A * (w + 1) := by
   unfold eH
   split
   ·rename_i h
    have hw2 : w + 1 ≥ 1048577 := by unfold dz at h; split at h <;> omega
    have : 1 * (w + 1) ≤ A * (w + 1) := bZ hA (by omega)
    omega
   ·rename_i h
    have : dz w 1 = w + 1 := by unfold dz at h ⊢; split <;> split at h <;> omega
    rw [this]
    unfold dz
    split <;> omega
  unfold dz
  split <;> omega
 put := fun D k v t hv hD h => by
  unfold xL dX at *
  rw [if_pos rfl]
  split
  ·exact h
  ·unfold bL
   split <;> omega
 keep := fun D q k v t hv hD hk h => by
  unfold xL dX at *
  split
  ·rename_i e
   subst e
   rw [if_neg hk]
   unfold bL
   split <;> omega
  ·exact h
abbrev Dw (b : Int → Int → Int) (l : List cP) (m : List Int) (f a z : Nat) : Nat → Int := eB b (dL b l m f) l m (z - a) a (gn a)
theorem tV {b : Int → Int → Int} {P : Int → Int → Prop} {Q : Int → Int → Int → Prop} (hM : Meas b P Q) {v t : Int} (hv : 0 ≤ v ∧ v ≤ 1048577) : ∀ (ks : List Nat) {D : Nat → Int} {k : Nat}, (∀ j, StepsI (D j)) → D k ≠ -1 → P t (D k) → P t (ks.foldl (fun g k => dX b g k v) D k)
 | [], D, k, _, _, h => h
 | q :: ks, D, k, hD, hk, h => by
  refine tV hM hv ks (D := dX b D q v) (nI hM.bet hD q hv) ?_ (hM.keep D q k v t hv hD hk h)
  exact iW hM.bet (by omega) [q] (.inl hk)
theorem Ee {b : Int → Int → Int} {P : Int → Int → Prop} {Q : Int → Int → Int → Prop} (hM : Meas b P Q) {v t : Int} (hv : 0 ≤ v ∧ v ≤ 1048577) (h : P t v) : ∀ (ks : List Nat) {D : Nat → Int} {k : Nat}, (∀ j, StepsI (D j)) → k ∈ ks → P t (ks.foldl (fun g k => dX b g k v) D k)
 | q :: ks, D, k, hD, hk => by
  by_cases e : k = q
  ·subst e
   refine tV hM hv ks (D := dX b D k v) (nI hM.bet hD k hv) ?_ (hM.put D k v t hv hD h)
   exact iW hM.bet (by omega) [k] (.inr (aD ..))
  ·exact Ee hM hv h ks (D := dX b D q v) (nI hM.bet hD q hv) ((ay.1 hk).resolve_left e)
theorem HE {b : Int → Int → Int} {P : Int → Int → Prop} {Q : Int → Int → Int → Prop} (hM : Meas b P Q) {W : Nat → Nat → Int} {l : List cP} {m : List Int} {i : Nat} {D : Nat → Int} (hD : ∀ k, StepsI (D k)) (hr : cZ (l.getD i (0, 0, 0)) = true) (hW : opAt l i = 21 → StepsI (W (i + 1) (mN m i))) {k : Nat} {t : Int} (hk : D k ≠ -1) (h : P t (D k)) : eh b W l m i D k ≠ -1 ∧ P t (eh b W l m i D k) := by
 unfold eh
 split
 ·exact ⟨hk, h⟩
 ·rename_i hi
  have hDi := (hD i).nn hi
  have hv := iz hDi.1 (j8 hr hW).1
  exact ⟨iW hM.bet (by omega) _ (.inl hk), tV hM hv _ hD hk h⟩
theorem CB {b : Int → Int → Int} {P : Int → Int → Prop} {Q : Int → Int → Int → Prop} (hM : Meas b P Q) {W : Nat → Nat → Int} {l : List cP} {m : List Int} (hr : ∀ i, i < l.length → cZ (l.getD i (0, 0, 0)) = true) : ∀ (r i : Nat) {D : Nat → Int} {k : Nat} {t : Int}, (∀ k, StepsI (D k)) → r + i ≤ l.length → (∀ k, i ≤ k → k < r + i → opAt l k = 21 → StepsI (W (k + 1) (mN m k))) → D k ≠ -1 → P t (D k) → eB b W l m r i D k ≠ -1 ∧ P t (eB b W l m r i D k)
 | 0, i, D, k, t, hD, hl, hW, hk, h => ⟨hk, h⟩
 | r + 1, i, D, k, t, hD, hl, hW, hk, h => by
  have h1 := HE hM hD (hr i (by omega)) (hW i (aj _) (by omega)) hk h
  exact CB hM hr r (i + 1) (j9 hM.bet hD (hr i (by omega)) (hW i (aj _) (by omega))) (by omega) (fun k h1 h2 => hW k (by omega) (by omega)) h1.1 h1.2
theorem ri {b : Int → Int → Int} {v : Int} {k : Nat} : ∀ (ks : List Nat) {D : Nat → Int}, (∀ q ∈ ks, q ≠ k) → ks.foldl (fun g k => dX b g k v) D k = D k
 | [], D, h => rfl
 | q :: ks, D, h => by
  refine (ri ks (D := dX b D q v) fun p hp => h p (aw _ hp)).trans ?_
  unfold dX
  rw [if_neg (fun e => h q (aD ..) e.symm)]
theorem yB {b : Int → Int → Int} {W : Nat → Nat → Int} {l : List cP} {m : List Int} {a z : Nat} (hR : Reg l m a z) : ∀ (r i : Nat) {D : Nat → Int} {k : Nat}, a ≤ i → i + r ≤ z → k ≤ i → eB b W l m r i D k = D k
 | 0, i, D, k, _, _, _ => rfl
 | r + 1, i, D, k, ha, hz, hk => by
  show eB b W l m r (i + 1) (eh b W l m i D) k = D k
  rw [yB hR r (i + 1) (by omega) (by omega) (by omega)]
  unfold eh
  split
  ·rfl
  ·exact ri _ fun q hq e => by have := (hR.hop ha (by omega)).2 q hq; omega
theorem CC {b : Int → Int → Int} {P : Int → Int → Prop} {Q : Int → Int → Int → Prop} (hM : Meas b P Q) {l : List cP} {m h : List Int} (hF : Fine l m h) (f : Nat) {a z : Nat} (hR : Reg l m a z) {i q : Nat} (ha : a ≤ i) (hz : i < z) (hq : q ∈ fm l m i) (hDi : Dw b l m f a z i ≠ -1) {t : Int} (ht : P t (dz (Dw b l m f a z i) (e8 (dL b l m f) l m i))) :
  Dw b l m f a z q ≠ -1 ∧ P t (Dw b l m f a z q) := by
 have hlt := hR.lt
 have hrr : ∀ i, i < l.length → cZ (l.getD i (0, 0, 0)) = true := fun i hi => hF.right hi
 have hWk : ∀ k, a ≤ k → k < z → opAt l k = 21 → StepsI (dL b l m f (k + 1) (mN m k)) := fun k k1 k2 k3 => gb hM.bet hF f (hF.reg (by omega) (isOpen_iff.2 (.inl k3)))
 have e : ∀ k, Dw b l m f a z k = eB b (dL b l m f) l m (z - i - 1) (i + 1) (eh b (dL b l m f) l m i (eB b (dL b l m f) l m (i - a) a (gn a))) k := fun k => by
  unfold Dw
  rw [show z - a = (i - a) + ((z - i - 1) + 1) by omega, Cr, show a + (i - a) = i by omega]
  rfl
 have hD0 := p5 hM.bet hrr (W := dL b l m f) (m := m) (i - a) a (gQ a) (by omega) (fun k k1 k2 k3 => hWk k k1 (by omega) k3)
 have ei : Dw b l m f a z i = eB b (dL b l m f) l m (i - a) a (gn a) i := by
  rw [e i, yB hR (z - i - 1) (i + 1) (by omega) (by omega) (by omega)]
  unfold eh
  split
  ·rfl
  ·exact ri _ fun q hq e => by have := (hR.hop ha hz).2 q hq; omega
 rw [ei] at hDi ht
 have hDn := (hD0 i).nn hDi
 have hc := j8 (W := dL b l m f) (m := m) (hrr i (by omega)) (fun h21 => hWk i ha hz h21)
 have hv := iz hDn.1 hc.1
 have hst : eh b (dL b l m f) l m i (eB b (dL b l m f) l m (i - a) a (gn a)) q ≠ -1 ∧ P t (eh b (dL b l m f) l m i (eB b (dL b l m f) l m (i - a) a (gn a)) q) := by
  unfold eh
  rw [if_neg hDi]
  exact ⟨iW hM.bet (by omega) _ (.inr hq), Ee hM hv ht _ hD0 hq⟩
 rw [e q]
 exact CB hM hrr (z - i - 1) (i + 1) (j9 hM.bet hD0 (hrr i (by omega)) (fun h21 => hWk i ha hz h21)) (by omega) (fun k k1 k2 k3 => hWk k (by omega) (by omega) k3) hst.1 hst.2
theorem lP {b : Int → Int → Int} {l : List cP} {m : List Int} (f : Nat) {a z : Nat} (hR : Reg l m a z) : Dw b l m f a z a = 0 := by
 unfold Dw
 rw [yB hR (z - a) a (aj _) (by have := hR.le; omega) (aj _)]
 unfold gn
 rw [if_pos rfl]
def InvP (b : Int → Int → Int) (P : Int → Int → Prop) (Q : Int → Int → Int → Prop) (l : List cP) (m : List Int) (f : Nat) : Nat → Nat → Nat → List (Nat × Int) → Int → Prop
 | a, z, i, [], t => 0 ≤ t ∧ tK l m a z i ∧ Dw b l m f a z i ≠ -1 ∧ P t (Dw b l m f a z i)
 | a, z, i, (k, r) :: rs, t => ∃ t0 c t1, t = t0 + 1 + c + t1 ∧ 0 ≤ t0 ∧ 0 ≤ c ∧ tK l m a z k ∧ k < z ∧ opAt l k = 21 ∧ Dw b l m f a z k ≠ -1 ∧ P t0 (Dw b l m f a z k) ∧ r ≤ cT l k ∧ Q c (cT l k - r) (dL b l m f (k + 1) (mN m k)) ∧ InvP b P Q l m f (k + 1) (mN m k) i rs t1
theorem InvP.nn {b : Int → Int → Int} {P : Int → Int → Prop} {Q : Int → Int → Int → Prop} {l : List cP} {m : List Int} {f : Nat} : ∀ {rs : List (Nat × Int)} {a z i : Nat} {t : Int}, InvP b P Q l m f a z i rs t → 0 ≤ t
 | [], a, z, i, t, h => h.1
 | (k, r) :: rs, a, z, i, t, ⟨t0, c, t1, e, h1, h2, _, _, _, _, _, _, _, h⟩ => by
  have := InvP.nn h
  omega
theorem InvP.in_ {b : Int → Int → Int} {P : Int → Int → Prop} {Q : Int → Int → Int → Prop} {l : List cP} {m h : List Int} (hF : Fine l m h) {f : Nat} : ∀ {rs : List (Nat × Int)} {a z i : Nat} {t : Int}, Reg l m a z → InvP b P Q l m f a z i rs t → a ≤ i ∧ i ≤ z
 | [], a, z, i, t, hR, hI => ⟨hI.2.1.1, hI.2.1.2.1⟩
 | (k, r) :: rs, a, z, i, t, hR, ⟨t0, c, t1, e, h1, h2, h3, h4, h5, _, _, _, _, hI⟩ => by
  have := hR.lt
  have hRk := hF.reg (show k < l.length by omega) (isOpen_iff.2 (.inl h5))
  obtain ⟨j, j1, j2, j3⟩ := hR.loop k h3.1 h4 (isOpen_iff.2 (.inl h5))
  have e2 : mN m k = j := by unfold mN; rw [j1]; rfl
  have := InvP.in_ hF hRk hI
  have := h3.1
  omega
theorem oh {l : List cP} {m h : List Int} (hF : Fine l m h) {k : Nat} (hk : k < l.length) (ho : da l k = true) : ∃ j : Nat, m.getD k 0 = (j : Int) ∧ mN m k = j ∧ k < j ∧ j < l.length ∧ m.getD j 0 = (k : Int) ∧ l.getD j (0, 0, 0) = ends (l.getD k (0, 0, 0)) := by
 obtain ⟨j, j1, j2, j3, j4, j5⟩ := hF.closed.op_ k hk ho
 exact ⟨j, j1, by unfold mN; rw [j1]; rfl, j2, j3, j5, j4⟩
theorem JK {l : List cP} {m h : List Int} (hF : Fine l m h) {a z : Nat} (hR : Reg l m a z) {i q : Nat} (hI : tK l m a z i) (hz : i < z) (h21 : opAt l i ≠ 21) (hq : q ∈ dn l i) : tK l m a z q ∧ q ∈ fm l m i := by
 have hlt := hR.lt
 have hq2 : q ∈ fm l m i := by
  unfold dn at hq
  unfold fm
  rw [if_neg h21]
  split at hq
  ·rename_i h; rw [if_pos h]; exact hq
  ·rename_i h
   rw [if_neg h]
   split at hq
   ·rename_i h2
    rw [if_pos h2]
    rw [ay, ao] at hq
    rw [ay, ao]
    exact hq.symm
   ·rename_i h2
    rw [if_neg h2]
    split at hq
    ·cases hq
    ·exact hq
 have hb := (hR.hop hI.1 hz).2 q hq2
 refine ⟨⟨by have := hI.1; omega, hb.2, fun p h1 h2 h3 => ?_⟩, hq2⟩
 rcases au p i with hp | hp
 ·have := hI.2.2 p h1 hp h3; omega
 ·by_cases e : p = i
  ·subst e; exact absurd h3 h21
  ·-- a jump over the beginning of a loop does not end in it
   have ho := isOpen_iff.2 (.inl h3)
   obtain ⟨j, j1, j2, j3, j4, j5, j6⟩ := oh hF (show p < l.length by omega) ho
   rw [j2]
   rcases au j q with hj | hj
   ·exact hj
   ·exfalso
    have hjmp : (opAt l i = 19 ∨ opAt l i = 20) ∧ q = db l i := by
     unfold dn at hq
     split at hq
     ·rename_i h; exact ⟨.inl h, ao.1 hq⟩
     ·split at hq
      ·rename_i h2
       rw [ay, ao] at hq
       rcases hq with h | h
       ·omega
       ·exact ⟨.inr h2, h⟩
      ·split at hq
       ·cases hq
       ·have := ao.1 hq; omega
    have e1 := hF.jump_enc (show i < l.length by omega) hjmp.1 p
    rw [← hjmp.2] at e1
    have e2 := (ey ho j1).2 (show p < q ∧ q ≤ j from ⟨h2, hj⟩)
    rw [e1] at e2
    have := (dW e2).1
    omega
def HF (m : List Int) (z : Nat) : List (Nat × Int) → Nat
 | [] => z
 | (k, _) :: rs => HF m (mN m k) rs
theorem InvP.on {b : Int → Int → Int} {P : Int → Int → Prop} {Q : Int → Int → Int → Prop} (hM : Meas b P Q) {l : List cP} {m h : List Int} (hF : Fine l m h) {f : Nat} : ∀ {rs : List (Nat × Int)} {a z i q : Nat} {t : Int}, Reg l m a z → InvP b P Q l m f a z i rs t → i < HF m z rs → opAt l i ≠ 21 → q ∈ dn l i → InvP b P Q l m f a z q rs (t + 1)
 | [], a, z, i, q, t, hR, ⟨h1, h2, h3, h4⟩, hz, h21, hq => by
  have hlt := hR.lt
  have hz2 : i < z := hz
  obtain ⟨r1, r2⟩ := JK hF hR h2 hz2 h21 hq
  have hS := p5 hM.bet (fun i hi => hF.right hi) (W := dL b l m f) (m := m) (z - a) a (gQ a) (by have := hR.le; omega) (fun k k1 k2 k3 => gb hM.bet hF f (hF.reg (by omega) (isOpen_iff.2 (.inl k3))))
  have hv := (hS i).nn h3
  have hc : e8 (dL b l m f) l m i = 1 := by unfold e8; rw [if_neg h21]
  obtain ⟨g1, g2⟩ := CC hM hF f hR h2.1 hz2 r2 h3 (t := t + 1) (by rw [hc]; exact hM.one t _ h1 hv h4)
  exact ⟨by omega, r1, g1, g2⟩
 | (k, r) :: rs, a, z, i, q, t, hR, ⟨t0, c, t1, e, h1, h2, h3, h4, h5, h6, h7, h8, h9, hI⟩, hz, h21, hq => by
  have := hR.lt
  have hRk := hF.reg (show k < l.length by omega) (isOpen_iff.2 (.inl h5))
  exact ⟨t0, c, t1 + 1, by omega, h1, h2, h3, h4, h5, h6, h7, h8, h9, InvP.on hM hF hRk hI hz h21 hq⟩
theorem InvP.into {b : Int → Int → Int} {P : Int → Int → Prop} {Q : Int → Int → Int → Prop} (hM : Meas b P Q) {l : List cP} {m h : List Int} (hF : Fine l m h) {f : Nat} : ∀ {rs : List (Nat × Int)} {a z i : Nat} {t : Int}, Reg l m a z → InvP b P Q l m f a z i rs t → i < HF m z rs → opAt l i = 21 → InvP b P Q l m f a z (i + 1) (rs ++ [(i, cT l i)]) (t + 1)
 | [], a, z, i, t, hR, ⟨h1, h2, h3, h4⟩, hz, h21 => by
  have hlt := hR.lt
  have hz2 : i < z := hz
  have hRk := hF.reg (show i < l.length by omega) (isOpen_iff.2 (.inl h21))
  refine ⟨t, 0, 0, by omega, h1, by omega, h2, hz2, h21, h3, h4, aN _, by rw [Int.sub_self]; exact hM.none_ _, by omega, ⟨aj _, hRk.le, fun q h1 h2 _ => by omega⟩, ?_, ?_⟩
  ·rw [lP f hRk]; decide
  ·rw [lP f hRk]; exact hM.zero
 | (k, r) :: rs, a, z, i, t, hR, ⟨t0, c, t1, e, h1, h2, h3, h4, h5, h6, h7, h8, h9, hI⟩, hz, h21 => by
  have := hR.lt
  have hRk := hF.reg (show k < l.length by omega) (isOpen_iff.2 (.inl h5))
  exact ⟨t0, c, t1 + 1, by omega, h1, h2, h3, h4, h5, h6, h7, h8, h9, InvP.into hM hF hRk hI hz h21⟩
theorem xM {b : Int → Int → Int} {l : List cP} {m h : List Int} (hF : Fine l m h) {f : Nat} (hf : l.length < f) {a z : Nat} (hR : Reg l m a z) : Dw b l m f a z z = dL b l m f a z := by
 have h1 := hR.lt
 have := Ab (b := b) hF (f + 1) f hR (by omega) (by omega)
 exact this
theorem xN {b : Int → Int → Int} {P : Int → Int → Prop} {Q : Int → Int → Int → Prop} (hM : Meas b P Q) {l : List cP} {m h : List Int} (hF : Fine l m h) {f : Nat} (hf : l.length < f) : ∀ {rs : List (Nat × Int)} {a z i k : Nat} {r t : Int}, Reg l m a z → InvP b P Q l m f a z i (rs ++ [(k, r)]) t → i = mN m k → InvP b P Q l m f a z (k + 1) (rs ++ [(k, r - 1)]) (t + 1)
 | [], a, z, i, k, r, t, hR, ⟨t0, c, t1, e, h1, h2, h3, h4, h5, h6, h7, h8, h9, g1, g2, g3, g4⟩, hi => by
  have hlt := hR.lt
  have hRk := hF.reg (show k < l.length by omega) (isOpen_iff.2 (.inl h5))
  subst hi
  rw [xM hF hf hRk] at g3 g4
  have hw := (gb hM.bet hF f hRk).nn g3
  refine ⟨t0, c + t1 + 1, 0, by omega, h1, by omega, h3, h4, h5, h6, h7, by omega, ?_, by omega, ⟨aj _, hRk.le, fun q h1 h2 _ => by omega⟩, ?_, ?_⟩
  ·have := hM.round c (cT l k - r) _ t1 h2 (by omega) g1 hw h9 g4
   rw [show cT l k - r + 1 = cT l k - (r - 1) by omega] at this
   exact this
  ·rw [lP f hRk]; decide
  ·rw [lP f hRk]; exact hM.zero
 | (k0, r0) :: rs, a, z, i, k, r, t, hR, ⟨t0, c, t1, e, h1, h2, h3, h4, h5, h6, h7, h8, h9, hI⟩, hi => by
  have := hR.lt
  have hRk := hF.reg (show k0 < l.length by omega) (isOpen_iff.2 (.inl h5))
  exact ⟨t0, c, t1 + 1, by omega, h1, h2, h3, h4, h5, h6, h7, h8, h9, xN hM hF hf hRk hI hi⟩
theorem InvP.out {b : Int → Int → Int} {P : Int → Int → Prop} {Q : Int → Int → Int → Prop} (hM : Meas b P Q) {l : List cP} {m h : List Int} (hF : Fine l m h) {f : Nat} (hf : l.length < f) : ∀ {rs : List (Nat × Int)} {a z i k : Nat} {t : Int}, Reg l m a z → InvP b P Q l m f a z i (rs ++ [(k, 1)]) t → i = mN m k → InvP b P Q l m f a z (i + 1) rs (t + 1)
 | [], a, z, i, k, t, hR, ⟨t0, c, t1, e, h1, h2, h3, h4, h5, h6, h7, h8, h9, g1, g2, g3, g4⟩, hi => by
  have hlt := hR.lt
  have hRk := hF.reg (show k < l.length by omega) (isOpen_iff.2 (.inl h5))
  subst hi
  rw [xM hF hf hRk] at g3 g4
  have hw := (gb hM.bet hF f hRk).nn g3
  have hA := xG (hF.right (show k < l.length by omega)) h5
  have hq := hM.round c (cT l k - 1) _ t1 h2 (by omega) g1 hw h9 g4
  rw [show cT l k - 1 + 1 = cT l k by omega] at hq
  have hS := p5 hM.bet (fun i hi => hF.right hi) (W := dL b l m f) (m := m) (z - a) a (gQ a) (by have := hR.le; omega) (fun k k1 k2 k3 => gb hM.bet hF f (hF.reg (by omega) (isOpen_iff.2 (.inl k3))))
  have hv := (hS k).nn h6
  have hl := hM.loop t0 _ (c + t1 + 1) _ (cT l k) h1 hv (by omega) hw hA.1 h7 hq
  have hc : e8 (dL b l m f) l m k = eH (dL b l m f (k + 1) (mN m k)) (cT l k) := by unfold e8; rw [if_pos h5]
  have hhop : mN m k + 1 ∈ fm l m k := by unfold fm; rw [if_pos h5]; exact ao.2 rfl
  obtain ⟨b1, b2⟩ := CC hM hF f hR h3.1 h4 hhop h6 (t := t0 + 1 + (c + t1 + 1)) (by rw [hc]; exact hl)
  have hbz := (hR.hop h3.1 h4).2 _ hhop
  obtain ⟨j, j1, j2, j3, j4, j5, j6⟩ := oh hF (show k < l.length by omega) (isOpen_iff.2 (.inl h5))
  refine ⟨by omega, ⟨by have := h3.1; omega, hbz.2, fun p p1 p2 p3 => ?_⟩, b1, ?_⟩
  ·have hpo := isOpen_iff.2 (.inl p3)
   obtain ⟨jp, w1, w2, w3, w4, w5, w6⟩ := oh hF (show p < l.length by omega) hpo
   rcases Nat.lt_trichotomy p k with hp | hp | hp
   ·have := h3.2.2 p p1 hp p3; omega
   ·subst hp; omega
   ·have hpj : p ≠ j := fun e => by
     have := nG (l.getD k (0, 0, 0))
     rw [← j6, ← e] at this
     unfold opAt at p3
     rw [p3] at this
     rcases this with h | h <;> cases h
    obtain ⟨x, x1, x2⟩ := hF.nest.cross k p j hp (by omega) (by omega) (isOpen_iff.2 (.inl h5)) hpo j1
    rw [w1] at x1
    omega
  ·rw [e]
   rw [show t0 + 1 + c + t1 + 1 = t0 + 1 + (c + t1 + 1) by omega]
   exact b2
 | (k0, r0) :: rs, a, z, i, k, t, hR, ⟨t0, c, t1, e, h1, h2, h3, h4, h5, h6, h7, h8, h9, hI⟩, hi => by
  have := hR.lt
  have hRk := hF.reg (show k0 < l.length by omega) (isOpen_iff.2 (.inl h5))
  exact ⟨t0, c, t1 + 1, by omega, h1, h2, h3, h4, h5, h6, h7, h8, h9, InvP.out hM hF hf hRk hI hi⟩
theorem InvP.start {b : Int → Int → Int} {P : Int → Int → Prop} {Q : Int → Int → Int → Prop} (hM : Meas b P Q) {l : List cP} {m : List Int} {f a z : Nat} (hR : Reg l m a z) : InvP b P Q l m f a z a [] 0 :=
 ⟨aN _, ⟨aj _, hR.le, fun q h1 h2 _ => by omega⟩, by rw [lP f hR]; decide, by rw [lP f hR]; exact hM.zero⟩
def HG (l : List cP) (m : List Int) (i : Nat) (rs : List (Nat × Int)) (q : Nat) (rs' : List (Nat × Int)) : Prop :=
 ∀ (b : Int → Int → Int) (P : Int → Int → Prop) (Q : Int → Int → Int → Prop) (f a z : Nat) (t : Int), Meas b P Q → l.length < f → Reg l m a z → InvP b P Q l m f a z i rs t → i ≠ z → InvP b P Q l m f a z q rs' (t + 1)
theorem CD {b : Int → Int → Int} {P : Int → Int → Prop} {Q : Int → Int → Int → Prop} {l : List cP} {m h : List Int} (hF : Fine l m h) {f : Nat} : ∀ {rs : List (Nat × Int)} {a z i : Nat} {t : Int}, Reg l m a z → InvP b P Q l m f a z i rs t → i ≠ z → opAt l i ≠ 22 → i < HF m z rs
 | [], a, z, i, t, hR, hI, hz, h22 => by
  have := (InvP.in_ hF hR hI).2
  show i < z
  omega
 | (k, r) :: rs, a, z, i, t, hR, ⟨t0, c, t1, e, h1, h2, h3, h4, h5, h6, h7, h8, h9, hI⟩, hz, h22 => by
  have := hR.lt
  have hRk := hF.reg (show k < l.length by omega) (isOpen_iff.2 (.inl h5))
  show i < HF m (mN m k) rs
  refine CD hF hRk hI (fun e => h22 ?_) h22
  obtain ⟨j, j1, j2, j3, j4, j5, j6⟩ := oh hF (show k < l.length by omega) (isOpen_iff.2 (.inl h5))
  rw [j2] at e
  rw [e]
  unfold opAt
  rw [j6]
  unfold ends
  rw [if_pos h5]
theorem yC {l : List cP} {m h : List Int} (hF : Fine l m h) {i q : Nat} {rs : List (Nat × Int)} (h21 : opAt l i ≠ 21) (h22 : opAt l i ≠ 22) (hq : q ∈ dn l i) : HG l m i rs q rs :=
 fun b P Q f a z t hM hf hR hI hz => InvP.on hM hF hR hI (CD hF hR hI hz h22) h21 hq
theorem HH {l : List cP} {m h : List Int} (hF : Fine l m h) {i : Nat} {rs : List (Nat × Int)} (h21 : opAt l i = 21) : HG l m i rs (i + 1) (rs ++ [(i, cT l i)]) :=
 fun b P Q f a z t hM hf hR hI hz => InvP.into hM hF hR hI (CD hF hR hI hz (by rw [h21]; decide)) h21
theorem Fm {l : List cP} {m h : List Int} (hF : Fine l m h) {i k : Nat} {r : Int} {rs : List (Nat × Int)} (hi : i = mN m k) : HG l m i (rs ++ [(k, r)]) (k + 1) (rs ++ [(k, r - 1)]) :=
 fun b P Q f a z t hM hf hR hI hz => xN hM hF hf hR hI hi
theorem JL {l : List cP} {m h : List Int} (hF : Fine l m h) {i k : Nat} {rs : List (Nat × Int)} (hi : i = mN m k) : HG l m i (rs ++ [(k, 1)]) (i + 1) rs :=
 fun b P Q f a z t hM hf hR hI hz => InvP.out hM hF hf hR hI hi
def Fo (l : List cP) (m : List Int) (i q : Nat) : Prop := ∀ p, opAt l p = 23 → enc l m p q = true → (p = i ∧ opAt l i = 23) ∨ (enc l m p i = true ∧ i ≠ mN m p)
theorem ww {l : List cP} {m h : List Int} (hF : Fine l m h) {p i : Nat} (hp : opAt l p = 23) (he : enc l m p i = true) (h24 : opAt l i ≠ 24) : i ≠ mN m p := by
 have ho := (dW he).2
 obtain ⟨j, j1, j2, j3, j4, j5, j6⟩ := oh hF (fk ho) ho
 intro e
 rw [j2] at e
 subst e
 have h21 : ¬ (l.getD p (0, 0, 0)).1 = 21 := fun h => by unfold opAt at hp; rw [hp] at h; cases h
 unfold ends at j6
 rw [if_neg h21] at j6
 unfold opAt at h24
 rw [j6] at h24
 exact h24 rfl
theorem uw {l : List cP} {m h : List Int} (hF : Fine l m h) {i q : Nat} (hi : i < l.length) (h22 : opAt l i ≠ 22) (hq : q ∈ dn l i) : Fo l m i q := fun p hp he => by
 by_cases h24 : opAt l i = 24
 ·obtain ⟨k0, a1, a2, a3, a4, a5, a6, a7⟩ := ky hF hi (.inr h24)
  have hq1 : q = i + 1 := by
   unfold dn at hq
   rw [if_neg (by omega), if_neg (by omega), if_neg (by omega)] at hq
   exact ao.1 hq
  subst hq1
  rw [a7] at he
  refine .inr ⟨by rw [a6, he, Bool.or_true], fun e => ?_⟩
  have hpo := (dW he).2
  obtain ⟨j, j1, j2, j3, j4, j5, j6⟩ := oh hF (fk hpo) hpo
  rw [j2] at e
  subst e
  rw [a1] at j5
  have : p = k0 := by omega
  subst this
  have := (dW he).1
  omega
 ·have key : (p = i ∧ opAt l i = 23) ∨ enc l m p i = true := by
   have hsucc : q = i + 1 → (p = i ∧ opAt l i = 23) ∨ enc l m p i = true := fun e => by
    subst e
    rw [gt hF hi h22 h24, aC, ak, am] at he
    rcases he with ⟨h1, _⟩ | h1
    ·exact .inl ⟨h1, h1 ▸ hp⟩
    ·exact .inr h1
   unfold dn at hq
   split at hq
   ·rename_i h
    have := ao.1 hq
    subst this
    rw [hF.jump_enc hi (.inl h)] at he
    exact .inr he
   ·split at hq
    ·rename_i h
     rw [ay, ao] at hq
     rcases hq with e | e
     ·exact hsucc e
     ·subst e
      rw [hF.jump_enc hi (.inr h)] at he
      exact .inr he
    ·split at hq
     ·cases hq
     ·exact hsucc (ao.1 hq)
  rcases key with h | h
  ·exact .inl h
  ·exact .inr ⟨h, ww hF hp h h24⟩
theorem Af {l : List cP} {m h : List Int} (hF : Fine l m h) {i k : Nat} (hi : i < l.length) (h22 : opAt l i = 22) (hk : m.getD i 0 = (k : Int)) : Fo l m i (k + 1) ∧ Fo l m i (i + 1) := by
 obtain ⟨k0, a1, a2, a3, a4, a5, a6, a7⟩ := ky hF hi (.inl h22)
 obtain ⟨k1, b1, b2, b3, b4, b5⟩ := oe hF hi h22
 have e0 : k0 = k := by rw [a1] at hk; omega
 have e1 : k1 = k0 := by rw [a1] at b1; omega
 subst e0
 subst e1
 refine ⟨fun p hp he => ?_, fun p hp he => ?_⟩
 ·rw [gt hF (by omega) (by rw [b3]; decide) (by rw [b3]; decide), aC, ak, am] at he
  rcases he with ⟨h1, _⟩ | h1
  ·subst h1; rw [b3] at hp; cases hp
  ·have he2 : enc l m p i = true := by rw [a6, h1, Bool.or_true]
   exact .inr ⟨he2, ww hF hp he2 (by omega)⟩
 ·rw [a7] at he
  have he2 : enc l m p i = true := by rw [a6, he, Bool.or_true]
  exact .inr ⟨he2, ww hF hp he2 (by omega)⟩
structure NextG (l : List cP) (m : List Int) (st : List ByteArray) (i : Nat) (rs : List (Nat × Int)) (s' : MS) : Prop where
 ex : ∃ q rs', Ok l m st s' q rs' ∧ m8 l m q rs' + 1 ≤ m8 l m i rs ∧ HG l m i rs q rs' ∧ Fo l m i q
theorem HI {l : List cP} {m h : List Int} {st : List ByteArray} (hR : Row l m h st) {s s' : MS} {i : Nat} {rs : List (Nat × Int)} (hO : Ok l m st s i rs) (h21 : opAt l i ≠ 21) (h22 : opAt l i ≠ 22) (h23 : opAt l i ≠ 23) (h24 : opAt l i ≠ 24) {q : Nat} (hq : q ∈ dn l i)
  (e1 : s'.at_ = (q : Int)) (e2 : VT (dg (l.getD i (0, 0, 0)) (mZ st i)).1 s'.stk) (e3 : s'.rds = s.rds) (e4 : s'.held = s.held) : NextG l m st i rs s' := by
 have hF := hR.fine
 have hi := hO.lt
 have hql := hF.next hi q hq
 have hlps : lps l m q = lps l m i ∧ ∀ v, HeldB l m i v → HeldB l m q v := by
  unfold dn at hq
  split at hq
  ·rename_i h19
   rw [ao] at hq
   subst hq
   exact ⟨re hF hi (.inl h19), fun v hv => hv.jump hF hi (.inl h19)⟩
  ·split at hq
   ·rename_i h20
    rw [ay, ao] at hq
    rcases hq with rfl | rfl
    ·exact ⟨kz hF hi h21 h22 h24, fun v hv => hv.plain hF hi h23 h22 h24⟩
    ·exact ⟨re hF hi (.inr h20), fun v hv => hv.jump hF hi (.inr h20)⟩
   ·split at hq
    ·cases hq
    ·rw [ao] at hq
     subst hq
     exact ⟨kz hF hi h21 h22 h24, fun v hv => hv.plain hF hi h23 h22 h24⟩
 refine ⟨q, rs, ⟨e1, hql, ?_, by rw [hlps.1]; exact hO.lps, by rw [e3]; exact hO.rds, hO.rnd, ?_⟩, p8 hF hi (wr hq) hO.lps, yC hF h21 h22 hq, uw hF hi h22 hq⟩
 ·rw [hR.stk.nx i hi q hq]
  exact e2
 ·obtain ⟨v, v1, v2⟩ := hO.held
  exact ⟨v, e4.trans v1, hlps.2 v v2⟩
theorem yD {l : List cP} {m h : List Int} {st : List ByteArray} (hR : Row l m h st) {s : MS} {i : Nat} {rs : List (Nat × Int)} (hO : Ok l m st s i rs) (mem : dS) (h25 : opAt l i ≠ 25) : NextG l m st i rs (eb (l.getD i (0, 0, 0)) (m.getD i 0) s mem) := by
 have hi := hO.lt
 have hF := hR.fine
 have hr := hF.right hi
 have hok := hR.stk.ok i hi
 have hp := hO.place
 have hv := (yz (o := (l.getD i (0, 0, 0)).1) (A := (l.getD i (0, 0, 0)).2.1) (B := (l.getD i (0, 0, 0)).2.2) (S := s) (mem := mem) hr hok hO.vt).1
 have hx : l.getD i (0, 0, 0) = (opAt l i, cT l i, (l.getD i (0, 0, 0)).2.2) := rfl
 have hstk : VT (dg (l.getD i (0, 0, 0)) (mZ st i)).1 (eb (l.getD i (0, 0, 0)) (m.getD i 0) s mem).stk := hv
 have hrds : opAt l i ≠ 21 → opAt l i ≠ 22 → (eb (l.getD i (0, 0, 0)) (m.getD i 0) s mem).rds = s.rds := fun h1 h2 => by
  show fw _ _ = _
  unfold fw
  rw [if_neg h1, if_neg h2]
 have hheld : opAt l i ≠ 23 → opAt l i ≠ 24 → (eb (l.getD i (0, 0, 0)) (m.getD i 0) s mem).held = s.held := fun h1 h2 => by
  show (if _ then _ else if _ then _ else _) = _
  rw [if_neg h1, if_neg h2]
 have hon : opAt l i ≠ 19 → opAt l i ≠ 20 → opAt l i ≠ 22 → (eb (l.getD i (0, 0, 0)) (m.getD i 0) s mem).at_ = ((i + 1 : Nat) : Int) := fun h1 h2 h3 => by
  show dT _ _ _ = _
  unfold dT
  rw [if_neg h1, if_neg h2, if_neg h3, hp]
  rfl
 by_cases h22 : opAt l i = 22
 ·obtain ⟨k, a1, a2, a3, a4, a5, a6, a7⟩ := oe hF hi h22
  obtain ⟨k', b1, b2, b3⟩ : ∃ k' : Nat, m.getD i 0 = (k' : Int) ∧ (∀ v, HeldB l m i v → HeldB l m (k' + 1) v) ∧ (∀ v, HeldB l m i v → HeldB l m (i + 1) v) := by
   refine ⟨k, a1, fun v hv => ?_, fun v hv => ?_⟩
   ·obtain ⟨k2, c1, c2, c3⟩ := hv.next hF hi h22
    have : k = k2 := by rw [a1] at c1; omega
    rw [this]; exact c2
   ·obtain ⟨k2, c1, c2, c3⟩ := hv.next hF hi h22
    exact c3
  have hkk : k = k' := by rw [a1] at b1; omega
  subst hkk
  obtain ⟨v, v1, v2⟩ := hO.held
  have e := hO.lps
  rw [a5] at e
  obtain ⟨rs0, rs1, e1, e2, e3⟩ := List.map_eq_append_iff.1 e
  obtain ⟨q, e4, e5⟩ := List.map_eq_singleton_iff.1 e3
  obtain ⟨qk, qr⟩ := q
  simp only at e5
  subst e5
  subst e4
  subst e1
  have hsr : s.rds = rs0.map (·.2) ++ [qr] := by rw [hO.rds]; simp
  have hb := hO.rnd (qk, qr) (by simp)
  have hph := Cy hF hi a2 a3 a4 a5 e2 (r := qr)
  have hgm : i = mN m qk := by unfold mN; rw [a4]; rfl
  have hst22 := hR.stk.nt i hi h22
  rw [a1, ai] at hst22
  -- the types ahead of the loop's first instruction are those of its Next
  have hgo : mZ st (qk + 1) = (dg (l.getD qk (0, 0, 0)) (mZ st i)).1 := by
   rw [hR.stk.nx qk (by omega) (qk + 1) (fC (by rw [a3]; decide) (by rw [a3]; decide)), hst22]
  have hx22 : l.getD i (0, 0, 0) = (22, cT l i, (l.getD i (0, 0, 0)).2.2) := by rw [← h22]
  have hst : (eb (l.getD i (0, 0, 0)) (m.getD i 0) s mem).stk = s.stk := by
   have e : ∀ A B, fv (22, A, B) s mem = s.stk := fun A B => by kernel_rfl
   show fv (l.getD i (0, 0, 0)) s mem = _
   rw [hx22, e]
  by_cases hq : qr - 1 > 0
  ·refine ⟨qk + 1, rs0 ++ [(qk, qr - 1)], ⟨?_, by omega, ?_, ?_, ?_, ?_, v, (hheld (by omega) (by omega)).trans v1, b2 v v2⟩, hph.1, Fm hF hgm, (Af hF hi h22 a1).1⟩
   ·show dT _ _ _ = _
    unfold dT
    rw [if_neg (show ¬ opAt l i = 19 by omega), if_neg (show ¬ opAt l i = 20 by omega), if_pos h22, hsr, fh, if_pos hq, a1]
    rfl
   ·rw [hst, hgo]
    have hr2 := hF.right (show qk < l.length by omega)
    have hok2 := hR.stk.ok qk (by omega)
    rw [hst22] at hok2
    exact Ff (o := (l.getD qk (0, 0, 0)).1) (A := (l.getD qk (0, 0, 0)).2.1) (B := (l.getD qk (0, 0, 0)).2.2) hok2 hO.vt (.inr (.inl a3))
   ·rw [a6]; simp [e2]
   ·show fw _ _ = _
    unfold fw
    rw [if_neg (show ¬ opAt l i = 21 by omega), if_pos h22, hsr, fh, gp, if_pos hq]
    simp
   ·intro e he
    rw [ax, ao] at he
    rcases he with he | he
    ·exact hO.rnd e (aV _ he)
    ·subst he
     exact ⟨by show 1 ≤ qr - 1; omega, by have := hb.2; show qr - 1 ≤ cT l qk; simp only at this; omega⟩
  ·have hq1 : qr = 1 := by have := hb.1; simp only at this; omega
   have hnx := fC (l := l) (i := i) (by omega) h25
   refine ⟨i + 1, rs0, ⟨?_, hF.next hi _ hnx, ?_, ?_, ?_, fun e he => hO.rnd e (aV _ he), v, (hheld (by omega) (by omega)).trans v1, b3 v v2⟩, hph.2 hq1, by rw [hq1]; exact JL hF hgm, (Af hF hi h22 a1).2⟩
   ·show dT _ _ _ = _
    unfold dT
    rw [if_neg (show ¬ opAt l i = 19 by omega), if_neg (show ¬ opAt l i = 20 by omega), if_pos h22, hsr, fh, if_neg hq, hp]
    rfl
   ·rw [hR.stk.nx i hi _ hnx]
    exact hstk
   ·rw [a7]; exact e2
   ·show fw _ _ = _
    unfold fw
    rw [if_neg (show ¬ opAt l i = 21 by omega), if_pos h22, hsr, fh, gp, if_neg hq]
 by_cases h21 : opAt l i = 21
 ·have hnx := fC (l := l) (i := i) (by omega) h25
  obtain ⟨v, v1, v2⟩ := hO.held
  refine ⟨i + 1, rs ++ [(i, cT l i)], ⟨hon (by omega) (by omega) h22, hF.next hi _ hnx, ?_, ?_, ?_, ?_, v, (hheld (by omega) (by omega)).trans v1, v2.plain hF hi (by omega) h22 (by omega)⟩, Cw hF hi hO.lps, HH hF h21, uw hF hi h22 hnx⟩
  ·rw [hR.stk.nx i hi _ hnx]; exact hstk
  ·rw [rf hF hi h21]; simp [hO.lps]
  ·show fw _ _ = _
   unfold fw
   rw [if_pos h21, hO.rds, List.map_append]
   rfl
  ·intro e he
   rw [ax, ao] at he
   rcases he with he | he
   ·exact hO.rnd e he
   ·subst he
    exact ⟨(xG hr h21).1, aN _⟩
 by_cases h23 : opAt l i = 23
 ·have hnx := fC (l := l) (i := i) (by omega) h25
  obtain ⟨v, v1, v2⟩ := hO.held
  obtain ⟨a, ha, ha7⟩ := qY hr (.inl h23)
  refine ⟨i + 1, rs, ⟨hon (by omega) (by omega) h22, hF.next hi _ hnx, ?_, ?_, ?_, hO.rnd, v ||| 2 ^ a, ?_, v2.lockS hF hi h23 ha ha7⟩, p8 hF hi (by omega) hO.lps, yC hF h21 h22 hnx, uw hF hi h22 hnx⟩
  ·rw [hR.stk.nx i hi _ hnx]; exact hstk
  ·rw [kz hF hi h21 h22 (by omega)]; exact hO.lps
  ·rw [hrds h21 h22]; exact hO.rds
  ·show (if _ then _ else if _ then _ else _) = _
   rw [if_pos h23, v1]
   show bits .or .i64 (v : Int) (mO (cT l i)) = _
   rw [uv ha ha7]
   exact Ce v (2 ^ a) v2.1 (by have := Nat.pow_lt_pow_right (a := 2) (by omega) (show a < 8 by omega); omega)
 by_cases h24 : opAt l i = 24
 ·have hnx := fC (l := l) (i := i) (by omega) h25
  obtain ⟨v, v1, v2⟩ := hO.held
  have h0 := mI (o := (l.getD i (0, 0, 0)).1) (A := (l.getD i (0, 0, 0)).2.1) (B := (l.getD i (0, 0, 0)).2.2) (by rw [show (l.getD i (0, 0, 0)).1 = 24 from h24]; omega) hr
  obtain ⟨a, ha, ha7⟩ : ∃ a : Nat, cT l i = (a : Int) ∧ a ≤ 7 := ⟨(cT l i).toNat, by unfold cT; omega, by unfold cT; omega⟩
  obtain ⟨w, w1, w2, w3⟩ := Ad v a v2.1 ha7
  refine ⟨i + 1, rs, ⟨hon (by omega) (by omega) h22, hF.next hi _ hnx, ?_, ?_, ?_, hO.rnd, w, ?_, v2.unlock hF hR.rise hi h24 ha w2 w3⟩, p8 hF hi (by omega) hO.lps, yC hF h21 h22 hnx, uw hF hi h22 hnx⟩
  ·rw [hR.stk.nx i hi _ hnx]; exact hstk
  ·rw [xD hF hi h24]; exact hO.lps
  ·rw [hrds h21 h22]; exact hO.rds
  ·show (if _ then _ else if _ then _ else _) = _
   rw [if_neg h23, if_pos h24, v1]
   show bits .andNot .i64 (v : Int) (mO (cT l i)) = _
   rw [uv ha ha7]
   exact w1
 have key := fun {q : Nat} (hq : q ∈ dn l i) (e1 : (eb (l.getD i (0, 0, 0)) (m.getD i 0) s mem).at_ = (q : Int)) => HI hR hO h21 h22 h23 h24 hq e1 hstk (hrds h21 h22) (hheld h23 h24)
 by_cases h19 : opAt l i = 19
 ·have hj := n8 (o := (l.getD i (0, 0, 0)).1) (A := (l.getD i (0, 0, 0)).2.1) (B := (l.getD i (0, 0, 0)).2.2) (.inl h19) hr
  refine key (q := db l i) (by unfold dn; rw [if_pos h19]; exact ao.2 rfl) ?_
  show dT _ _ _ = _
  unfold dT db
  rw [if_pos h19, hp]
  omega
 by_cases h20 : opAt l i = 20
 ·have hj := n8 (o := (l.getD i (0, 0, 0)).1) (A := (l.getD i (0, 0, 0)).2.1) (B := (l.getD i (0, 0, 0)).2.2) (.inr h20) hr
  by_cases hz : pv s.stk = 0
  ·refine key (q := db l i) (by unfold dn; rw [if_neg h19, if_pos h20]; simp) ?_
   show dT _ _ _ = _
   unfold dT db
   rw [if_neg h19, if_pos h20, if_pos hz, hp]
   omega
  ·refine key (q := i + 1) (by unfold dn; rw [if_neg h19, if_pos h20]; simp) ?_
   show dT _ _ _ = _
   unfold dT
   rw [if_neg h19, if_pos h20, if_neg hz, hp]
   rfl
 ·exact key (q := i + 1) (fC h19 h25) (hon h19 h20 h22)
structure Within (l l' : List cP) (m m' : List Int) (p a z : Nat) : Prop where
 ins : ∀ i, a ≤ i → i < z → l'.getD (i + p) (0, 0, 0) = l.getD i (0, 0, 0)
 mat : ∀ i, a ≤ i → i < z → opAt l i = 21 → mN m' (i + p) = mN m i + p
theorem Fine.mat {l : List cP} {m h : List Int} (hF : Fine l m h) {i : Nat} (hi : i < l.length) (e : opAt l i = 21) : m.getD i 0 = ((mN m i : Nat) : Int) ∧ m.getD i 0 ≠ -1 := by
 obtain ⟨j, j1, j2, j3⟩ := hF.nest.open_ i hi (isOpen_iff.2 (.inl e))
 unfold mN
 rw [j1]
 exact ⟨rfl, by omega⟩
structure Both (a b c : List cP) (p : Nat) (ma mb mc : List Int) : Prop where
 len : c.length = p + b.length
 pa : a.length = p + 1
 ia : ∀ i, i < p → c.getD i (0, 0, 0) = a.getD i (0, 0, 0)
 ib : ∀ i, i < b.length → c.getD (i + p) (0, 0, 0) = b.getD i (0, 0, 0)
 mma : ∀ i, i < p → ma.getD i 0 ≠ -1 → mc.getD i 0 = ma.getD i 0
 mmb : ∀ i, i < b.length → mb.getD i 0 ≠ -1 → mc.getD (i + p) 0 = mb.getD i 0 + p
theorem qa {l : List cP} {m h : List Int} (hF : Fine l m h) {i : Nat} (hi : i < l.length) : opAt l i = 25 ↔ i + 1 = l.length := by
 constructor
 ·intro h25
  have h1 := hF.ends i hi
  unfold pe at h1
  rw [show ((l.getD i (0, 0, 0)).1 == 25) = true from ag.2 h25] at h1
  cases h4 : ((i : Int) == ((l.length - 1 : Nat) : Int))
  ·rw [h4] at h1; cases h1
  ·have := eq_of_beq h4; omega
 ·intro h
  have := hF.last
  rw [show l.length - 1 = i by omega] at this
  exact this
theorem Both.opb {a b c : List cP} {p : Nat} {ma mb mc : List Int} (hB : Both a b c p ma mb mc) {i : Nat} (hi : i < b.length) : opAt c (i + p) = opAt b i ∧ cT c (i + p) = cT b i ∧ db c (i + p) = db b i + p ∧ da c (i + p) = da b i := by
 have e := hB.ib i hi
 unfold opAt cT db da
 rw [e]
 exact ⟨rfl, rfl, by omega, rfl⟩
abbrev xO : dS := [[0, 0, 0, 0, 0, 0, 0, 0], [0, 0, 0, 0, 0, 0, 0, 0], [0, 0, 0, 0, 0, 0, 0, 0], [0, 0, 0, 0, 0, 0, 0, 0], [0, 0, 0, 0, 0, 0, 0, 0], [0, 0, 0, 0, 0, 0, 0, 0], [0, 0, 0, 0, 0, 0, 0, 0], [0, 0, 0, 0, 0, 0, 0, 0]]
def jd (l : List cP) (m : List Int) (c : CS) : CS := ⟨(eJ l m ⟨c.on, c.s, xO⟩).on, (eJ l m ⟨c.on, c.s, xO⟩).s, xO⟩
theorem Nv {l : List cP} {m h : List Int} {st : List ByteArray} (hR : Row l m h st) {c : CS} (hc : xK l m st c) (n : Nat) : (∃ ev e mem, xI n l m c.on c.s xO = some (ev, e, Fj l m (jd l m c).on (jd l m c).s mem)) ∧ xK l m st (jd l m c) := by
 obtain ⟨⟨ev, e, a1⟩, a2⟩ := Oe hR (c := ⟨c.on, c.s, xO⟩) hc n
 exact ⟨⟨ev, e, _, a1⟩, a2⟩
def CE (l : List cP) (m : List Int) : Nat → CS → CS
 | 0, c => c
 | k + 1, c => jd l m (CE l m k c)
theorem tW {l : List cP} {m : List Int} {c : CS} (h : c.on = false) : (jd l m c).on = false ∧ (jd l m c).s = c.s := by
 unfold jd eJ
 rw [if_neg (show ¬ c.on = true by rw [h]; decide)]
 exact ⟨h, rfl⟩
theorem Ag {l : List cP} {m h : List Int} {st : List ByteArray} (hR : Row l m h st) {c : CS} (hc : xK l m st c) : ∀ k, xK l m st (CE l m k c)
 | 0 => hc
 | k + 1 => (Nv hR (Ag hR hc k) 0).2
theorem wx {l : List cP} {m : List Int} {c : CS} {i : Nat} (h : c.on = true) (hp : c.s.at_ = (i : Int)) : (jd l m c).on = decide (opAt l i ≠ 25) ∧ (jd l m c).s = eb (l.getD i (0, 0, 0)) (m.getD i 0) c.s xO := by
 unfold jd eJ
 rw [if_pos (show c.on = true from h)]
 dsimp only
 rw [show c.s.at_.toNat = i by rw [hp]; exact ai i]
 exact ⟨rfl, rfl⟩
theorem JM (a b : Nat) (ha : a < 65536) (hb : b < 65536) : bits .or .i64 (a : Int) (b : Int) = ((a ||| b : Nat) : Int) := by
 have hx : a ||| b < 2 ^ 16 := Nat.or_lt_two_pow (by omega) (by omega)
 show IntKind.i64.wrap ((BitVec.ofInt 64 (a : Int) ||| BitVec.ofInt 64 (b : Int)).toNat : Int) = _
 rw [BitVec.toNat_or, ofInt_u64 a (by omega), ofInt_u64 b (by omega), dC (by omega) (by omega)]
theorem KF {A : Int} {a : Nat} (h : A = (a : Int)) (ha : a ≤ 15) : mO A = ((2 ^ a : Nat) : Int) ∧ 2 ^ a < 65536 := by
 subst h
 have h1 : min ((a : Int)).toNat 64 = a := by rw [ai]; omega
 have h2 : 2 ^ a ≤ 2 ^ 15 := Nat.pow_le_pow_right (by omega) ha
 have h3 : ((2 ^ a : Nat) : Int) = (2 : Int) ^ a := by rw [Int.natCast_pow]; rfl
 refine ⟨?_, by omega⟩
 unfold mO
 rw [h1, Int.one_mul, ← h3]
 generalize 2 ^ a = w at h2 ⊢
 rw [dC (by omega) (by omega)]
structure RunI (inp : List Int) (t : Nat) (s : MS) : Prop where
 inp : s.inp = inp
 stp : 0 ≤ s.stp ∧ s.stp ≤ (t : Int)
 set : ∃ x : Nat, s.set = (x : Int) ∧ x < 65536
theorem CF {x : cP} {mt : Int} {s : MS} {mem : dS} (hr : cZ x = true) {v : Nat} (hv : s.set = (v : Int)) (hv2 : v < 65536) : ∃ b : Nat, b < 65536 ∧ (∀ s' : MS, ∀ w : Nat, s'.set = (w : Int) → w < 65536 → ∀ mt' mem', (eb x mt' s' mem').set = ((w ||| b : Nat) : Int)) := by
 by_cases h16 : x.1 = 16
 ·have ha := yy (o := x.1) (A := x.2.1) (B := x.2.2) (.inr h16) hr
  obtain ⟨b1, b2⟩ := KF (A := x.2.1) (a := x.2.1.toNat) (by omega) (by omega)
  refine ⟨2 ^ x.2.1.toNat, b2, fun s' w hw hw2 mt' mem' => ?_⟩
  show (if x.1 = 16 then bits .or .i64 s'.set (mO x.2.1) else s'.set) = _
  rw [if_pos h16, hw, b1, JM w _ hw2 b2]
 ·refine ⟨0, by omega, fun s' w hw hw2 mt' mem' => ?_⟩
  show (if x.1 = 16 then bits .or .i64 s'.set (mO x.2.1) else s'.set) = _
  rw [if_neg h16, hw, Nat.or_zero]
theorem RunI.step {l : List cP} {m h : List Int} {st : List ByteArray} (hR : Row l m h st) {inp : List Int} {t : Nat} {c : CS} (hc : xK l m st c) (hI : RunI inp t c.s) (ht : t < 1000000) : RunI inp (t + 1) (jd l m c).s := by
 cases hon : c.on with
 | false =>
  rw [(tW (l := l) (m := m) hon).2]
  exact ⟨hI.inp, ⟨hI.stp.1, by have := hI.stp.2; omega⟩, hI.set⟩
 | true =>
  obtain ⟨i, rs, hO⟩ := hc hon
  rw [(wx (l := l) (m := m) hon hO.place).2]
  have hs := hI.stp
  obtain ⟨x, x1, x2⟩ := hI.set
  obtain ⟨b, b1, b2⟩ := CF (mt := 0) (mem := xO) (hR.fine.right hO.lt) x1 x2
  refine ⟨hI.inp, ?_, x ||| b, b2 c.s x x1 x2 _ _, Nat.or_lt_two_pow (n := 16) x2 b1⟩
  show 0 ≤ wrap .i64 (c.s.stp + 1) ∧ wrap .i64 (c.s.stp + 1) ≤ _
  rw [dC (by omega) (by omega)]
  omega
theorem RunI.run {l : List cP} {m h : List Int} {st : List ByteArray} (hR : Row l m h st) {inp : List Int} {c : CS} (hc : xK l m st c) (hI : RunI inp 0 c.s) : ∀ t, t < 1000000 → RunI inp t (CE l m t c).s
 | 0, _ => hI
 | t + 1, ht => (RunI.run hR hc hI t (by omega)).step hR (Ag hR hc t) (by omega)
structure RelB (p : Nat) (S : MS) (T U : CS) : Prop where
 on : U.on = T.on
 at_ : U.s.at_ = T.s.at_ + p
 stk : U.s.stk = T.s.stk
 rds : U.s.rds = T.s.rds
 held : U.s.held = T.s.held
 inp : U.s.inp = T.s.inp
 stp : U.s.stp = S.stp + T.s.stp
 set : ∃ x y : Nat, S.set = (x : Int) ∧ T.s.set = (y : Int) ∧ U.s.set = ((x ||| y : Nat) : Int) ∧ x < 65536 ∧ y < 65536
theorem RelB.step {a b c : List cP} {p : Nat} {ma mb mc hb : List Int} {sb : List ByteArray} (hB : Both a b c p ma mb mc) (hR : Row b mb hb sb) (h11 : ∀ k, k < b.length → opAt b k ≠ 11 ∧ opAt b k ≠ 13) {S : MS} {T U : CS} (hT : xK b mb sb T) (h : RelB p S T U) (hs : 0 ≤ S.stp ∧ S.stp ≤ 1000000) (ht : 0 ≤ T.s.stp ∧ T.s.stp ≤ 1000000) : RelB p S (jd b mb T) (jd c mc U) := by
 cases hon : T.on with
 | false =>
  have e1 := tW (l := b) (m := mb) hon
  have e2 := tW (l := c) (m := mc) (h.on.trans hon)
  refine ⟨e2.1.trans e1.1.symm, ?_, ?_, ?_, ?_, ?_, ?_, ?_⟩ <;> rw [e1.2, e2.2]
  ·exact h.at_
  ·exact h.stk
  ·exact h.rds
  ·exact h.held
  ·exact h.inp
  ·exact h.stp
  ·exact h.set
 | true =>
  obtain ⟨i, rs, hO⟩ := hT hon
  have hi := hO.lt
  have hp := hO.place
  have hpU : U.s.at_ = ((i + p : Nat) : Int) := by rw [h.at_, hp]; omega
  have e1 := wx (l := b) (m := mb) hon hp
  have e2 := wx (l := c) (m := mc) (h.on.trans hon) hpU
  have hr := hR.fine.right hi
  have hm : opAt b i = 22 → mc.getD (i + p) 0 = mb.getD i 0 + p := fun h22 => by
   obtain ⟨k, k1, _⟩ := hR.fine.closed.cl i hi (.inl h22)
   exact hB.mmb i hi (by rw [k1]; omega)
  rw [hB.ib i hi] at e2
  obtain ⟨x, y, s1, s2, s3, s4, s5⟩ := h.set
  obtain ⟨w, w1, w2⟩ := CF (mt := 0) (mem := xO) hr s2 s5
  obtain ⟨n11, n13⟩ := h11 i hi
  unfold opAt at hm n11 n13
  have eop := (hB.opb hi).1
  unfold opAt at eop
  refine ⟨?_, ?_, ?_, ?_, ?_, ?_, ?_, x, y ||| w, s1, ?_, ?_, s4, Nat.or_lt_two_pow (n := 16) s5 w1⟩
  ·rw [e1.1, e2.1]
   unfold opAt
   rw [eop]
  all_goals try rw [e1.2]
  all_goals try rw [e2.2]
  ·show dT _ _ _ = dT _ _ _ + _
   unfold dT
   rw [h.at_, h.stk, h.rds]
   split
   ·omega
   ·split
    ·split <;> omega
    ·split
     ·rename_i h22
      rw [hm h22]
      split <;> omega
     ·omega
  ·show fv _ _ _ = fv _ _ _
   unfold fv
   rw [h.stk, h.inp, if_neg n11, if_neg n13, if_neg n11, if_neg n13]
  ·show fw _ _ = fw _ _
   unfold fw
   rw [h.rds]
  ·show (if _ then _ else if _ then _ else _) = (if _ then _ else if _ then _ else _)
   rw [h.held]
  ·exact h.inp
  ·show wrap .i64 (U.s.stp + 1) = S.stp + wrap .i64 (T.s.stp + 1)
   have := h.stp
   rw [dC (by omega) (by omega), dC (by omega) (by omega)]
   omega
  ·exact w2 _ _ s2 s5 _ _
  ·rw [w2 _ _ s3 (Nat.or_lt_two_pow (n := 16) s4 s5) _ _, Nat.or_assoc]
theorem Ef {l : List cP} {m h : List Int} (hF : Fine l m h) {i : Nat} (hi : i < l.length) (h25 : opAt l i = 25) : lps l m i = [] := by
 cases hl : lps l m i with
 | nil => rfl
 | cons k r =>
  exfalso
  have hk : k ∈ lps l m i := by rw [hl]; exact aD ..
  obtain ⟨k1, k2⟩ := p6 hk
  have ho := (dW k1).2
  obtain ⟨j, j1, j2, j3, j4, j5, j6⟩ := oh hF (fk ho) ho
  have h1 := (ey ho j1).1 k1
  have h2 := (qa hF hi).1 h25
  have hji : j = i := by omega
  subst hji
  have := nG (l.getD k (0, 0, 0))
  rw [← j6] at this
  unfold opAt at h25
  rw [h25] at this
  rcases this with h | h <;> cases h
theorem HJ {rs : List (Nat × Int)} (h : rs.map (·.1) = []) : rs = [] := List.map_eq_nil_iff.1 h
theorem Eg {l : List cP} {m h : List Int} {st : List ByteArray} (hR : Row l m h st) {f : Nat} (hf : l.length < f) (hw : dL bM l m f 0 (l.length - 1) < 1048577) : ∀ (N : Nat) {s : MS} {i : Nat} {rs : List (Nat × Int)} {k : Int}, m8 l m i rs ≤ (N : Int) → Ok l m st s i rs → InvP bM rJ HC l m f 0 (l.length - 1) i rs k → k ≤ dL bM l m f 0 (l.length - 1)
 | N, s, i, rs, k, hN, hO, hI => by
  have hF := hR.fine
  have hA := hF.all
  by_cases h25 : opAt l i = 25
  ·have e := hO.lps
   rw [Ef hF hO.lt h25] at e
   have := HJ e
   subst this
   have hi : i = l.length - 1 := by have := (qa hF hO.lt).1 h25; omega
   subst hi
   obtain ⟨h1, h2, h3, h4⟩ := hI
   rw [xM hF hf hA] at h4
   unfold rJ ee at h4
   split at h4 <;> omega
  ·obtain ⟨q, rs', hq, hp, hg, _⟩ := (yD hR hO xO h25).ex
   have hz : i ≠ l.length - 1 := fun e => h25 ((qa hF hO.lt).2 (by have := hO.lt; omega))
   have hI2 := hg bM rJ HC f 0 (l.length - 1) k yA hf hA hI hz
   have hnn := Nq hF (i := q) (rs := rs') (fun e he => (hq.rnd e he).1)
   cases N with
   | zero => omega
   | succ N =>
    have := Eg hR hf hw N (by omega) hq hI2
    omega
theorem rj {t : TM} {l : List cP} {m : List Int} {st : List ByteArray} {x : IS} (hx : IOk t l m st x) (h5 : x.ph ≠ 5) (inp : List Int) :
  (x.ph = 0 ∧ jH l x = (0, 0) ∧ ((1 < x.left ∧ (dc t l m inp x).ph = 0 ∧ (dc t l m inp x).left = x.left - 1) ∨ (x.left = 1 ∧ (dc t l m inp x).ph = 1 ∧ (dc t l m inp x).left = t.la))) ∨
  (x.ph = 1 ∧ ((1 < x.left ∧ jH l x = (0, 0) ∧ (dc t l m inp x).ph = 1 ∧ (dc t l m inp x).left = x.left - 1) ∨ (x.left = 1 ∧ jH l x = (1, 0) ∧ (dc t l m inp x).ph = 2 ∧ (dc t l m inp x).left = 1))) ∨
  (x.ph = 2 ∧ ((jH l x).1 = 0 ∨ (jH l x).1 = 2 ∨ (jH l x).1 = 3) ∧ (((iY l x).1 = 25 ∧ (dc t l m inp x).ph = 3 ∧ (dc t l m inp x).left = t.co) ∨ ((iY l x).1 ≠ 25 ∧ (dc t l m inp x).ph = 2 ∧ (dc t l m inp x).left = 1))) ∨
  (x.ph = 3 ∧ ((1 < x.left ∧ jH l x = (0, 0) ∧ (dc t l m inp x).ph = 3 ∧ (dc t l m inp x).left = x.left - 1) ∨ (x.left = 1 ∧ jH l x = (4, 0) ∧ ((t.sw = 0 ∧ (dc t l m inp x).ph = 5 ∧ (dc t l m inp x).left = 1) ∨ (t.sw ≠ 0 ∧ (dc t l m inp x).ph = 4 ∧ (dc t l m inp x).left = t.sw))))) ∨
  (x.ph = 4 ∧ jH l x = (0, 0) ∧ ((1 < x.left ∧ (dc t l m inp x).ph = 4 ∧ (dc t l m inp x).left = x.left - 1) ∨ (x.left = 1 ∧ (dc t l m inp x).ph = 5 ∧ (dc t l m inp x).left = 1))) := by
 obtain ⟨x1, x2, x3, x4, x5, x6, x7⟩ := hx
 obtain ⟨ph, left, used, inn, c⟩ := x
 simp only at x1 x2 x3 x4 x5 x6 x7 h5
 have hc : ph = 0 ∨ ph = 1 ∨ ph = 2 ∨ ph = 3 ∨ ph = 4 := by omega
 have eP : (dc t l m inp ⟨ph, left, used, inn, c⟩).ph = (dB t ph (iI l ⟨ph, left, used, inn, c⟩)).1 := rfl
 have eQ : (dc t l m inp ⟨ph, left, used, inn, c⟩).left = (dB t ph (iI l ⟨ph, left, used, inn, c⟩)).2 := rfl
 by_cases h2 : ph = 2
 ·subst h2
  have h1 := x5 rfl
  subst h1
  right; right; left
  refine ⟨rfl, ?_, ?_⟩
  ·unfold jH
   rw [if_pos rfl]
   split
   ·exact .inr (.inl rfl)
   ·split
    ·exact .inr (.inr rfl)
    ·exact .inl rfl
  ·rw [eP, eQ]
   unfold iI
   rw [if_pos rfl]
   by_cases h25 : (iY l ⟨2, 1, used, inn, c⟩).1 = 25
   ·rw [if_pos h25]
    exact .inl ⟨h25, rfl, rfl⟩
   ·rw [if_neg h25]
    exact .inr ⟨h25, rfl, rfl⟩
 ·have eL : iI l ⟨ph, left, used, inn, c⟩ = left - 1 := if_neg h2
  rw [eP, eQ, eL]
  by_cases hg : 1 < left
  ·have hs : dB t ph (left - 1) = (ph, left - 1) := if_pos (by omega)
   have hE : jH l ⟨ph, left, used, inn, c⟩ = (0, 0) := by
    unfold jH
    rw [if_neg h2, if_pos hg]
   rw [hs, hE]
   rcases hc with rfl | rfl | rfl | rfl | rfl
   ·exact .inl ⟨rfl, rfl, .inl ⟨hg, rfl, rfl⟩⟩
   ·exact .inr (.inl ⟨rfl, .inl ⟨hg, rfl, rfl, rfl⟩⟩)
   ·exact absurd rfl h2
   ·exact .inr (.inr (.inr (.inl ⟨rfl, .inl ⟨hg, rfl, rfl, rfl⟩⟩)))
   ·exact .inr (.inr (.inr (.inr ⟨rfl, rfl, .inl ⟨hg, rfl, rfl⟩⟩)))
  ·have hl1 : left = 1 := by omega
   subst hl1
   rcases hc with rfl | rfl | rfl | rfl | rfl
   ·exact .inl ⟨rfl, rfl, .inr ⟨rfl, rfl, rfl⟩⟩
   ·exact .inr (.inl ⟨rfl, .inr ⟨rfl, rfl, rfl, rfl⟩⟩)
   ·exact absurd rfl h2
   ·refine .inr (.inr (.inr (.inl ⟨rfl, .inr ⟨rfl, rfl, ?_⟩⟩)))
    by_cases hs : t.sw = 0
    ·have e : dB t 3 (1 - 1) = (5, 1) := by
      unfold dB
      rw [if_neg (by decide), if_neg (by decide), if_neg (by decide), if_neg (by decide), if_pos rfl, if_pos hs]
     rw [e]
     exact .inl ⟨hs, rfl, rfl⟩
    ·have e : dB t 3 (1 - 1) = (4, t.sw) := by
      unfold dB
      rw [if_neg (by decide), if_neg (by decide), if_neg (by decide), if_neg (by decide), if_pos rfl, if_neg hs]
     rw [e]
     exact .inr ⟨hs, rfl, rfl⟩
   ·exact .inr (.inr (.inr (.inr ⟨rfl, rfl, .inr ⟨rfl, rfl, rfl⟩⟩)))
structure UOk (t : TM) (l : List cP) (m : List Int) (st : List ByteArray) (f : Nat) (w : Int) (inp : List Int) (x : IS) : Prop where
 ok : IOk t l m st x
 wh : WOk t x
 u2 : x.ph = 2 → x.used = t.sw + t.la + x.c.s.stp
 run : x.ph = 2 → ∃ i rs, Ok l m st x.c.s i rs ∧ InvP bM rJ HC l m f 0 (l.length - 1) i rs x.c.s.stp
 stp : 2 ≤ x.ph → 0 ≤ x.c.s.stp ∧ x.c.s.stp ≤ w
 u3 : x.ph = 3 → x.used + x.left = t.sw + t.la + t.co + x.c.s.stp
 u4 : x.ph = 4 → x.used + x.left = t.sw + t.la + t.co + t.sw + x.c.s.stp
 u5 : x.ph = 5 → x.used = t.sw + t.la + t.co + t.sw + x.c.s.stp
 inn : 2 ≤ x.ph → x.inn = inp
theorem HK {t : TM} (ht : TOk t) (l : List cP) (m : List Int) (st : List ByteArray) (f : Nat) (w : Int) (inp : List Int) (s : MS) (mem : dS) : UOk t l m st f w inp (gM t s mem) := by
 have h : (gM t s mem).ph = 0 ∨ (gM t s mem).ph = 1 := by
  show (dB t 0 t.sw).1 = 0 ∨ (dB t 0 t.sw).1 = 1
  unfold dB
  split
  ·exact .inl rfl
  ·rw [if_pos rfl]
   exact .inr rfl
 exact ⟨JI ht l m st s mem, Fl s mem, fun h => by omega, fun h => by omega, fun h => by omega, fun h => by omega, fun h => by omega, fun h => by omega, fun h => by omega⟩
theorem yE {t : TM} {l : List cP} {m h : List Int} {st : List ByteArray} (hR : Row l m h st) {f : Nat} (hf : l.length < f) {w : Int} (hw : w = dL bM l m f 0 (l.length - 1) + 1) (hw2 : w ≤ 20000) {inp : List Int} {x : IS} (hx : UOk t l m st f w inp x) (h2 : x.ph = 2) : x.c.s.stp + 1 ≤ w := by
 obtain ⟨i, rs, hO, hI⟩ := hx.run h2
 obtain ⟨N, hN⟩ : ∃ N : Nat, m8 l m i rs ≤ (N : Int) := ⟨(m8 l m i rs).toNat, by omega⟩
 have := Eg hR hf (by omega) N hN hO hI
 omega
theorem JN {t : TM} (ht : TOk t) {l : List cP} {m h : List Int} {st : List ByteArray} (hR : Row l m h st) {f : Nat} (hf : l.length < f) {w : Int} (hw : w = dL bM l m f 0 (l.length - 1) + 1) (hw0 : 0 ≤ w) (hw2 : w ≤ 20000) {inp : List Int} {x : IS} (hx : UOk t l m st f w inp x) (h5 : x.ph ≠ 5) : UOk t l m st f w inp (dc t l m inp x) := by
 have hlim := yE hR hf hw hw2 hx
 obtain ⟨y1, y2, y3, y4, y5, y6, y7, y8, y9⟩ := hx
 have z1 := JH hR ht y1 h5 inp
 have z2 := HB (l := l) (m := m) inp y1.ph.1 y1.left.1 y2
 have hU : (dc t l m inp x).used = x.used + 1 := rfl
 have hcase := rj y1 h5 inp (m := m)
 have hcl := ht.c0
 by_cases h2 : x.ph = 2
 ·have hc : (dc t l m inp x).c = eJ l m x.c := if_pos h2
  have hi : (dc t l m inp x).inn = x.inn := by
   show (if eK x = true then inp else x.inn) = _
   rw [if_neg]
   unfold eK
   rw [h2]
   simp
  obtain ⟨i, rs, hO, hI⟩ := y4 h2
  have hon : x.c.on = true := by rw [y1.on, h2]; rfl
  have hp : x.c.s.at_ = (i : Int) := hO.place
  have hat : x.c.s.at_.toNat = i := by rw [hp]; exact ai i
  have e1 : (eJ l m x.c).s = eb (l.getD i (0, 0, 0)) (m.getD i 0) x.c.s x.c.mem := by
   unfold eJ
   rw [if_pos hon, hat]
  have hs := y5 (by omega)
  have hl' := hlim h2
  have hstp : (dc t l m inp x).c.s.stp = x.c.s.stp + 1 := by
   rw [hc, e1]
   show wrap .i64 (x.c.s.stp + 1) = _
   exact dC (by omega) (by omega)
  have h3 : (x.ph = 2 ∧ ((jH l x).1 = 0 ∨ (jH l x).1 = 2 ∨ (jH l x).1 = 3) ∧ (((iY l x).1 = 25 ∧ (dc t l m inp x).ph = 3 ∧ (dc t l m inp x).left = t.co) ∨ ((iY l x).1 ≠ 25 ∧ (dc t l m inp x).ph = 2 ∧ (dc t l m inp x).left = 1))) := by
   rcases hcase with h | h | h | h | h
   ·exact absurd h.1 (by omega)
   ·exact absurd h.1 (by omega)
   ·exact h
   ·exact absurd h.1 (by omega)
   ·exact absurd h.1 (by omega)
  have hy3 := y3 h2
  have hy9 := y9 (by omega)
  obtain ⟨_, _, h3⟩ := h3
  refine ⟨z1, z2, ?_, ?_, ?_, ?_, ?_, ?_, ?_⟩
  ·intro _; rw [hU, hstp]; omega
  ·intro hq
   rcases h3 with ⟨h25, h3, _⟩ | ⟨h25, _, _⟩
   ·omega
   ·have h25' : opAt l i ≠ 25 := by
     unfold iY at h25
     rw [hat] at h25
     exact h25
    obtain ⟨q, rs', hq, hp, hg, he⟩ := (yD hR hO x.c.mem h25').ex
    have hz : i ≠ l.length - 1 := fun e => h25' ((qa hR.fine hO.lt).2 (by have := hO.lt; omega))
    have := hg bM rJ HC f 0 (l.length - 1) _ yA hf hR.fine.all hI hz
    rw [hstp, hc, e1]
    exact ⟨q, rs', hq, this⟩
  ·intro _; rw [hstp]; omega
  ·intro hq
   rcases h3 with ⟨_, _, h3⟩ | ⟨_, h3, _⟩
   ·rw [hU, hstp, h3]; omega
   ·omega
  ·intro hq; rcases h3 with ⟨_, h3, _⟩ | ⟨_, h3, _⟩ <;> omega
  ·intro hq; rcases h3 with ⟨_, h3, _⟩ | ⟨_, h3, _⟩ <;> omega
  ·intro _; rw [hi]; exact hy9
 ·by_cases hla : eK x = true
  ·have hc : (dc t l m inp x).c = ⟨true, lj x.c.s.ret inp, x.c.mem⟩ := by
    show (if x.ph = 2 then eJ l m x.c else if eK x = true then ⟨true, lj x.c.s.ret inp, x.c.mem⟩ else x.c) = _
    rw [if_neg h2, if_pos hla]
   have hi : (dc t l m inp x).inn = inp := if_pos hla
   have hu := JJ y2 hla
   have h1 : x.ph = 1 ∧ x.left = 1 := by
    unfold eK at hla
    rw [ak, am, am] at hla
    exact hla
   have h3 : (dc t l m inp x).ph = 2 := by
    rcases hcase with h | h | h | h | h
    ·exact absurd h.1 (by omega)
    ·rcases h.2 with h | h
     ·omega
     ·exact h.2.2.1
    ·exact absurd h.1 (by omega)
    ·exact absurd h.1 (by omega)
    ·exact absurd h.1 (by omega)
   have hstp : (dc t l m inp x).c.s.stp = 0 := by rw [hc]
   refine ⟨z1, z2, ?_, ?_, ?_, fun h => by omega, fun h => by omega, fun h => by omega, fun _ => hi⟩
   ·intro _; rw [hU, hstp]; omega
   ·intro _; rw [hstp, hc]; exact ⟨0, [], wu hR _ _, InvP.start yA hR.fine.all⟩
   ·intro _; rw [hstp]; omega
  ·have hla' : eK x = false := by cases h : eK x; rfl; exact absurd h hla
   have hc : (dc t l m inp x).c = x.c := by
    show (if x.ph = 2 then eJ l m x.c else if eK x = true then ⟨true, lj x.c.s.ret inp, x.c.mem⟩ else x.c) = _
    rw [if_neg h2, if_neg hla]
   have hi : (dc t l m inp x).inn = x.inn := if_neg hla
   have hnl : ¬ (x.ph = 1 ∧ x.left = 1) := fun h => hla (by unfold eK; rw [h.1, h.2]; rfl)
   refine ⟨z1, z2, ?_, ?_, ?_, ?_, ?_, ?_, ?_⟩
   ·intro hq; rcases hcase with h | h | h | h | h <;> omega
   ·intro hq; rcases hcase with h | h | h | h | h <;> omega
   ·intro hq; rw [hc]; exact y5 (by rcases hcase with h | h | h | h | h <;> omega)
   ·intro hq; rw [hU, hc]; have := y6 (by rcases hcase with h | h | h | h | h <;> omega); rcases hcase with h | h | h | h | h <;> omega
   ·intro hq; rw [hU, hc]; rcases hcase with h | h | h | h | h <;> omega
   ·intro hq; rw [hU, hc]; rcases hcase with h | h | h | h | h <;> omega
   ·intro hq; rw [hi]; exact y9 (by rcases hcase with h | h | h | h | h <;> omega)
theorem Nw {t : TM} (ht : TOk t) {l : List cP} {m h : List Int} {st : List ByteArray} (hR : Row l m h st) {f : Nat} (hf : l.length < f) {w : Int} (hw : w = dL bM l m f 0 (l.length - 1) + 1) (hw0 : 0 ≤ w) (hw2 : w ≤ 20000) {inp : List Int} {x : IS} (hx : UOk t l m st f w inp x) (h5 : x.ph ≠ 5) : x.used < w + 400 := by
 have hlim := yE hR hf hw hw2 hx
 obtain ⟨s0, s1, l0, l1, c0, c1⟩ := ht
 have hp := hx.ok.ph
 have hl := hx.ok.left
 have a0 := hx.wh.w0
 have a1 := hx.wh.w1
 have a2 := hx.u2
 have a3 := hx.u3
 have a4 := hx.u4
 have a5 := hx.stp
 have hc : x.ph = 0 ∨ x.ph = 1 ∨ x.ph = 2 ∨ x.ph = 3 ∨ x.ph = 4 := by omega
 rcases hc with e | e | e | e | e
 ·have := a0 e; omega
 ·have := a1 e; omega
 ·have := a2 e; have := hlim e; omega
 ·have := a3 e; have := a5 (by omega); omega
 ·have := a4 e; have := a5 (by omega); omega
structure VOk (t : TM) (l : List cP) (m : List Int) (st : List ByteArray) (f : Nat) (w : Int) (inp : List Int) (x : IS) : Prop where
 u : UOk t l m st f w inp x
 lo : x.ph = 2 → ∃ i rs, Ok l m st x.c.s i rs ∧ InvP bL xL Ec l m f 0 (l.length - 1) i rs x.c.s.stp
 fin : 3 ≤ x.ph → w ≤ x.c.s.stp ∧ x.c.s.stk.length ≤ 16 ∧ x.c.s.rds.length ≤ 200
theorem HL {t : TM} (ht : TOk t) (l : List cP) (m : List Int) (st : List ByteArray) (f : Nat) (w : Int) (inp : List Int) (s : MS) (mem : dS) : VOk t l m st f w inp (gM t s mem) := by
 have h : (gM t s mem).ph = 0 ∨ (gM t s mem).ph = 1 := by
  show (dB t 0 t.sw).1 = 0 ∨ (dB t 0 t.sw).1 = 1
  unfold dB
  split
  ·exact .inl rfl
  ·rw [if_pos rfl]
   exact .inr rfl
 exact ⟨HK ht l m st f w inp s mem, fun h => by omega, fun h => by omega⟩
abbrev je (x : IS) (mem : dS) : IS := ⟨x.ph, x.left, x.used, x.inn, ⟨x.c.on, x.c.s, mem⟩⟩
theorem KG {t : TM} {l : List cP} {m : List Int} {st : List ByteArray} {f : Nat} {w : Int} {inp : List Int} {x : IS} (h : VOk t l m st f w inp x) (mem : dS) : VOk t l m st f w inp (je x mem) := by
 obtain ⟨⟨⟨a1, a2, a3, a4, a5, a6, a7⟩, ⟨b1, b2⟩, c1, c2, c3, c4, c5, c6, c7⟩, d1, d2⟩ := h
 exact ⟨⟨⟨a1, a2, a3, a4, a5, a6, a7⟩, ⟨b1, b2⟩, c1, c2, c3, c4, c5, c6, c7⟩, d1, d2⟩
theorem JO {t : TM} (ht : TOk t) {l : List cP} {m h : List Int} {st : List ByteArray} (hR : Row l m h st) {f : Nat} (hf : l.length < f) {w : Int} (hw : w = dL bM l m f 0 (l.length - 1) + 1) (hb : w = dL bL l m f 0 (l.length - 1) + 1) (hw0 : 0 ≤ w) (hw2 : w ≤ 20000) {inp : List Int} {x : IS} (hx : VOk t l m st f w inp x) (h5 : x.ph ≠ 5) : VOk t l m st f w inp (dc t l m inp x) := by
 obtain ⟨hu, hlo, hfin⟩ := hx
 have hu' := JN ht hR hf hw hw0 hw2 hu h5
 have hcase := rj hu.ok h5 inp (m := m)
 have hF := hR.fine
 have hA := hF.all
 by_cases h2 : x.ph = 2
 ·have hc : (dc t l m inp x).c = eJ l m x.c := if_pos h2
  obtain ⟨i, rs, hO, hI⟩ := hlo h2
  have hi := hO.lt
  have hon : x.c.on = true := by rw [hu.ok.on, h2]; rfl
  have hp : x.c.s.at_ = (i : Int) := hO.place
  have hat : x.c.s.at_.toNat = i := by rw [hp]; exact ai i
  have e1 : (eJ l m x.c).s = eb (l.getD i (0, 0, 0)) (m.getD i 0) x.c.s x.c.mem := by
   unfold eJ
   rw [if_pos hon, hat]
  have hs := hu.stp (by omega)
  have hl' := yE hR hf hw hw2 hu h2
  have hstp : (dc t l m inp x).c.s.stp = x.c.s.stp + 1 := by
   rw [hc, e1]
   show wrap .i64 (x.c.s.stp + 1) = _
   exact dC (by omega) (by omega)
  have h3 : (((iY l x).1 = 25 ∧ (dc t l m inp x).ph = 3 ∧ (dc t l m inp x).left = t.co) ∨ ((iY l x).1 ≠ 25 ∧ (dc t l m inp x).ph = 2 ∧ (dc t l m inp x).left = 1)) := by
   rcases hcase with h | h | h | h | h
   ·exact absurd h.1 (by omega)
   ·exact absurd h.1 (by omega)
   ·exact h.2.2
   ·exact absurd h.1 (by omega)
   ·exact absurd h.1 (by omega)
  refine ⟨hu', ?_, ?_⟩
  ·intro hq
   rcases h3 with ⟨h25, h3, _⟩ | ⟨h25, _, _⟩
   ·omega
   ·have h25' : opAt l i ≠ 25 := by
     unfold iY at h25
     rw [hat] at h25
     exact h25
    obtain ⟨q, rs', hq, hp, hg, he⟩ := (yD hR hO x.c.mem h25').ex
    have hz : i ≠ l.length - 1 := fun e => h25' ((qa hF hi).2 (by omega))
    have := hg bL xL Ec f 0 (l.length - 1) _ Ed hf hA hI hz
    rw [hstp, hc, e1]
    exact ⟨q, rs', hq, this⟩
  ·intro hq
   rcases h3 with ⟨h25, h3, _⟩ | ⟨h25, h3, _⟩
   ·have h25' : opAt l i = 25 := by
     unfold iY at h25
     rw [hat] at h25
     exact h25
    have e := hO.lps
    rw [Ef hF hi h25'] at e
    have := HJ e
    subst this
    have hi2 : i = l.length - 1 := by have := (qa hF hi).1 h25'; omega
    obtain ⟨g1, g2, g3, g4⟩ := hI
    rw [hi2, xM hF hf hA] at g4
    have hlo' : dL bL l m f 0 (l.length - 1) ≤ x.c.s.stp := g4
    obtain ⟨l1, l2, l3⟩ := hO.len hR
    have hx25 : l.getD i (0, 0, 0) = (25, cT l i, (l.getD i (0, 0, 0)).2.2) := by rw [← h25']
    have k1 : ∀ A B, fv (25, A, B) x.c.s x.c.mem = x.c.s.stk := fun A B => by kernel_rfl
    have k2 : ∀ A B, fw (25, A, B) x.c.s = x.c.s.rds := fun A B => by kernel_rfl
    rw [hstp, hc, e1]
    refine ⟨by omega, ?_, ?_⟩
    ·show (fv (l.getD i (0, 0, 0)) x.c.s x.c.mem).length ≤ 16
     rw [hx25, k1]
     exact l1
    ·show (fw (l.getD i (0, 0, 0)) x.c.s).length ≤ 200
     rw [hx25, k2]
     exact l2
   ·omega
 ·by_cases hla : eK x = true
  ·have hc : (dc t l m inp x).c = ⟨true, lj x.c.s.ret inp, x.c.mem⟩ := by
    show (if x.ph = 2 then eJ l m x.c else if eK x = true then ⟨true, lj x.c.s.ret inp, x.c.mem⟩ else x.c) = _
    rw [if_neg h2, if_pos hla]
   have h1 : x.ph = 1 ∧ x.left = 1 := by
    unfold eK at hla
    rw [ak, am, am] at hla
    exact hla
   have h3 : (dc t l m inp x).ph = 2 := by
    rcases hcase with h | h | h | h | h
    ·exact absurd h.1 (by omega)
    ·rcases h.2 with h | h
     ·omega
     ·exact h.2.2.1
    ·exact absurd h.1 (by omega)
    ·exact absurd h.1 (by omega)
    ·exact absurd h.1 (by omega)
   refine ⟨hu', fun _ => ?_, fun h => by omega⟩
   have hstp : (dc t l m inp x).c.s.stp = 0 := by rw [hc]
   rw [hstp, hc]
   exact ⟨0, [], wu hR _ _, InvP.start Ed hA⟩
  ·have hc : (dc t l m inp x).c = x.c := by
    show (if x.ph = 2 then eJ l m x.c else if eK x = true then ⟨true, lj x.c.s.ret inp, x.c.mem⟩ else x.c) = _
    rw [if_neg h2, if_neg hla]
   have hnl : ¬ (x.ph = 1 ∧ x.left = 1) := fun h => hla (by unfold eK; rw [h.1, h.2]; rfl)
   refine ⟨hu', fun hq => ?_, fun hq => ?_⟩
   ·rcases hcase with h | h | h | h | h <;> omega
   ·rw [hc]; exact hfin (by rcases hcase with h | h | h | h | h <;> omega)
abbrev Ol (w used kk : Int) (first : Bool) (i : Int) (t : TM) (inp : List Int) (l : List cP) (m : List Int) (x : IS) (r : List Int) := (w, used, kk, first, i, t.sw, t.la, t.co, inp, l, m, x.c.s.ret, x.c.on, x.c.s.at_, x.c.s.stk, x.c.s.loc, x.c.s.inp, x.c.s.out, x.c.s.set, x.c.s.rds, x.c.s.held, x.c.s.flt, x.c.s.stp, (0 : Int), (1 : Int), (0 : Int), t.sw, t.la, t.co, x.ph, x.left, x.used, x.inn, r)
theorem JP (n : Nat) (hn : 20500 < n) {l : List cP} {m h : List Int} {st : List ByteArray} (hR : Row l m h st) {t : TM} (ht : TOk t) (inp : List Int) {f0 : Nat} (hf : l.length < f0) {w : Int} (hw : w = dL bM l m f0 0 (l.length - 1) + 1) (hb : w = dL bL l m f0 0 (l.length - 1) + 1) (hw0 : 0 ≤ w) (hw2 : w ≤ 20000) (used kk : Int) {x : IS} (hx : VOk t l m st f0 w inp x) (hu : x.used = 0) (hp : x.ph < 2) {rt : List Int} (hr : x.c.s.ret = rt) :
  ∃ r, qT n (Ol w used kk true 0 t inp l m x rt) = some r ∧ ∃ x' : IS, VOk t l m st f0 w inp x' ∧ x'.ph = 5 ∧ r = .inr ((w, used, kk, ()), ((t.sw, t.la, t.co, ()), (inp, ()), (l, m, x'.c.s.ret, x'.c.on, x'.c.s.at_, x'.c.s.stk, x'.c.s.loc, x'.c.s.inp, x'.c.s.out, x'.c.s.set, x'.c.s.rds, x'.c.s.held, x'.c.s.flt, x'.c.s.stp, ()), (0, 1, 0, t.sw, t.la, t.co, x'.ph, x'.left, x'.used, x'.inn, ()), (rt, ()), ())) := by
 show ∃ r, it _ n _ = some r ∧ _
 refine xJ (fun f y => ∃ (k : Nat) (x : IS), (k : Int) ≤ w + 400 ∧ w + 400 < f + k ∧ VOk t l m st f0 w inp x ∧ x.used = (k : Int) ∧ (x.ph < 2 → x.c.s.ret = rt) ∧ y = Ol w used kk (decide (x.ph < 2)) (k : Int) t inp l m x rt) _ (fun y ⟨k, x, h1, h2, _⟩ => by omega) ?_ n _ ⟨0, x, by omega, by omega, hx, hu, fun _ => hr, by rw [ah hp]; rfl⟩
 clear hx hu hp hr x
 rintro f y F hF ⟨k, x, h1, h2, hx, hu, hr, rfl⟩
 show ∃ r, xv n F w used kk (decide (x.ph < 2)) (k : Int) t.sw t.la t.co inp l m x.c.s.ret x.c.on x.c.s.at_ x.c.s.stk x.c.s.loc x.c.s.inp x.c.s.out x.c.s.set x.c.s.rds x.c.s.held x.c.s.flt x.c.s.stp 0 1 0 t.sw t.la t.co x.ph x.left x.used x.inn rt = some r ∧ _
 unfold xv
 rw [dC (show -9223372036854775808 ≤ w + 400 by omega) (by omega)]
 have hlt := Nw ht hR hf hw hw0 hw2 hx.u
 by_cases hk : (k : Int) < w + 400
 ·rw [if_pos (ah hk)]
  have eD : ∀ (v1 v2 v3 v4 v5 v6 v7 v8 v9 : Int) (v10 : List Int) (v11 : List cP) (v12 v13 : List Int) (v14 : Bool) (v15 : Int) (v16 v17 v18 v19 : List Int) (v20 : Int) (v21 : List Int) (v22 v23 v24 : Int), fi n v1 v2 v3 v4 v5 v6 v7 v8 v9 v10 v11 v12 v13 v14 v15 v16 v17 v18 v19 v20 v21 v22 v23 v24 = some ((v7 == 5), v1, v2, v3, v4, v5, v6, v7, v8, v9, v10, v11, v12, v13, v14, v15, v16, v17, v18, v19, v20, v21, v22, v23, v24) := fun _ _ _ _ _ _ _ _ _ _ _ _ _ _ _ _ _ _ _ _ _ _ _ _ => rfl
  have eT : ∀ (v1 : List cP) (v2 v3 : List Int) (v4 : Bool) (v5 : Int) (v6 v7 v8 v9 : List Int) (v10 : Int) (v11 : List Int) (v12 v13 v14 : Int), eC n v1 v2 v3 v4 v5 v6 v7 v8 v9 v10 v11 v12 v13 v14 = some (v3, v1, v2, v3, v4, v5, v6, v7, v8, v9, v10, v11, v12, v13, v14) := fun _ _ _ _ _ _ _ _ _ _ _ _ _ _ => rfl
  rw [eD, ae]
  dsimp only
  by_cases h5 : x.ph = 5
  ·rw [show (x.ph == 5) = true from ag.2 h5, if_neg (by decide)]
   exact ⟨_, rfl, x, hx, h5, rfl⟩
  ·rw [show (x.ph == 5) = false by simpa using h5, if_pos (by decide)]
   have hy := KG hx [z8, z8, z8, z8, z8, z8, z8, z8]
   have hT := hx.u.ok.used
   have hS := Cz hR ht hy.u.ok h5 (by show x.used < 1000000; omega) n (by omega) inp 0 1 0
   have hx' := JO ht hR hf hw hb hw0 hw2 hy h5
   have hcase := rj hy.u.ok h5 inp (m := m)
   have hu' : (dc t l m inp (je x [z8, z8, z8, z8, z8, z8, z8, z8])).used = ((k + 1 : Nat) : Int) := by
    show x.used + 1 = _
    omega
   have hret : (dc t l m inp (je x [z8, z8, z8, z8, z8, z8, z8, z8])).ph < 2 → (dc t l m inp (je x [z8, z8, z8, z8, z8, z8, z8, z8])).c.s.ret = rt := fun h => by
    have hp : x.ph < 2 := by
     have e : (je x [z8, z8, z8, z8, z8, z8, z8, z8]).ph = x.ph := rfl
     rcases hcase with g | g | g | g | g <;> omega
    have hla : eK (je x [z8, z8, z8, z8, z8, z8, z8, z8]) = false := by
     cases hb : eK (je x [z8, z8, z8, z8, z8, z8, z8, z8])
     ·rfl
     ·exfalso
      unfold eK at hb
      rw [ak, am, am] at hb
      rcases hcase with g | g | g | g | g <;> omega
    show (if x.ph = 2 then eJ l m _ else if eK _ = true then _ else _ : CS).s.ret = rt
    rw [if_neg (by omega), if_neg (by rw [hla]; decide)]
    exact hr hp
   have hk1 : decide (x.ph < 2) = true → ((jH l (je x [z8, z8, z8, z8, z8, z8, z8, z8])).1 != 1) = decide ((dc t l m inp (je x [z8, z8, z8, z8, z8, z8, z8, z8])).ph < 2) := fun h => by
    have h := bl h
    have e : (je x [z8, z8, z8, z8, z8, z8, z8, z8]).ph = x.ph := rfl
    rcases hcase with ⟨_, e1, g⟩ | ⟨_, ⟨_, e1, g, _⟩ | ⟨_, e1, g, _⟩⟩ | g | g | g
    ·rw [e1, ah (by rcases g with g | g <;> omega)]; rfl
    ·rw [e1, g]; rfl
    ·rw [e1, g]; rfl
    ·omega
    ·omega
    ·omega
   have hk2 : decide (x.ph < 2) = false → decide ((dc t l m inp (je x [z8, z8, z8, z8, z8, z8, z8, z8])).ph < 2) = false := fun h => by
    have h := of_decide_eq_false h
    have e : (je x [z8, z8, z8, z8, z8, z8, z8, z8]).ph = x.ph := rfl
    exact aK (by rcases hcase with g | g | g | g | g <;> omega)
   unfold Fk at hS
   dsimp only at hS
   rw [hS, ae]
   generalize dc t l m inp (je x [z8, z8, z8, z8, z8, z8, z8, z8]) = x' at hx' hu' hret hk1 hk2
   dsimp only
   rw [eT, ae, d4 (by omega)]
   dsimp only
   have hgo := hF _ ⟨k + 1, x', by omega, by omega, hx', hu', hret, rfl⟩
   cases hd : decide (x.ph < 2)
   ·rw [if_neg (by decide)]
    rw [hk2 hd] at hgo
    exact hgo
   ·rw [if_pos rfl, hk1 hd]
    cases hd2 : decide (x'.ph < 2)
    ·rw [if_neg (by decide)]
     rw [hd2] at hgo
     exact hgo
    ·rw [if_pos rfl, show Sh.eqT (.arr 8 (.int .i64)) x'.c.s.ret rt = true by rw [hret (bl hd2)]; exact Od _ _, if_neg (by decide)]
     rw [hd2] at hgo
     exact hgo
 ·rw [if_neg (fun h => hk (bl h))]
  by_cases h5 : x.ph = 5
  ·exact ⟨_, rfl, x, hx, h5, rfl⟩
  ·have := hlt h5
   omega
theorem JQ {l : List cP} {m h : List Int} {st : List ByteArray} (hR : Row l m h st) {t : TM} (ht : TOk t) (inp : List Int) {w : Int} (hw : w = dL bM l m 30000 0 (l.length - 1) + 1) (hb : w = dL bL l m 30000 0 (l.length - 1) + 1) (hw0 : 0 ≤ w) (hw2 : w ≤ 5000) :
  ∃ r, qU 30000 (w, 0, 0, t.sw, t.la, t.co, inp, l, m, z8, false, 0, [], z8, z16, z16, 0, [], 0, 0, 0) = some r ∧ ∃ z, r = .inr z := by
 have hl := hR.fine.len
 show ∃ r, it _ 30000 _ = some r ∧ _
 refine xJ (fun f y => ∃ (k : Nat) (used : Int) (s : MS), k ≤ 2 ∧ 2 < f + k ∧ (k = 0 ∨ used = t.sw + t.la + t.co + t.sw + w) ∧ s.stk.length ≤ 16 ∧ s.rds.length ≤ 200 ∧ y = (w, used, (k : Int), t.sw, t.la, t.co, inp, l, m, s.ret, false, s.at_, s.stk, s.loc, s.inp, s.out, s.set, s.rds, s.held, s.flt, s.stp)) _ (fun y ⟨k, used, s, h1, h2, _⟩ => by omega) ?_ 30000 _ ⟨0, 0, QF, by omega, by omega, .inl rfl, by decide, by decide, rfl⟩
 rintro f y F hF ⟨k, used, s, h1, h2, h3, h4, h4', rfl⟩
 show ∃ r, pW 30000 F w used (k : Int) t.sw t.la t.co inp l m s.ret false s.at_ s.stk s.loc s.inp s.out s.set s.rds s.held s.flt s.stp = some r ∧ _
 unfold pW
 rcases au k 2 with hk | hk
 ·have eR : ∀ (v1 : List cP) (v2 v3 : List Int) (v4 : Bool) (v5 : Int) (v6 v7 v8 v9 : List Int) (v10 : Int) (v11 : List Int) (v12 v13 v14 : Int), fJ 30000 v1 v2 v3 v4 v5 v6 v7 v8 v9 v10 v11 v12 v13 v14 = some (v4, v1, v2, v3, v4, v5, v6, v7, v8, v9, v10, v11, v12, v13, v14) := fun _ _ _ _ _ _ _ _ _ _ _ _ _ _ => rfl
  have eT : ∀ (v1 : List cP) (v2 v3 : List Int) (v4 : Bool) (v5 : Int) (v6 v7 v8 v9 : List Int) (v10 : Int) (v11 : List Int) (v12 v13 v14 : Int), eC 30000 v1 v2 v3 v4 v5 v6 v7 v8 v9 v10 v11 v12 v13 v14 = some (v3, v1, v2, v3, v4, v5, v6, v7, v8, v9, v10, v11, v12, v13, v14) := fun _ _ _ _ _ _ _ _ _ _ _ _ _ _ => rfl
  have eD : ∀ (v1 v2 v3 v4 v5 v6 v7 v8 v9 : Int) (v10 : List Int) (v11 : List cP) (v12 v13 : List Int) (v14 : Bool) (v15 : Int) (v16 v17 v18 v19 : List Int) (v20 : Int) (v21 : List Int) (v22 v23 v24 : Int), fi 30000 v1 v2 v3 v4 v5 v6 v7 v8 v9 v10 v11 v12 v13 v14 v15 v16 v17 v18 v19 v20 v21 v22 v23 v24 = some ((v7 == 5), v1, v2, v3, v4, v5, v6, v7, v8, v9, v10, v11, v12, v13, v14, v15, v16, v17, v18, v19, v20, v21, v22, v23, v24) := fun _ _ _ _ _ _ _ _ _ _ _ _ _ _ _ _ _ _ _ _ _ _ _ _ => rfl
  have eU : ∀ (v1 v2 v3 v4 v5 v6 v7 v8 v9 : Int) (v10 : List Int) (v11 : List cP) (v12 v13 : List Int) (v14 : Bool) (v15 : Int) (v16 v17 v18 v19 : List Int) (v20 : Int) (v21 : List Int) (v22 v23 v24 : Int), fX 30000 v1 v2 v3 v4 v5 v6 v7 v8 v9 v10 v11 v12 v13 v14 v15 v16 v17 v18 v19 v20 v21 v22 v23 v24 = some (v9, v1, v2, v3, v4, v5, v6, v7, v8, v9, v10, v11, v12, v13, v14, v15, v16, v17, v18, v19, v20, v21, v22, v23, v24) := fun _ _ _ _ _ _ _ _ _ _ _ _ _ _ _ _ _ _ _ _ _ _ _ _ => rfl
  rw [if_pos (ah (by omega)), ah (show (l.length : Int) > 0 by omega), if_neg (by decide), if_pos (by simp; omega), if_pos (by simp; omega), eR, ae]
  dsimp only
  rw [if_neg (by decide), CA, ae, times_ok.2 ht, if_neg (by decide)]
  have hs := tU 30000 (by omega) 0 1 0 ht (ph := 0) (left := t.sw) (by omega) 0 z16 l m false s
  have e0 : wi = fb := rfl
  unfold tT tS at hs
  rw [e0, hs, ae]
  dsimp only
  rw [eT, ae]
  dsimp only
  have hx := HL ht l m st 30000 w inp s []
  have hp : (gM t s []).ph < 2 := by
   show (dB _ 0 _).1 < 2
   unfold dB
   split
   ·show (0 : Int) < 2; omega
   ·rw [if_pos rfl]
    show (1 : Int) < 2; omega
  obtain ⟨r, f1, x', hx', h5, f2⟩ := JP 30000 (by omega) hR ht inp (show l.length < 30000 by omega) hw hb hw0 (by omega) used (k : Int) hx rfl hp rfl
  subst f2
  rw [show qT 30000 _ = _ from f1, ae, cg]
  dsimp only
  have a1' := hx'.u.u5 h5
  have a2' := hx'.u.stp (by omega)
  have a3' := hx'.fin (by omega)
  have a4' := hx'.u.ok.on
  rw [h5] at a4'
  have a5' : x'.c.on = false := a4'
  have hU : x'.used = t.sw + t.la + t.co + t.sw + w := by omega
  rw [eD, ae]
  dsimp only
  rw [if_neg (by rw [h5]; decide), eU, ae]
  dsimp only
  rw [eU, ae, d4 (by omega)]
  dsimp only
  have hgo := hF _ ⟨k + 1, x'.used, x'.c.s, by omega, by omega, .inr hU, a3'.2.1, a3'.2.2, rfl⟩
  rw [a5']
  by_cases hk1 : k = 1
  ·have hused : used = t.sw + t.la + t.co + t.sw + w := by omega
   rw [if_pos (by rw [hk1]; decide), if_neg (by rw [hU, hused]; simp)]
   exact hgo
  ·have : k = 0 := by omega
   subst this
   rw [if_neg (by decide)]
   exact hgo
 ·rw [if_neg (by simp; omega)]
  exact ⟨_, rfl, _, rfl⟩
theorem HM {l : List cP} (hl : 0 < l.length) {m : List Int} {t : TM} (ht : ¬ p9 t = true) (inp : List Int) (w : Int) (hk : gX 30000 = some true) :
  ∃ r, qU 30000 (w, 0, 0, t.sw, t.la, t.co, inp, l, m, z8, false, 0, [], z8, z16, z16, 0, [], 0, 0, 0) = some r ∧ ∃ z, r = .inl ((true, ()), z) := by
 show ∃ r, it _ 30000 _ = some r ∧ _
 refine xJ (fun f y => 1 ≤ f ∧ y = (w, 0, 0, t.sw, t.la, t.co, inp, l, m, z8, false, 0, [], z8, z16, z16, 0, [], 0, 0, 0)) _ (fun y ⟨h1, _⟩ => by omega) ?_ 30000 _ ⟨by omega, rfl⟩
 rintro f y F hF ⟨h1, rfl⟩
 show ∃ r, pW 30000 F w 0 0 t.sw t.la t.co inp l m z8 false 0 [] z8 z16 z16 0 [] 0 0 0 = some r ∧ _
 unfold pW
 have eR : ∀ (v1 : List cP) (v2 v3 : List Int) (v4 : Bool) (v5 : Int) (v6 v7 v8 v9 : List Int) (v10 : Int) (v11 : List Int) (v12 v13 v14 : Int), fJ 30000 v1 v2 v3 v4 v5 v6 v7 v8 v9 v10 v11 v12 v13 v14 = some (v4, v1, v2, v3, v4, v5, v6, v7, v8, v9, v10, v11, v12, v13, v14) := fun _ _ _ _ _ _ _ _ _ _ _ _ _ _ => rfl
 rw [if_pos (by decide), ah (show (l.length : Int) > 0 by omega), if_neg (by decide), if_pos (by decide), if_pos (by decide), eR, ae]
 dsimp only
 rw [if_neg (by decide), CA, ae, if_pos (by simpa using ht), if_pos (by decide), hk, ae]
 exact ⟨_, rfl, _, rfl⟩
theorem lQ (a0 : (List (Int × (Int × Int)))) (a1 : (Int × (Int × Int))) (a2 : (List Int)) (ok0 : Sh.Ok (.sl (.pair (.int .i64) (.pair (.int .i64) (.int .i64)))) a0) (ok1 : Sh.Ok (.pair (.int .i64) (.pair (.int .i64) (.int .i64))) a1) (ok2 : Sh.Ok (.arr 16 (.int .i64)) a2) : ∃ n, EZ n a0 a1 a2 = some true := by
 refine ⟨30000, ?_⟩
 unfold EZ
 rw [Eb]
 rcases au 200 a0.length with hl | hl
 ·rw [if_pos (ah (by omega))]
  rfl
 have kw := Jz 30000 a0 (by omega) (by omega) (by omega)
 rw [if_neg (by simp; omega), CQ 30000 a0 (by omega) (by omega), ae]
 cases hst : Fh a0 with
 | false => rw [if_pos (by decide)]; rfl
 | true =>
  rw [if_neg (by decide), zR 30000 a0 (by omega) (by omega), kw, ae]
  dsimp only
  by_cases h1 : eg a0 = 0
  ·rw [if_neg (by simp [h1]), Fb 30000 a0 (by omega) (by omega) (by omega), ae]
   dsimp only
   by_cases h2 : ej a0 = 0
   ·have hR := Ns h1 h2
    have hl0 := hR.fine.len
    rw [if_neg (by simp [h2]), ra 30000 a0 (by omega) (by omega), ae, if_pos (Nt hl), ae]
    by_cases h3 : (iX bM 30000 a0).2 = 0
    ·obtain ⟨g1, g2, g3, g4, g5⟩ := JC 30000 a0 h3
     rw [if_neg (by simp [h3])]
     by_cases hw : (iX bM 30000 a0).1 > 5000
     ·rw [if_pos (ah hw)]
      rfl
     ·rw [if_neg (fun h => hw (bl h))]
      have hs := KA hst (fun i hi => hR.fine.right hi)
      have e1 := yw jF hR.fine hs 30000 hR.fine.all
      have e2 := yw oc hR.fine hs 30000 hR.fine.all
      have hw0 : 0 ≤ (iX bM 30000 a0).1 := by
       rw [g4]
       have := gb jF hR.fine 30000 hR.fine.all
       rcases this with h | h <;> omega
      by_cases hq : p9 ⟨a1.1, a1.2.1, a1.2.2⟩ = true
      ·have ht := times_ok.1 hq
       obtain ⟨r, f1, z, f2⟩ := JQ hR ht a2 g4 (by rw [g4, e1, e2]) hw0 (by omega)
       subst f2
       dsimp only at f1
       rw [f1, ae]
       rfl
      ·obtain ⟨r, f1, z, f2⟩ := HM hl0.1 hq a2 (iX bM 30000 a0).1 (m := (scanI a0).1) Eb
       subst f2
       dsimp only at f1
       rw [f1, ae]
       rfl
    ·rw [if_pos (by simpa using h3)]
     rfl
   ·rw [if_pos (by simpa using h2), ae, if_pos (by simpa using h2)]
    rfl
  ·rw [if_pos (by simpa using h1), ae, if_pos (by simpa using h1)]
   rfl
end Go.Proofs.Dk
