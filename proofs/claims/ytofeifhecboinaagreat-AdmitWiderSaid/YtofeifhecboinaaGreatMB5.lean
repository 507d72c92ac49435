/- A part of the proofs: Plain: what instructions take and give. -/
import Derived.Test.YtofeifhecboinaaGreatMB4
set_option linter.unusedVariables false
set_option linter.unusedSimpArgs false
noncomputable section
namespace Go.Proofs.Dk
open Go Go.IntKind
set_option maxRecDepth 100000
def nj (a b : ByteArray) (k : Nat) : Bool := bt b (k : Int) == 32 || bt b (k : Int) == bt a (k : Int)
def rW (a b : ByteArray) : Bool := a.size == b.size && eY (nj a b) b.size 0
theorem B4 (n : Nat) {a b : ByteArray} (hs : a.size = b.size) (hb : b.size < 1000000) : ∀ (f k : Nat), k ≤ b.size → b.size < f + k →
  it (fun F => (dm q_) (nS n F)) f (a, b, (b.size : Int), (k : Int)) = some (if eY (nj a b) (b.size - k) k = true then .inr ((), ()) else .inl ((false, ()), ()))
 | 0, k, hk, hf => by omega
 | f + 1, k, hk, hf => by
  have ih := B4 n hs hb f (k + 1)
  show nS n (it _ f) a b (b.size : Int) (k : Int) = _
  generalize it (fun F => (dm q_) (nS n F)) f = F at ih ⊢
  unfold nS
  rcases am k b.size with hlt | hge
  ·rw [if_pos (af (by omega)), if_pos (dc hlt), if_pos (by decide), show b.size - k = (b.size - (k + 1)) + 1 by omega]
   rw [show eY (nj a b) (b.size - (k + 1) + 1) k = (nj a b k && eY (nj a b) (b.size - (k + 1)) (k + 1)) from rfl, di (by omega)]
   have e32 : bt (ByteArray.mk #[32]) 0 = 32 := by rfl
   rw [e32]
   by_cases h1 : bt b (k : Int) = 32
   ·have : nj a b k = true := by unfold nj; rw [h1]; rfl
    rw [if_neg (fun h => (aj.1 h) h1), ih (by omega) (by omega), this, aT]
   ·rw [if_pos (aj.2 h1), if_pos (dc hlt), if_pos (dc (by omega))]
    by_cases h2 : bt b (k : Int) = bt a (k : Int)
    ·have : nj a b k = true := by unfold nj; rw [h2]; simp
     rw [if_neg (fun h => (aj.1 h) h2), ih (by omega) (by omega), this, aT]
    ·have : nj a b k = false := by
      unfold nj
      rw [bE, aQ, aQ]
      exact ⟨h1, h2⟩
     rw [if_pos (aj.2 h2), this, bN, if_neg (by simp)]
  ·have : k = b.size := by omega
   subst this
   rw [if_neg (by simp), aZ]
   simp [eY]
theorem Gs (n : Nat) (a b : ByteArray) (hb : b.size < n) (hn : n < 1000000) : dV n a b = some (rW a b) := by
 unfold dV tO rW
 by_cases hs : a.size = b.size
 ·rw [if_neg (fun h => (aj.1 h) (by rw [hs]))]
  have h0 := B4 n hs (by omega) n 0 (ao _) (by omega)
  rw [show ((0 : Nat) : Int) = 0 from rfl] at h0
  rw [h0, ae, bv]
  have e : (a.size == b.size) = true := by simpa using hs
  rw [e, aT]
  rcases bF (eY (nj a b) b.size 0) with hb | hb <;> rw [hb] <;> rfl
 ·rw [if_pos (aj.2 (by omega))]
  have e : (a.size == b.size) = false := by simpa using hs
  rw [e, bN]
theorem rX {o A B : Int} (h : dH (o, A, B) = true) : 1 ≤ o ∧ o ≤ 25 := by
 have h1 := (fx 0 (o, A, B)).symm
 rw [h] at h1
 by_cases hc : o < 1 ∨ o > 25
 ·rw [Gn 0 o A B hc] at h1
  cases h1
 ·omega
theorem P3 {A B : Int} (h : dH (5, A, B) = true) : 1 ≤ A ∧ A ≤ 12 := by
 have h1 := (fx 0 (5, A, B)).symm.trans (PZ 0 A B)
 rw [h] at h1
 by_cases h2 : 1 ≤ A
 ·by_cases h3 : A ≤ 12
  ·exact ⟨h2, h3⟩
  ·rw [if_pos (af h2), if_neg (by simpa using h3)] at h1
   cases h1
 ·rw [if_neg (by simpa using h2)] at h1
  cases h1
def dP (o : Int) : ByteArray := [(ByteArray.mk #[]), (ByteArray.mk #[32]), (ByteArray.mk #[32]), (ByteArray.mk #[32, 32]), (ByteArray.mk #[105, 105]), (ByteArray.mk #[105]), (ByteArray.mk #[98]), (ByteArray.mk #[98, 98]), (ByteArray.mk #[98, 98]), (ByteArray.mk #[98]), (ByteArray.mk #[]), (ByteArray.mk #[105]), (ByteArray.mk #[]), (ByteArray.mk #[105]), (ByteArray.mk #[]), (ByteArray.mk #[105]), (ByteArray.mk #[]), (ByteArray.mk #[105]), (ByteArray.mk #[]), (ByteArray.mk #[98]), (ByteArray.mk #[]), (ByteArray.mk #[]), (ByteArray.mk #[]), (ByteArray.mk #[]), (ByteArray.mk #[])].getD (o - 1).toNat ByteArray.empty
def qS (o A : Int) (t : ByteArray) : ByteArray :=
 if o = 1 ∨ o = 6 ∨ o = 10 ∨ o = 11 ∨ o = 13 ∨ o = 15 ∨ o = 17 then ByteArray.mk #[105]
 else if o = 3 then t ++ t
 else if o = 4 then t.extract 1 t.size ++ t.extract 0 1
 else if o = 5 then (if A ≥ 11 then ByteArray.mk #[98] else ByteArray.mk #[105])
 else if o = 7 ∨ o = 8 ∨ o = 9 then ByteArray.mk #[98]
 else ByteArray.mk #[]
theorem xT {o : Int} (h : 1 ≤ o ∧ o ≤ 25) : o = 1 ∨ o = 2 ∨ o = 3 ∨ o = 4 ∨ o = 5 ∨ o = 6 ∨ o = 7 ∨ o = 8 ∨ o = 9 ∨ o = 10 ∨ o = 11 ∨ o = 12 ∨ o = 13 ∨ o = 14 ∨ o = 15 ∨ o = 16 ∨ o = 17 ∨ o = 18 ∨ o = 19 ∨ o = 20 ∨ o = 21 ∨ o = 22 ∨ o = 23 ∨ o = 24 ∨ o = 25 := by omega
theorem zD {o : Int} (h : 1 ≤ o ∧ o ≤ 25) : (dP o).size ≤ 2 := by
 rcases xT h with rfl | rfl | rfl | rfl | rfl | rfl | rfl | rfl | rfl | rfl | rfl | rfl | rfl | rfl | rfl | rfl | rfl | rfl | rfl | rfl | rfl | rfl | rfl | rfl | rfl <;> decide
theorem Mx (n : Nat) {o A B : Int} (h : dH (o, A, B) = true) : iA n (o, A, B) = some (dP o) := by
 unfold iA
 rw [fx, h, ae, if_neg (by decide)]
 rcases xT (rX h) with rfl | rfl | rfl | rfl | rfl | rfl | rfl | rfl | rfl | rfl | rfl | rfl | rfl | rfl | rfl | rfl | rfl | rfl | rfl | rfl | rfl | rfl | rfl | rfl | rfl <;> rfl
theorem Kg {a b : ByteArray} (h : rW a b = true) : a.size = b.size := by
 unfold rW at h
 rw [ak] at h
 simpa using h.1
theorem My (n : Nat) (hn : 3 < n) (hn2 : n < 1000000) {o A B : Int} (h : dH (o, A, B) = true) {t : ByteArray} (ht : rW t (dP o) = true) : jZ n (o, A, B) t = some (qS o A t) := by
 have hs := zD (rX h)
 have ht2 := Kg ht
 have hf := Gs n t (dP o) (by omega) hn2
 rw [ht] at hf
 have hdup : fN n (o, A, B) t = some (t ++ t) := by
  unfold fN
  rw [if_pos (by simp; omega)]
 have hswp : t.size = 2 → fO n (o, A, B) t = some (t.extract 1 t.size ++ t.extract 0 1) := fun h2 => by
  unfold fO
  rw [if_pos (by simp; omega), if_pos (by simp; omega)]
  simp only [cu]
  rw [if_pos (by simp; omega)]
 have htwo : 1 ≤ A ∧ A ≤ 12 → jK n (o, A, B) t = some (if A ≥ 11 then ByteArray.mk #[98] else ByteArray.mk #[105]) := fun h2 => by
  unfold jK
  by_cases c1 : A = 11
  ·subst c1; rfl
  ·by_cases c2 : A = 12
   ·subst c2; rfl
   ·rw [if_neg (by simpa using c1), if_neg (by simpa using c2), if_neg (by omega)]
 unfold jZ
 rw [fx, h]
 rcases xT (rX h) with rfl | rfl | rfl | rfl | rfl | rfl | rfl | rfl | rfl | rfl | rfl | rfl | rfl | rfl | rfl | rfl | rfl | rfl | rfl | rfl | rfl | rfl | rfl | rfl | rfl
 ·refine aG (b := Option.bind (dV n t (dP 1)) _) rfl ?_
  rw [hf]
  rfl
 ·refine aG (b := Option.bind (dV n t (dP 2)) _) rfl ?_
  rw [hf]
  rfl
 ·refine aG (b := Option.bind (dV n t (dP 3)) _) rfl ?_
  rw [hf]
  refine aG (b := Option.bind (fN n (3, A, B) t) some) rfl ?_
  rw [hdup]
  rfl
 ·refine aG (b := Option.bind (dV n t (dP 4)) _) rfl ?_
  rw [hf]
  refine aG (b := Option.bind (fO n (4, A, B) t) some) rfl ?_
  rw [hswp ht2]
  rfl
 ·refine aG (b := Option.bind (dV n t (dP 5)) _) rfl ?_
  rw [hf]
  refine aG (b := Option.bind (jK n (5, A, B) t) some) rfl ?_
  rw [htwo (P3 h)]
  rfl
 ·refine aG (b := Option.bind (dV n t (dP 6)) _) rfl ?_
  rw [hf]
  rfl
 ·refine aG (b := Option.bind (dV n t (dP 7)) _) rfl ?_
  rw [hf]
  rfl
 ·refine aG (b := Option.bind (dV n t (dP 8)) _) rfl ?_
  rw [hf]
  rfl
 ·refine aG (b := Option.bind (dV n t (dP 9)) _) rfl ?_
  rw [hf]
  rfl
 ·refine aG (b := Option.bind (dV n t (dP 10)) _) rfl ?_
  rw [hf]
  rfl
 ·refine aG (b := Option.bind (dV n t (dP 11)) _) rfl ?_
  rw [hf]
  rfl
 ·refine aG (b := Option.bind (dV n t (dP 12)) _) rfl ?_
  rw [hf]
  rfl
 ·refine aG (b := Option.bind (dV n t (dP 13)) _) rfl ?_
  rw [hf]
  rfl
 ·refine aG (b := Option.bind (dV n t (dP 14)) _) rfl ?_
  rw [hf]
  rfl
 ·refine aG (b := Option.bind (dV n t (dP 15)) _) rfl ?_
  rw [hf]
  rfl
 ·refine aG (b := Option.bind (dV n t (dP 16)) _) rfl ?_
  rw [hf]
  rfl
 ·refine aG (b := Option.bind (dV n t (dP 17)) _) rfl ?_
  rw [hf]
  rfl
 ·refine aG (b := Option.bind (dV n t (dP 18)) _) rfl ?_
  rw [hf]
  rfl
 ·rfl
 ·refine aG (b := Option.bind (dV n t (dP 20)) _) rfl ?_
  rw [hf]
  rfl
 ·rfl
 ·rfl
 ·rfl
 ·rfl
 ·rfl
theorem Gt (x : cY) : (ends x).1 = 22 ∨ (ends x).1 = 24 := by
 unfold ends
 split
 ·exact .inl rfl
 ·exact .inr rfl
theorem isOpen_iff {l : List cY} {k : Nat} : dw l k = true ↔ dd l k = 21 ∨ dd l k = 23 := by
 unfold dw
 rw [aJ, ag, ag]
theorem B5 {l : List cY} {j k : Nat} (h : l.getD j (0, 0, 0) = ends (l.getD k (0, 0, 0))) : dw l j = false := by
 rw [Bool.eq_false_iff]
 intro h2
 rw [isOpen_iff] at h2
 have := Gt (l.getD k (0, 0, 0))
 unfold dd at h2
 rw [h] at h2
 omega
structure ScanK (l : List cY) (i : Nat) (m : List Int) (op : List (Int × cY)) : Prop where
 cl : ∀ j, j < i → dd l j = 22 ∨ dd l j = 24 → ∃ k : Nat, m.getD j 0 = (k : Int) ∧ k < j ∧ dw l k = true ∧ ea op k = false ∧ m.getD k 0 = (j : Int) ∧ l.getD j (0, 0, 0) = ends (l.getD k (0, 0, 0))
 op_ : ∀ k, k < i → dw l k = true → ea op k = true ∨ ∃ j : Nat, m.getD k 0 = (j : Int) ∧ k < j ∧ j < i ∧ l.getD j (0, 0, 0) = ends (l.getD k (0, 0, 0)) ∧ m.getD j 0 = (k : Int)
theorem inOp_false {op : List (Int × cY)} {k : Nat} : ea op k = false ↔ ∀ e ∈ op, e.1 ≠ (k : Int) := by
 unfold ea
 rw [List.any_eq_false]
 simp
theorem inOp_true {op : List (Int × cY)} {k : Nat} : ea op k = true ↔ ∃ e ∈ op, e.1 = (k : Int) := by
 unfold ea
 rw [List.any_eq_true]
 simp
theorem Kh {α : Type} {l : List α} {d : α} (h : 0 < l.length) : l = l.take (l.length - 1) ++ [l.getD (l.length - 1) d] := by
 have h1 : l.getD (l.length - 1) d = l[l.length - 1] := by
  rw [aq, au (by omega)]
  rfl
 rw [h1]
 have h2 := List.take_append_getElem (l := l) (i := l.length - 1) (by omega)
 rw [h2, aY (by omega)]
theorem ScanK.step {l : List cY} {i : Nat} {m h m' h' : List Int} {op op' : List (Int × cY)} (hI : ScanI l i m h op) (hJ : ScanJ l i m h op) (hK : ScanK l i m op) (hi : i < l.length) (hs : f0 (l.getD i (0, 0, 0)) i m h op = some (m', h', op')) : ScanK l (i + 1) m' op' := by
 have him : i < m.length := by rw [hI.hm]; exact hi
 have m1 : ∀ k, k ≠ i → (m.set i (-1)).getD k 0 = m.getD k 0 := fun k hk => by rw [eb him, if_neg hk]
 unfold f0 at hs
 simp only at hs
 by_cases ho : (l.getD i (0, 0, 0)).1 = 21 ∨ (l.getD i (0, 0, 0)).1 = 23
 ·rw [if_pos ho] at hs
  simp only [ab, ah] at hs
  obtain ⟨rfl, rfl, rfl⟩ := hs
  refine ⟨fun j hj hc => ?_, fun k hk hk2 => ?_⟩
  ·have : j ≠ i := fun e => by subst e; unfold dd at hc; omega
   obtain ⟨k, k1, k2, k3, k4, k5, k6⟩ := hK.cl j (by omega) hc
   refine ⟨k, ?_, k2, k3, ?_, ?_, k6⟩
   ·rw [m1 j this, k1]
   ·rw [mr, k4, inOp_false.2 (fun e he => ?_)]
    ·rfl
    ·rw [aC] at he
     subst he
     simp only
     omega
   ·rw [m1 k (by omega), k5]
  ·by_cases e : k = i
   ·subst e
    exact .inl (inOp_true.2 ⟨_, bJ _ (aC.2 rfl), rfl⟩)
   ·rcases hK.op_ k (by omega) hk2 with h1 | ⟨j, j1, j2, j3, j4, j5⟩
    ·exact .inl (by rw [mr, h1, Bool.true_or])
    ·exact .inr ⟨j, by rw [m1 k e, j1], j2, by omega, j4, by rw [m1 j (by omega), j5]⟩
 ·rw [if_neg ho] at hs
  by_cases hc : (l.getD i (0, 0, 0)).1 = 22 ∨ (l.getD i (0, 0, 0)).1 = 24
  ·rw [if_pos hc] at hs
   by_cases h0 : op.length = 0
   ·rw [if_pos h0] at hs
    cases hs
   ·rw [if_neg h0] at hs
    by_cases he : (op.getD (op.length - 1) (0, 0, 0, 0)).2 = l.getD i (0, 0, 0)
    ·rw [if_pos he] at hs
     simp only [ab, ah] at hs
     obtain ⟨rfl, rfl, rfl⟩ := hs
     have hmem : op.getD (op.length - 1) (0, 0, 0, 0) ∈ op := rU (by omega)
     have htl := Kh (l := op) (d := (0, 0, 0, 0)) (by omega)
     obtain ⟨t, t1, t2, t3, t4, t5⟩ := hI.at_ _ hmem
     have hinc := hJ.inc
     generalize op.getD (op.length - 1) (0, 0, 0, 0) = top at *
     rw [t2, ai]
     have htin : ea op t = true := inOp_true.2 ⟨_, hmem, t2⟩
     have hto : dw l t = true := isOpen_iff.2 t5
     have htm : t < ((m.set i (-1)).set i ((t : Nat) : Int)).length := by simp; omega
     have mt : ∀ k, k ≠ i → k ≠ t → (((m.set i (-1)).set i ((t : Nat) : Int)).set t (i : Int)).getD k 0 = m.getD k 0 := fun k h1 h2 => by
      rw [eb htm, if_neg h2, eb (by simpa using him), if_neg h1, m1 k h1]
     have mi : (((m.set i (-1)).set i ((t : Nat) : Int)).set t (i : Int)).getD i 0 = (t : Int) := by
      rw [eb htm, if_neg (by omega), eb (by simpa using him), if_pos rfl]
     have mtt : (((m.set i (-1)).set i ((t : Nat) : Int)).set t (i : Int)).getD t 0 = (i : Int) := by
      rw [eb htm, if_pos rfl]
     have hend : l.getD i (0, 0, 0) = ends (l.getD t (0, 0, 0)) := he.symm.trans t4
     have hlast : ∀ e ∈ op.take (op.length - 1), e.1 < top.1 := fun e he2 => by
      rw [htl] at hinc
      exact (List.pairwise_append.1 hinc).2.2 e he2 top (aC.2 rfl)
     have hnot : ea (op.take (op.length - 1)) t = false := inOp_false.2 fun e he2 => by
      have := hlast e he2
      omega
     refine ⟨fun j hj hcj => ?_, fun k hk hk2 => ?_⟩
     ·by_cases e : j = i
      ·subst e
       exact ⟨t, mi, t1, hto, hnot, mtt, hend⟩
      ·obtain ⟨k, k1, k2, k3, k4, k5, k6⟩ := hK.cl j (by omega) hcj
       have hkt : k ≠ t := fun e2 => by subst e2; rw [htin] at k4; cases k4
       have hjt : j ≠ t := fun e2 => by
        subst e2
        unfold dd at hcj
        omega
       refine ⟨k, by rw [mt j e hjt, k1], k2, k3, ?_, by rw [mt k (by omega) hkt, k5], k6⟩
       exact inOp_false.2 fun e2 he2 => inOp_false.1 k4 e2 (List.mem_of_mem_take he2)
     ·have hki : k ≠ i := fun e => by
       subst e
       rw [isOpen_iff] at hk2
       unfold dd at hk2
       omega
      by_cases e : k = t
      ·subst e
       exact .inr ⟨i, mtt, t1, by omega, hend, mi⟩
      ·rcases hK.op_ k (by omega) hk2 with h1 | ⟨j, j1, j2, j3, j4, j5⟩
       ·rw [inOp_true] at h1
        obtain ⟨e1, e2, e3⟩ := h1
        rw [htl] at e2
        rcases az.1 e2 with h4 | h4
        ·exact .inl (inOp_true.2 ⟨e1, h4, e3⟩)
        ·rw [aC] at h4
         subst h4
         omega
       ·have hjt : j ≠ t := fun e2 => by
         subst e2
         rw [B5 j4] at hto
         cases hto
        exact .inr ⟨j, by rw [mt k hki e, j1], j2, by omega, j4, by rw [mt j (by omega) hjt, j5]⟩
    ·rw [if_neg he] at hs
     cases hs
  ·rw [if_neg hc] at hs
   simp only [ab, ah] at hs
   obtain ⟨rfl, rfl, rfl⟩ := hs
   refine ⟨fun j hj hcj => ?_, fun k hk hk2 => ?_⟩
   ·have : j ≠ i := fun e => by subst e; exact hc hcj
    obtain ⟨k, k1, k2, k3, k4, k5, k6⟩ := hK.cl j (by omega) hcj
    exact ⟨k, by rw [m1 j this, k1], k2, k3, k4, by rw [m1 k (by omega), k5], k6⟩
   ·have : k ≠ i := fun e => by subst e; exact ho (isOpen_iff.1 hk2)
    rcases hK.op_ k (by omega) hk2 with h1 | ⟨j, j1, j2, j3, j4, j5⟩
    ·exact .inl h1
    ·exact .inr ⟨j, by rw [m1 k this, j1], j2, by omega, j4, by rw [m1 j (by omega), j5]⟩
theorem B6 {l : List cY} : ∀ (r i : Nat) {m h m' h' : List Int} {op op' : List (Int × cY)}, ScanI l i m h op → ScanJ l i m h op → ScanK l i m op → r + i = l.length → j7 l r i m h op = some (m', h', op') → ScanK l l.length m' op'
 | 0, i, m, h, m', h', op, op', hI, hJ, hK, hr, hs => by
  simp only [j7, ab, ah] at hs
  obtain ⟨rfl, rfl, rfl⟩ := hs
  have : i = l.length := by omega
  subst this
  exact hK
 | r + 1, i, m, h, m', h', op, op', hI, hJ, hK, hr, hs => by
  simp only [j7] at hs
  cases hstep : f0 (l.getD i (0, 0, 0)) i m h op with
  | none => rw [hstep] at hs; cases hs
  | some y =>
   obtain ⟨m1, h1, op1⟩ := y
   rw [hstep] at hs
   exact B6 r (i + 1) (hI.step (by omega) hstep) (hJ.step hI (by omega) hstep) (hK.step hI hJ (by omega) hstep) (by omega) hs
structure Closed (l : List cY) (m : List Int) : Prop where
 cl : ∀ j, j < l.length → dd l j = 22 ∨ dd l j = 24 → ∃ k : Nat, m.getD j 0 = (k : Int) ∧ k < j ∧ dw l k = true ∧ m.getD k 0 = (j : Int) ∧ l.getD j (0, 0, 0) = ends (l.getD k (0, 0, 0))
 op_ : ∀ k, k < l.length → dw l k = true → ∃ j : Nat, m.getD k 0 = (j : Int) ∧ k < j ∧ j < l.length ∧ l.getD j (0, 0, 0) = ends (l.getD k (0, 0, 0)) ∧ m.getD j 0 = (k : Int)
theorem lD {l : List cY} (h : (dt l).2.2 = 0) : Closed l (dt l).1 := by
 unfold dt at h ⊢
 split at h
 ·rename_i hr
  rw [if_pos hr]
  split at h
  ·rename_i m' h' op hs
   split at h
   ·cases h
   ·rename_i h0
    simp only [if_neg h0]
    have hK := B6 l.length 0 (ScanI.start l) (ScanJ.start l) ⟨fun j hj => by omega, fun k hk => by omega⟩ (by omega) hs
    have : op = [] := bn (by omega)
    subst this
    refine ⟨fun j hj hc => ?_, fun k hk ho => ?_⟩
    ·obtain ⟨k, k1, k2, k3, k4, k5, k6⟩ := hK.cl j hj hc
     exact ⟨k, k1, k2, k3, k5, k6⟩
    ·rcases hK.op_ k hk ho with h1 | h1
     ·simp [ea] at h1
     ·exact h1
  ·cases h
 ·cases h
def B7 (a b : ByteArray) : Bool := !(a.toList == b.toList)
def iH (x : cY) (s : ByteArray) : ByteArray × Int :=
 if s.size < (dP x.1).size then (ByteArray.mk #[], 9)
 else if rW (s.extract (s.size - (dP x.1).size) s.size) (dP x.1) = true then
  (if (s.extract 0 (s.size - (dP x.1).size) ++ qS x.1 x.2.1 (s.extract (s.size - (dP x.1).size) s.size)).size > 16 then (ByteArray.mk #[], 9)
  else (s.extract 0 (s.size - (dP x.1).size) ++ qS x.1 x.2.1 (s.extract (s.size - (dP x.1).size) s.size), 0))
 else (ByteArray.mk #[], 10)
theorem zE (x : cY) (s : ByteArray) : (iH x s).1.size ≤ 16 := by
 unfold iH
 split
 ·exact ao _
 ·split
  ·split
   ·exact ao _
   ·simp only; omega
  ·exact ao _
theorem HO {o A : Int} {t : ByteArray} (h : t.size ≤ 2) : (qS o A t).size ≤ 4 := by
 unfold qS
 split
 ·decide
 ·split
  ·rw [bG]; omega
  ·split
   ·rw [bG, cu, cu]; omega
   ·split
    ·split <;> decide
    ·split <;> decide
theorem gx {a b : Nat} (h : b ≤ a) (ha : a < 1000000) : wrap .i64 ((a : Int) - (b : Int)) = ((a - b : Nat) : Int) := by
 rw [dA (by omega) (by omega)]
 omega
theorem Mz (n : Nat) (hn : 3 < n) (hn2 : n < 1000000) {o A B : Int} (h : dH (o, A, B) = true) {s : ByteArray} (hs : s.size ≤ 16) : iB n (o, A, B) s = some (iH (o, A, B) s) := by
 have ht := zD (rX h)
 unfold iB iH
 simp only [Mx n h, ae]
 by_cases hlt : s.size < (dP o).size
 ·rw [if_pos hlt, if_pos]
  rw [dA (by omega) (by omega)]
  simp; omega
 ·rw [if_neg hlt, gx (by omega) (by omega), if_neg (by simp), if_pos (by simp), ai, Gs n _ _ (by omega) hn2, ae]
  rcases bF (rW (s.extract (s.size - (dP o).size) s.size) (dP o)) with hf | hf
  ·rw [hf, if_neg (by decide), if_pos rfl, if_pos (by simp), My n hn hn2 h hf, ae]
   have hg := HO (o := o) (A := A) (t := s.extract (s.size - (dP o).size) s.size) (by rw [cu]; omega)
   have hx : (s.extract 0 (s.size - (dP o).size)).size ≤ 16 := by rw [cu]; omega
   rw [if_pos (af (by omega))]
   generalize s.extract 0 (s.size - (dP o).size) ++ qS o A (s.extract (s.size - (dP o).size) s.size) = out
   by_cases hb : out.size > 16
   ·rw [if_pos hb, if_pos (show decide ((out.size : Int) > 16) = true from af (by omega)), if_pos (by simp)]
   ·rw [if_neg hb, if_neg (show ¬ decide ((out.size : Int) > 16) = true by simp only [aw]; omega), if_pos (by simp)]
  ·rw [hf, if_pos (by decide), if_neg (by decide)]
abbrev gF := List ByteArray × List Bool × List Bool
def gM (q : Nat) (t : ByteArray) (f : gF) : gF := (f.1.set q t, f.2.1.set q true, if (f.2.1.getD q false && B7 (f.1.getD q ByteArray.empty) t) = true then f.2.2.set q true else f.2.2)
def fg (l : List cY) (i : Nat) : List Nat := if dd l i = 19 then [dr l i] else if dd l i = 20 then [i + 1, dr l i] else if dd l i = 25 then [] else [i + 1]
def f4 (l : List cY) (m : List Int) (i : Nat) (f : gF) : Int ⊕ gF :=
 if f.2.1.getD i false = false then .inl 8
 else if f.2.2.getD i false = true then .inl 10
 else if dd l i = 22 ∧ B7 (f.1.getD (m.getD i 0).toNat ByteArray.empty) (f.1.getD i ByteArray.empty) = true then .inl 10
 else if (iH (l.getD i (0, 0, 0)) (f.1.getD i ByteArray.empty)).2 ≠ 0 then .inl (iH (l.getD i (0, 0, 0)) (f.1.getD i ByteArray.empty)).2
 else .inr ((fg l i).foldl (fun g k => gM k (iH (l.getD i (0, 0, 0)) (f.1.getD i ByteArray.empty)).1 g) f)
structure FlowI (l : List cY) (f : gF) : Prop where
 a : f.1.length = l.length
 b : f.2.1.length = l.length
 c : f.2.2.length = l.length
 s : ∀ k, (f.1.getD k ByteArray.empty).size ≤ 16
theorem EG {l : List cY} {f : gF} (h : FlowI l f) (q : Nat) {t : ByteArray} (ht : t.size ≤ 16) : FlowI l (gM q t f) := by
 refine ⟨by simp [gM, h.a], by simp [gM, h.b], ?_, fun k => ?_⟩
 ·unfold gM
  simp only
  split
  ·simp [h.c]
  ·exact h.c
 ·unfold gM
  simp only
  rcases am q f.1.length with hlt | hge
  ·rw [eb hlt]
   split
   ·exact ht
   ·exact h.s k
  ·rw [List.set_eq_of_length_le hge]
   exact h.s k
theorem Ki (n : Nat) {l : List cY} {f : gF} (h : FlowI l f) {q : Nat} (hto : q < l.length) (t : ByteArray) :
  jL n (q : Int) t f.1 f.2.1 f.2.2 = some ((q : Int), t, f.1, f.2.1, (gM q t f).2.2) := by
 obtain ⟨st, so, cl⟩ := f
 have ha : st.length = l.length := h.a
 have hb : so.length = l.length := h.b
 have hc : cl.length = l.length := h.c
 unfold jL gM B7
 simp only [ai]
 rw [if_pos (dc (by omega))]
 rcases bF (so.getD q false) with h1 | h1
 ·rw [h1, if_pos rfl, if_pos (dc (by omega)), aT]
  rcases bF (!((st.getD q ByteArray.empty).toList == t.toList)) with h2 | h2
  ·rw [h2, if_pos rfl, if_pos (dc (by omega)), if_pos rfl]
  ·rw [h2, if_neg (by decide), if_neg (by decide)]
 ·rw [h1, if_neg (by decide), bN, if_neg (by decide)]
theorem ms (n : Nat) {l : List cY} {f : gF} (h : FlowI l f) {q : Nat} (hto : q < l.length) (t : ByteArray) {R : Type} (K : Int → ByteArray → List ByteArray → List Bool → List Bool → Option R) :
  ((jL n (q : Int) t f.1 f.2.1 f.2.2).bind fun y => (if (decide (0 ≤ y.1) && decide (y.1 < (y.2.2.2.1.length : Int))) then (if (decide (0 ≤ y.1) && decide (y.1 < (y.2.2.1.length : Int))) then K y.1 y.2.1 (y.2.2.1.set y.1.toNat y.2.1) (y.2.2.2.1.set y.1.toNat true) y.2.2.2.2 else none) else none)) = K (q : Int) t (gM q t f).1 (gM q t f).2.1 (gM q t f).2.2 := by
 rw [Ki n h hto t, ae]
 simp only
 rw [if_pos (dc (by rw [h.b]; exact hto)), if_pos (dc (by rw [h.a]; exact hto)), ai]
 rfl
structure Fine (l : List cY) (m h : List Int) : Prop where
 nest : Nest l m h
 closed : Closed l m
 ends : ∀ j, j < l.length → uS l j = true
 jumps : ∀ j, j < l.length → j8 l h j = true
theorem nJ {l : List cY} (h : eX l = 0) : Fine l (dt l).1 (dt l).2.1 := by
 have hs := jt h
 unfold eX at h
 rw [if_neg (by simpa using hs)] at h
 split at h
 ·rename_i h1
  split at h
  ·rename_i h2
   exact ⟨nH hs, lD hs, fun j hj => allF_iff.1 h1 j (ao _) (by omega), fun j hj => allF_iff.1 h2 j (ao _) (by omega)⟩
  ·cases h
 ·cases h
theorem Fine.len {l : List cY} {m h : List Int} (hF : Fine l m h) : 0 < l.length ∧ l.length ≤ 200 := ⟨(ji hF.nest.row).1, (ji hF.nest.row).2.1⟩
theorem Fine.right {l : List cY} {m h : List Int} (hF : Fine l m h) {i : Nat} (hi : i < l.length) : dH (l.getD i (0, 0, 0)) = true := (ji hF.nest.row).2.2 i hi
theorem Fine.succ {l : List cY} {m h : List Int} (hF : Fine l m h) {i : Nat} (hi : i < l.length) (h : dd l i ≠ 25) : i + 1 < l.length := by
 have h1 := hF.ends i hi
 unfold uS at h1
 have h2 : ((l.getD i (0, 0, 0)).1 == 25) = false := by rw [aQ]; exact h
 rw [h2] at h1
 have h3 : ((i : Int) == ((l.length - 1 : Nat) : Int)) = false := by
  cases h4 : ((i : Int) == ((l.length - 1 : Nat) : Int))
  ·rfl
  ·rw [h4] at h1; cases h1
 rw [aQ] at h3
 omega
theorem Fine.last {l : List cY} {m h : List Int} (hF : Fine l m h) : dd l (l.length - 1) = 25 := by
 have h1 := hF.ends (l.length - 1) (by have := hF.len; omega)
 unfold uS at h1
 have h3 : (((l.length - 1 : Nat) : Int) == ((l.length - 1 : Nat) : Int)) = true := by simp
 rw [h3] at h1
 cases h4 : ((l.getD (l.length - 1) (0, 0, 0)).1 == 25)
 ·rw [h4] at h1; cases h1
 ·exact eq_of_beq h4
theorem Fine.jump {l : List cY} {m h : List Int} (hF : Fine l m h) {i : Nat} (hi : i < l.length) (hj : dd l i = 19 ∨ dd l i = 20) : dr l i < l.length ∧ gv l m (dr l i) = gv l m i := by
 have h1 := hF.jumps i hi
 unfold j8 at h1
 rw [if_pos hj] at h1
 rw [ak, aw, ag] at h1
 refine ⟨h1.1, ?_⟩
 rw [← hF.nest.home i hi, ← hF.nest.home _ h1.1]
 exact h1.2
theorem Fine.next {l : List cY} {m h : List Int} (hF : Fine l m h) {i : Nat} (hi : i < l.length) : ∀ k ∈ fg l i, k < l.length := by
 intro k hk
 unfold fg at hk
 split at hk
 ·rename_i h1
  rw [aC] at hk
  subst hk
  exact (hF.jump hi (.inl h1)).1
 ·split at hk
  ·rename_i h1 h2
   rw [aA, aC] at hk
   rcases hk with rfl | rfl
   ·exact hF.succ hi (by omega)
   ·exact (hF.jump hi (.inr h2)).1
  ·split at hk
   ·cases hk
   ·rename_i h3
    rw [aC] at hk
    subst hk
    exact hF.succ hi h3
theorem EH {l : List cY} {t : ByteArray} (ht : t.size ≤ 16) : ∀ (ks : List Nat) {f : gF}, FlowI l f → FlowI l (ks.foldl (fun f k => gM k t f) f)
 | [], f, h => h
 | k :: ks, f, h => EH ht ks (EG h k ht)
theorem FB {l : List cY} {m : List Int} {i : Nat} {f f' : gF} (h : FlowI l f) (hs : f4 l m i f = .inr f') : FlowI l f' := by
 unfold f4 at hs
 split at hs
 ·cases hs
 ·split at hs
  ·cases hs
  ·split at hs
   ·cases hs
   ·split at hs
    ·cases hs
    ·cases hs
     exact EH (zE _ _) _ h
theorem FC (n : Nat) (hn : 3 < n) (hn2 : n < 1000000) {l : List cY} {m h : List Int} (hF : Fine l m h) (F : ((List Int) × (List (Int × (Int × Int))) × Int × Int × (List ByteArray) × (List Bool) × (List Bool)) → Option (((((List ByteArray) × Int × Unit) × (((List ByteArray) × (List Bool) × (List Bool) × Unit) × Unit)) ⊕ (Unit × (((List ByteArray) × (List Bool) × (List Bool) × Unit) × Unit))))) {f : gF} (hf : FlowI l f) {i : Nat} (hi : i < l.length) :
  mL n F m l (l.length : Int) (i : Int) f.1 f.2.1 f.2.2 = match f4 l m i f with
   | .inl e => some (.inl (([], e, ()), ((f.1, f.2.1, f.2.2, ()), ())))
   | .inr f' => F (m, l, (l.length : Int), ((i + 1 : Nat) : Int), f'.1, f'.2.1, f'.2.2) := by
 obtain ⟨l1, l2⟩ := hF.len
 have ha := hf.a
 have hb := hf.b
 have hc := hf.c
 have hr := hF.right hi
 have hm : dd l i = 22 → ∃ j : Nat, m.getD i 0 = (j : Int) ∧ j < l.length := fun h22 => by
  obtain ⟨k, k1, k2, _⟩ := hF.closed.cl i hi (.inl h22)
  exact ⟨k, k1, by omega⟩
 have hnx := hF.next hi
 have hjx := fun hj => (hF.jump hi hj).1
 have hjw := fun hj => nT (by omega) hi hr hj
 unfold mL DT f4
 simp only [ai]
 rw [if_pos (af (by omega)), if_pos (dc hi), if_pos (dc (by omega)), if_pos (dc (by omega)), di (by omega)]
 rcases bF (f.2.1.getD i false) with h1 | h1
 ·rw [h1, if_neg (show ¬ (!true) = true by decide), if_neg (show ¬ true = false by decide), if_pos (dc (by omega))]
  rcases bF (f.2.2.getD i false) with h2 | h2
  ·rw [h2, if_pos rfl, if_pos rfl]
   rfl
  ·rw [h2, if_neg (show ¬ false = true by decide), if_neg (show ¬ false = true by decide)]
   have key : (iH (l.getD i (0, 0, 0)) (f.1.getD i ByteArray.empty)).1.size ≤ 16 := zE _ _
   have tail : ((iB n ((l.getD i (0, 0, 0)).1, ((l.getD i (0, 0, 0)).2.1, (l.getD i (0, 0, 0)).2.2)) (f.1.getD i ByteArray.empty)).bind fun y19 => (if (y19.2 != 0) then (if (y19.2 != 0) then (some (.inl (([], y19.2, ()), ((f.1, f.2.1, f.2.2, ()), ())))) else (F (m, l, (l.length : Int), ((i + 1 : Nat) : Int), f.1, f.2.1, f.2.2))) else ((yU n (i : Int) y19.1 f.1 f.2.1 f.2.2 (l.getD i (0, 0, 0)).1 (l.getD i (0, 0, 0)).2.1 (l.getD i (0, 0, 0)).2.2).bind fun y20 => (if (y20.2.2.2.2.2.1 == 19) then ((jL n (wrap .i64 ((wrap .i64 (y20.1 + 1)) + y20.2.2.2.2.2.2.1)) y20.2.1 y20.2.2.1 y20.2.2.2.1 y20.2.2.2.2.1).bind fun y21 => (if (decide (0 ≤ y21.1) && decide (y21.1 < (y21.2.2.2.1.length : Int))) then (if (decide (0 ≤ y21.1) && decide (y21.1 < (y21.2.2.1.length : Int))) then (F (m, l, (l.length : Int), ((i + 1 : Nat) : Int), (y21.2.2.1.set y21.1.toNat y21.2.1), (y21.2.2.2.1.set y21.1.toNat true), y21.2.2.2.2)) else none) else none)) else (if (y20.2.2.2.2.2.1 == 20) then ((jL n (wrap .i64 ((wrap .i64 (y20.1 + 1)) + y20.2.2.2.2.2.2.1)) y20.2.1 y20.2.2.1 y20.2.2.2.1 y20.2.2.2.2.1).bind fun y22 => (if (decide (0 ≤ y22.1) && decide (y22.1 < (y22.2.2.2.1.length : Int))) then (if (decide (0 ≤ y22.1) && decide (y22.1 < (y22.2.2.1.length : Int))) then (F (m, l, (l.length : Int), ((i + 1 : Nat) : Int), (y22.2.2.1.set y22.1.toNat y22.2.1), (y22.2.2.2.1.set y22.1.toNat true), y22.2.2.2.2)) else none) else none)) else (F (m, l, (l.length : Int), ((i + 1 : Nat) : Int), y20.2.2.1, y20.2.2.2.1, y20.2.2.2.2.1))))))) = match (if (iH (l.getD i (0, 0, 0)) (f.1.getD i ByteArray.empty)).2 ≠ 0 then Sum.inl (iH (l.getD i (0, 0, 0)) (f.1.getD i ByteArray.empty)).2
     else Sum.inr ((fg l i).foldl (fun g k => gM k (iH (l.getD i (0, 0, 0)) (f.1.getD i ByteArray.empty)).1 g) f) : Int ⊕ gF) with
    | .inl e => some (.inl (([], e, ()), ((f.1, f.2.1, f.2.2, ()), ())))
    | .inr f' => F (m, l, (l.length : Int), ((i + 1 : Nat) : Int), f'.1, f'.2.1, f'.2.2) := by
    have hA := Mz n hn hn2 (o := (l.getD i (0, 0, 0)).1) (A := (l.getD i (0, 0, 0)).2.1) (B := (l.getD i (0, 0, 0)).2.2) hr (hf.s i)
    rw [hA, ae]
    have e0 : ((l.getD i (0, 0, 0)).1, (l.getD i (0, 0, 0)).2.1, (l.getD i (0, 0, 0)).2.2) = l.getD i (0, 0, 0) := rfl
    rw [e0]
    generalize iH (l.getD i (0, 0, 0)) (f.1.getD i ByteArray.empty) = te at key ⊢
    obtain ⟨t, e⟩ := te
    simp only
    by_cases he : e = 0
    ·subst he
     rw [if_neg (by decide), if_neg (by decide)]
     unfold yU
     rw [di (by omega)]
     by_cases h19 : (l.getD i (0, 0, 0)).1 = 19
     ·have hj := hjw (.inl h19)
      have nx : fg l i = [dr l i] := by unfold fg; rw [if_pos h19]
      rw [nx, h19, if_neg (by decide), ae]
      simp only
      rw [di (by omega), hj, if_pos (show ((19 : Int) == 19) = true from rfl)]
      exact ms n hf (hjx (.inl h19)) t fun a b c d e => F (m, l, (l.length : Int), ((i + 1 : Nat) : Int), c, d, e)
     ·rw [if_pos (aj.2 h19)]
      have b19 : ¬ ((l.getD i (0, 0, 0)).1 == 19) = true := by simpa only [ag] using h19
      by_cases h25 : (l.getD i (0, 0, 0)).1 = 25
      ·have nx : fg l i = [] := by unfold fg dd; rw [h25]; rfl
       rw [nx, h25, if_neg (by decide), ae]
       rfl
      ·have hs1 := hF.succ hi h25
       rw [if_pos (aj.2 h25), ms n hf hs1 t fun a b c d e => some ((i : Int), t, c, d, e, (l.getD i (0, 0, 0)).1, (l.getD i (0, 0, 0)).2.1, (l.getD i (0, 0, 0)).2.2), ae]
       simp only
       rw [di (by omega), if_neg b19]
       have hf1 := EG hf (i + 1) key
       by_cases h20 : (l.getD i (0, 0, 0)).1 = 20
       ·have nx : fg l i = [i + 1, dr l i] := by unfold fg; rw [if_neg h19, if_pos h20]
        rw [nx, hjw (.inr h20), h20, if_pos (show ((20 : Int) == 20) = true from rfl)]
        exact ms n hf1 (hjx (.inr h20)) t fun a b c d e => F (m, l, (l.length : Int), ((i + 1 : Nat) : Int), c, d, e)
       ·have nx : fg l i = [i + 1] := by unfold fg; rw [if_neg h19, if_neg h20, if_neg h25]
        rw [nx, if_neg (show ¬ ((l.getD i (0, 0, 0)).1 == 20) = true by simpa only [ag] using h20)]
        rfl
    ·rw [if_pos (aj.2 he), if_pos (aj.2 he), if_pos he]
   by_cases h22 : (l.getD i (0, 0, 0)).1 = 22
   ·obtain ⟨j, j1, j2⟩ := hm h22
    rw [if_pos (show ((l.getD i (0, 0, 0)).1 == 22) = true by simpa only [ag] using h22), if_pos (dc (by rw [hF.nest.hm]; exact hi))]
    simp only [j1, ai]
    rw [if_pos (dc (show j < f.1.length by omega))]
    rcases bF (B7 (f.1.getD j ByteArray.empty) (f.1.getD i ByteArray.empty)) with h3 | h3
    ·rw [if_pos (show dd l i = 22 ∧ B7 (f.1.getD j ByteArray.empty) (f.1.getD i ByteArray.empty) = true from ⟨h22, h3⟩)]
     unfold B7 at h3
     rw [h3, if_pos rfl]
     rfl
    ·rw [if_neg (show ¬ (dd l i = 22 ∧ B7 (f.1.getD j ByteArray.empty) (f.1.getD i ByteArray.empty) = true) from fun h => by rw [h3] at h; cases h.2)]
     unfold B7 at h3
     rw [h3, if_neg (by decide)]
     exact tail
   ·rw [if_neg (show ¬ ((l.getD i (0, 0, 0)).1 == 22) = true by simpa only [ag] using h22), if_neg (fun h => h22 h.1)]
    exact tail
 ·rw [h1, if_pos (show (!false) = true from rfl), if_pos rfl]
  rfl
def iM (l : List cY) (m : List Int) : Nat → Nat → gF → Int ⊕ gF
 | 0, _, f => .inr f
 | r + 1, i, f => match f4 l m i f with
  | .inl e => .inl e
  | .inr f => iM l m r (i + 1) f
theorem wB (n : Nat) (hn : 3 < n) (hn2 : n < 1000000) {l : List cY} {m h : List Int} (hF : Fine l m h) : ∀ (f i : Nat) {s : gF}, FlowI l s → i ≤ l.length → l.length < f + i → ∃ a b c d e,
  it (fun F => (dI (C_ q_)) (mL n F)) f (m, l, (l.length : Int), (i : Int), s.1, s.2.1, s.2.2) = match iM l m (l.length - i) i s with
   | .inl z => some (.inl (([], z, ()), ((a, b, c, ()), ())))
   | .inr s' => some (.inr ((), ((s'.1, d, e, ()), ())))
 | 0, i, s, hs, hi, hf => by omega
 | f + 1, i, s, hs, hi, hf => by
  have ih := fun {s : gF} => wB n hn hn2 hF f (i + 1) (s := s)
  show ∃ a b c d e, mL n (it _ f) m l (l.length : Int) (i : Int) s.1 s.2.1 s.2.2 = _
  generalize it (fun F => (dI (C_ q_)) (mL n F)) f = F at ih ⊢
  rcases am i l.length with hlt | hge
  ·rw [FC n hn hn2 hF F hs hlt, show l.length - i = (l.length - (i + 1)) + 1 by omega]
   simp only [iM]
   cases hq : f4 l m i s with
   | inl e => exact ⟨s.1, s.2.1, s.2.2, [], [], rfl⟩
   | inr s' => exact ih (FB hs hq) (by omega) (by omega)
  ·have : i = l.length := by omega
   subst this
   unfold mL
   rw [if_neg (by simp), aZ]
   exact ⟨[], [], [], s.2.1, s.2.2, rfl⟩
def kc (l : List cY) : gF := (List.replicate l.length ByteArray.empty, (List.replicate l.length false).set 0 true, List.replicate l.length false)
theorem MA (l : List cY) : FlowI l (kc l) := ⟨by simp [kc], by simp [kc], by simp [kc], fun k => by
 unfold kc
 simp only [aq, bV]
 split <;> exact ao _⟩
def fK (l : List cY) : Int := if eX l ≠ 0 then eX l else match iM l (dt l).1 l.length 0 (kc l) with
 | .inl e => e
 | .inr _ => 0
theorem xU (n : Nat) (l : List cY) (hl : l.length < n) (hn : n < 1000000) : gS n l = some ((dt l).1, (dt l).2.2) := by
 unfold gS
 rw [vy n l hl hn]
 rfl
theorem B8 (n : Nat) (l : List cY) (hl : l.length < n) (hn3 : 3 < n) (hn : n < 1000000) : ∃ o, yV n l = some (o, fK l) := by
 unfold yV fK
 rw [EA n l hl hn, ae]
 by_cases hw : eX l = 0
 ·have hF := nJ hw
  have hI := MA l
  obtain ⟨l1, l2⟩ := hF.len
  obtain ⟨a, b, c, d, e, h⟩ := wB n hn3 hn hF n 0 hI (ao _) (by omega)
  have c1 : (decide (0 ≤ (l.length : Int)) && ((l.length : Int) == (l.length : Int)) && decide ((l.length : Int) * (16 : Int) ≤ 140737488355328) && decide (1 ≤ 16)) = true := by simp; omega
  have c2 : (decide (0 ≤ (l.length : Int)) && ((l.length : Int) == (l.length : Int)) && decide ((l.length : Int) * (1 : Int) ≤ 140737488355328) && decide (1 ≤ 1)) = true := by simp; omega
  rw [if_neg (fun h => (aj.1 h) hw), xU n l hl hn, ae, if_pos c1, if_pos c2, if_pos c2, if_neg (show ¬ (eX l ≠ 0) from fun h => h hw), ai]
  have hX : FlowI l (List.replicate l.length ByteArray.empty, List.replicate l.length false, List.replicate l.length false) := ⟨by simp, by simp, by simp, hI.s⟩
  have e0 : gM 0 (ByteArray.mk #[]) (List.replicate l.length ByteArray.empty, List.replicate l.length false, List.replicate l.length false) = kc l := by
   unfold gM kc
   have e1 : (ByteArray.mk #[]) = ByteArray.empty := rfl
   have e2 : (List.replicate l.length false).getD 0 false = false := by
    simp only [aq, bV]
    split <;> rfl
   simp only [e1, List.set_replicate_self, e2]
   rfl
  have h0 := ms n hX l1 (ByteArray.mk #[]) fun a b c d e => (rO n ((dt l).1, l, (l.length : Int), 0, c, d, e)).bind fun y4 => ((Sum.elim (fun (z5 : (((List ByteArray) × Int × Unit) × (((List ByteArray) × (List Bool) × (List Bool) × Unit) × Unit))) => (some (z5.1.1, z5.1.2.1))) (fun (z6 : (Unit × (((List ByteArray) × (List Bool) × (List Bool) × Unit) × Unit))) => (some (z6.2.1.1, (0 : Int))))) y4)
  rw [e0] at h0
  unfold rO at h0 ⊢
  rw [bv] at h
  refine Exists.imp (fun o ho => h0.trans ho) ?_
  rw [show ((0 : Nat) : Int) = 0 from rfl] at h
  rw [h]
  cases hq : iM l (dt l).1 l.length 0 (kc l) with
  | inl z => exact ⟨[], rfl⟩
  | inr s' => exact ⟨s'.1, rfl⟩
 ·rw [if_pos (by simp only [aj, ne_eq]; exact hw), if_pos hw]
  exact ⟨_, rfl⟩
theorem set_same {c : List Bool} {q : Nat} {b : Bool} (h : c.getD q false = b) (hq : q < c.length) : c.set q b = c := by
 rw [aq, au hq, bs] at h
 subst h
 exact List.set_getElem_self hq
theorem vz {A B : Int} (h : dH (21, A, B) = true) : 1 ≤ A ∧ A ≤ 1000 := by
 have h1 := (fx 0 (21, A, B)).symm.trans (M7 0 A B)
 rw [h] at h1
 by_cases h2 : 1 ≤ A
 ·by_cases h3 : A ≤ 1000
  ·exact ⟨h2, h3⟩
  ·rw [if_pos (af h2), if_neg (by simpa using h3)] at h1
   cases h1
 ·rw [if_neg (by simpa using h2)] at h1
  cases h1
def dn (a b : Int) : Int := if 1048577 < a + b then 1048577 else a + b
def f7 (w A : Int) : Int := if dn w 1 = 1048577 then 1048577 else dn 1 (A * dn w 1)
def mN (m : List Int) (i : Nat) : Nat := (m.getD i 0).toNat
def eo (W : Nat → Nat → Int) (l : List cY) (m : List Int) (i : Nat) : Int := if dd l i = 21 then f7 (W (i + 1) (mN m i)) (dL l i) else 1
def eF (l : List cY) (m : List Int) (i : Nat) : List Nat := if dd l i = 21 then [mN m i + 1] else if dd l i = 19 then [dr l i] else if dd l i = 20 then [dr l i, i + 1] else [i + 1]
def er (b : Int → Int → Int) (D : Nat → Int) (k : Nat) (v : Int) : Nat → Int := fun j => if j = k then (if D k = -1 then v else b (D k) v) else D j
def ej (b : Int → Int → Int) (W : Nat → Nat → Int) (l : List cY) (m : List Int) (i : Nat) (D : Nat → Int) : Nat → Int :=
 if D i = -1 then D else (eF l m i).foldl (fun g k => er b g k (dn (D i) (eo W l m i))) D
def eG (b : Int → Int → Int) (W : Nat → Nat → Int) (l : List cY) (m : List Int) : Nat → Nat → (Nat → Int) → Nat → Int
 | 0, _, D => D
 | r + 1, i, D => eG b W l m r (i + 1) (ej b W l m i D)
def fh (a : Nat) : Nat → Int := fun j => if j = a then 0 else -1
def dX (b : Int → Int → Int) (l : List cY) (m : List Int) : Nat → Nat → Nat → Int
 | 0, _, _ => 0
 | f + 1, a, z => eG b (dX b l m f) l m (z - a) a (fh a) z
structure Reg (l : List cY) (m : List Int) (a z : Nat) : Prop where
 le : a ≤ z
 lt : z < l.length
 loop : ∀ i, a ≤ i → i < z → dw l i = true → ∃ j : Nat, m.getD i 0 = (j : Int) ∧ i < j ∧ j < z
 jump : ∀ i, a ≤ i → i < z → dd l i = 19 ∨ dd l i = 20 → dr l i ≤ z
theorem Fine.reg {l : List cY} {m h : List Int} (hF : Fine l m h) {p : Nat} (hp : p < l.length) (ho : dw l p = true) : Reg l m (p + 1) (mN m p) := by
 obtain ⟨j, j1, j2, j3⟩ := hF.nest.open_ p hp ho
 have hj : mN m p = j := by unfold mN; rw [j1]; rfl
 rw [hj]
 refine ⟨by omega, j3, fun i h1 h2 h3 => ?_, fun i h1 h2 h3 => ?_⟩
 ·obtain ⟨q, q1, q2, q3⟩ := hF.nest.open_ i (by omega) h3
  obtain ⟨q', e1, e2⟩ := hF.nest.cross p i j (by omega) h2 hp ho h3 j1
  exact ⟨q, q1, q2, by omega⟩
 ·obtain ⟨k1, k2⟩ := hF.jump (show i < l.length by omega) h3
  rcases am j (dr l i) with hlt | hge
  ·exfalso
   have e1 : enc l m p i = true := by
    unfold enc
    rw [ho, j1]
    simp; omega
   have e2 : enc l m p (dr l i) = false := by
    unfold enc
    rw [ho, j1]
    simp; omega
   rcases nI l m i with hh | ⟨q, hh⟩
   ·rw [oO hh p] at e1; cases e1
   ·obtain ⟨_, _, x3⟩ := jj hF.nest (show i < l.length by omega) hh
    obtain ⟨_, _, y3⟩ := jj hF.nest k1 (k2.trans hh)
    rw [y3 p, ← x3 p, e1] at e2
    cases e2
  ·exact hge
theorem Fine.all {l : List cY} {m h : List Int} (hF : Fine l m h) : Reg l m 0 (l.length - 1) := by
 obtain ⟨l1, l2⟩ := hF.len
 refine ⟨ao _, by omega, fun i h1 h2 h3 => ?_, fun i h1 h2 h3 => ?_⟩
 ·obtain ⟨j, j1, j2, j3, j4, j5⟩ := hF.closed.op_ i (by omega) h3
  refine ⟨j, j1, j2, ?_⟩
  have : j ≠ l.length - 1 := fun e => by
   subst e
   have h5 := hF.last
   have h6 := Gt (l.getD i (0, 0, 0))
   unfold dd at h5
   rw [j4] at h5
   omega
  omega
 ·have := (hF.jump (show i < l.length by omega) h3).1
  omega
def StepsI (v : Int) : Prop := v = -1 ∨ (0 ≤ v ∧ v ≤ 1048577)
theorem fy {a b : Int} (h1 : 0 ≤ a) (h2 : 0 ≤ b) : 0 ≤ dn a b ∧ dn a b ≤ 1048577 := by
 unfold dn
 split <;> omega
theorem xV {w A : Int} (hw : StepsI w) (hA : 1 ≤ A ∧ A ≤ 1000) : 0 ≤ f7 w A ∧ f7 w A ≤ 1048577 := by
 have h1 : 0 ≤ dn w 1 ∧ dn w 1 ≤ 1048577 := by
  rcases hw with rfl | h
  ·decide
  ·exact fy h.1 (by decide)
 unfold f7
 split
 ·omega
 ·exact fy (by decide) (cv (by omega) h1.1)
def wC (b : Int → Int → Int) : Prop := ∀ x y, b x y = x ∨ b x y = y
theorem qT {b : Int → Int → Int} (hb : wC b) {D : Nat → Int} (hD : ∀ k, StepsI (D k)) (k : Nat) {v : Int} (hv : 0 ≤ v ∧ v ≤ 1048577) : ∀ j, StepsI (er b D k v j) := by
 intro j
 unfold er
 split
 ·split
  ·exact .inr hv
  ·rcases hb (D k) v with h | h
   ·rw [h]; exact hD k
   ·rw [h]; exact .inr hv
 ·exact hD j
theorem Gu {b : Int → Int → Int} (hb : wC b) {v : Int} (hv : 0 ≤ v ∧ v ≤ 1048577) : ∀ (ks : List Nat) {D : Nat → Int}, (∀ k, StepsI (D k)) → ∀ k, StepsI (ks.foldl (fun g k => er b g k v) D k)
 | [], D, hD => hD
 | k :: ks, D, hD => Gu hb hv ks (qT hb hD k hv)
theorem il {W : Nat → Nat → Int} {l : List cY} {m : List Int} {i : Nat} (hr : dH (l.getD i (0, 0, 0)) = true) (hW : dd l i = 21 → StepsI (W (i + 1) (mN m i))) : 0 ≤ eo W l m i ∧ eo W l m i ≤ 1048577 := by
 unfold eo
 split
 ·rename_i h
  refine xV (hW h) ?_
  unfold dL
  unfold dd at h
  generalize l.getD i (0, 0, 0) = x at *
  obtain ⟨o, A, B⟩ := x
  simp only at h
  subst h
  exact vz hr
 ·omega
theorem fL {b : Int → Int → Int} (hb : wC b) {W : Nat → Nat → Int} {l : List cY} {m : List Int} {i : Nat} {D : Nat → Int} (hD : ∀ k, StepsI (D k)) (hr : dH (l.getD i (0, 0, 0)) = true) (hW : dd l i = 21 → StepsI (W (i + 1) (mN m i))) : ∀ k, StepsI (ej b W l m i D k) := by
 unfold ej
 split
 ·exact hD
 ·rename_i h
  have hi : 0 ≤ D i := by
   rcases hD i with h1 | h1
   ·exact absurd h1 h
   ·exact h1.1
  exact Gu hb (fy hi (il hr hW).1) _ hD
theorem vA {b : Int → Int → Int} (hb : wC b) {W : Nat → Nat → Int} {l : List cY} {m : List Int} (hr : ∀ i, i < l.length → dH (l.getD i (0, 0, 0)) = true) : ∀ (r i : Nat) {D : Nat → Int}, (∀ k, StepsI (D k)) → r + i ≤ l.length → (∀ k, i ≤ k → k < r + i → dd l k = 21 → StepsI (W (k + 1) (mN m k))) → ∀ k, StepsI (eG b W l m r i D k)
 | 0, i, D, hD, hi, hW => hD
 | r + 1, i, D, hD, hi, hW => vA hb hr r (i + 1) (fL hb hD (hr i (by omega)) (hW i (ar _) (by omega))) (by omega) fun k h1 h2 => hW k (by omega) (by omega)
theorem gy (a : Nat) : ∀ k, StepsI (fh a k) := fun k => by
 unfold fh
 split
 ·exact .inr (by decide)
 ·exact .inl rfl
theorem ju {b : Int → Int → Int} (hb : wC b) {l : List cY} {m h : List Int} (hF : Fine l m h) : ∀ (f : Nat) {a z : Nat}, Reg l m a z → StepsI (dX b l m f a z)
 | 0, a, z, hR => .inr (by show 0 ≤ (0 : Int) ∧ (0 : Int) ≤ 1048577; decide)
 | f + 1, a, z, hR => by
  have h1 := hR.le
  have h2 := hR.lt
  exact vA hb (fun i hi => hF.right hi) (z - a) a (gy a) (by omega) (fun k k1 k2 k3 => ju hb hF f (hF.reg (by omega) (isOpen_iff.2 (.inl k3)))) z
def bM (x y : Int) : Int := if y > x then y else x
def bL (x y : Int) : Int := if y < x then y else x
theorem eB : wC bM := fun x y => by
 unfold bM
 split
 ·exact .inr rfl
 ·exact .inl rfl
theorem uU : wC bL := fun x y => by
 unfold bL
 split
 ·exact .inr rfl
 ·exact .inl rfl
theorem im (n : Nat) {a b : Int} (h1 : -1 ≤ a) (h2 : a ≤ 1048577) (h3 : -1 ≤ b) (h4 : b ≤ 1048577) : d7 n a b = some (dn a b) := by
 unfold d7 dn
 rw [dA (by omega) (by omega)]
structure LD (d : List Int) (D : Nat → Int) (a z : Nat) : Prop where
 len : d.length = z - a + 1
 at_ : ∀ k, a ≤ k → k ≤ z → d.getD (k - a) 0 = D k
theorem LD.put {d : List Int} {D : Nat → Int} {a z : Nat} (h : LD d D a z) (b : Int → Int → Int) {k : Nat} (hk : a ≤ k) (hk2 : k ≤ z) (v : Int) : LD (d.set (k - a) (if d.getD (k - a) 0 = -1 then v else b (d.getD (k - a) 0) v)) (er b D k v) a z := by
 have hl := h.len
 refine ⟨by rw [aP, hl], fun j h1 h2 => ?_⟩
 rw [eb (by omega), h.at_ k hk hk2]
 unfold er
 by_cases e : j = k
 ·subst e
  rw [if_pos rfl, if_pos rfl]
 ·rw [if_neg (by omega), if_neg e, h.at_ j h1 h2]
theorem EI (n : Nat) (x y : Int) : e7 n x y = some (bM x y) := rfl
theorem mW (n : Nat) {d : List Int} {k : Nat} (hk : k < d.length) (v : Int) {R : Type} (K : List Int → Option R) :
  (if (decide (0 ≤ (k : Int)) && decide ((k : Int) < (d.length : Int))) = true then (if (d.getD k 0 != (-1)) = true then ((e7 n (d.getD k 0) v).bind fun y => if (decide (0 ≤ (k : Int)) && decide ((k : Int) < (d.length : Int))) = true then K (d.set k y) else none) else (if (decide (0 ≤ (k : Int)) && decide ((k : Int) < (d.length : Int))) = true then K (d.set k v) else none)) else none) = K (d.set k (if d.getD k 0 = -1 then v else bM (d.getD k 0) v)) := by
 simp only [if_pos (dc hk), EI, ae]
 by_cases h : d.getD k 0 = -1
 ·rw [if_neg (fun h2 => (aj.1 h2) h), if_pos h]
 ·rw [if_pos (aj.2 h), if_neg h]
theorem nK (n : Nat) (W : ((((List (Int × (Int × Int))) × (List Int)) × Int × Int × Unit) × Unit) → Option Int) {l : List cY} {m : List Int} (hl : l.length < 1000000) (hm : m.length = l.length) {i : Nat} (hi : i < l.length) {w : Int} (hj : m.getD i 0 = ((mN m i : Nat) : Int)) (hW : W (((l, m), ((i + 1 : Nat) : Int), ((mN m i : Nat) : Int), ()), ()) = some w) (hw : StepsI w) (hA : 1 ≤ dL l i ∧ dL l i ≤ 1000) : fd n W (l, m) (i : Int) = some (f7 w (dL l i)) := by
 unfold fd f7
 simp only [ai, di (show i < 1000000 by omega), if_pos (dc hi), if_pos (dc (show i < m.length by omega)), hj, hW, ae]
 have hw2 : -1 ≤ w ∧ w ≤ 1048577 := by rcases hw with rfl | h <;> omega
 rw [im n hw2.1 hw2.2 (by decide) (by decide), ae]
 have h1 : 0 ≤ dn w 1 ∧ dn w 1 ≤ 1048577 := by
  rcases hw with rfl | h
  ·decide
  ·exact fy h.1 (by decide)
 generalize dn w 1 = x at h1 ⊢
 by_cases hx : x = 1048577
 ·rw [if_pos (by simpa only [ag] using hx), if_pos hx]
 ·rw [if_neg (by simpa only [ag] using hx), if_neg hx]
  unfold dL at hA ⊢
  generalize (l.getD i (0, 0, 0)).2.1 = A at hA ⊢
  have hb : 0 ≤ A * x ∧ A * x ≤ 1000 * 1048577 := ⟨cv (by omega) h1.1, Int.mul_le_mul hA.2 h1.2 h1.1 (by decide)⟩
  rw [dA (e := A * x) (by omega) (by omega), dA (by omega) (by omega)]
  rfl
theorem Nx (n : Nat) (W : ((((List (Int × (Int × Int))) × (List Int)) × Int × Int × Unit) × Unit) → Option Int) {l : List cY} {m h : List Int} (hF : Fine l m h) {Wp : Nat → Nat → Int} {a z : Nat} (hR : Reg l m a z) {i : Nat} (hi : a ≤ i) (hi2 : i < z) (hW : dd l i = 21 → W (((l, m), ((i + 1 : Nat) : Int), ((mN m i : Nat) : Int), ()), ()) = some (Wp (i + 1) (mN m i)) ∧ StepsI (Wp (i + 1) (mN m i))) {d : List Int} {D : Nat → Int} (hL : LD d D a z) (hD : ∀ k, StepsI (D k)) (zz : Int) :
  ∃ d', LD d' (ej bM Wp l m i D) a z ∧ yW n W zz (i : Int) l m (a : Int) d = some (zz, (i : Int), l, m, (a : Int), d') := by
 obtain ⟨l1, l2⟩ := hF.len
 have hlt := hR.lt
 have hdl := hL.len
 have hat := hL.at_ i hi (by omega)
 have hr := hF.right (show i < l.length by omega)
 have hm := hF.nest.hm
 unfold yW
 simp only [gx hi (show i < 1000000 by omega), ai, di (show i < 1000000 by omega), if_pos (dc (show i < l.length by omega)), if_pos (dc (show i < m.length by omega)), if_pos (dc (show i - a < d.length by omega)), gx (show a ≤ i + 1 by omega) (show i + 1 < 1000000 by omega), hat]
 by_cases hn : D i = -1
 ·refine ⟨d, ?_, ?_⟩
  ·unfold ej
   rw [if_pos hn]
   exact hL
  ·rw [if_pos (by simpa only [ag] using hn)]
 ·rw [if_neg (by simpa only [ag] using hn)]
  have hDi : 0 ≤ D i ∧ D i ≤ 1048577 := by
   rcases hD i with h1 | h1
   ·exact absurd h1 hn
   ·exact h1
  by_cases h21 : (l.getD i (0, 0, 0)).1 = 21
  ·rw [if_pos (show ((l.getD i (0, 0, 0)).1 == 21) = true by simpa only [ag] using h21)]
   obtain ⟨j, j1, j2, j3⟩ := hR.loop i hi hi2 (isOpen_iff.2 (.inl h21))
   have hj : mN m i = j := by unfold mN; rw [j1]; rfl
   have hA : 1 ≤ dL l i ∧ dL l i ≤ 1000 := by
    unfold dL
    generalize l.getD i (0, 0, 0) = x at *
    obtain ⟨o, A, B⟩ := x
    simp only at h21
    subst h21
    exact vz hr
   obtain ⟨w1, w2⟩ := hW h21
   have hc : eo Wp l m i = f7 (Wp (i + 1) (mN m i)) (dL l i) := by unfold eo; rw [if_pos h21]
   have hlo := xV w2 hA
   rw [nK n W (by omega) hm (by omega) (by rw [hj]; exact j1) w1 w2 hA, ae, ← hc]
   rw [← hc] at hlo
   rw [im n (by omega) hDi.2 (by omega) hlo.2, ae]
   simp only [j1, di (show j < 1000000 by omega), gx (show a ≤ j + 1 by omega) (show j + 1 < 1000000 by omega), ai]
   refine ⟨_, ?_, mW n (show j + 1 - a < d.length by omega) (dn (D i) (eo Wp l m i)) fun d' => some (zz, (i : Int), l, m, (a : Int), d')⟩
   have := hL.put bM (show a ≤ j + 1 by omega) (show j + 1 ≤ z by omega) (dn (D i) (eo Wp l m i))
   unfold ej eF
   rw [if_neg hn, if_pos h21, hj]
   exact this
  ·rw [if_neg (show ¬ ((l.getD i (0, 0, 0)).1 == 21) = true by simpa only [ag] using h21)]
   have hc : eo Wp l m i = 1 := by unfold eo; rw [if_neg h21]
   rw [im n (by omega) hDi.2 (by decide) (by decide)]
   simp only [ae]
   by_cases h19 : (l.getD i (0, 0, 0)).1 = 19
   ·rw [if_pos (show ((l.getD i (0, 0, 0)).1 == 19) = true by simpa only [ag] using h19)]
    have hjt := hR.jump i hi hi2 (.inl h19)
    have hji : i < dr l i := by unfold dr; omega
    simp only [nT (show l.length < 1000000 by omega) (show i < l.length by omega) hr (.inl h19), gx (show a ≤ dr l i by omega) (show dr l i < 1000000 by omega), ai]
    refine ⟨_, ?_, mW n (show dr l i - a < d.length by omega) (dn (D i) 1) fun d' => some (zz, (i : Int), l, m, (a : Int), d')⟩
    have := hL.put bM (show a ≤ dr l i by omega) hjt (dn (D i) 1)
    unfold ej eF
    rw [if_neg hn, if_neg h21, if_pos h19, hc]
    exact this
   ·rw [if_neg (show ¬ ((l.getD i (0, 0, 0)).1 == 19) = true by simpa only [ag] using h19)]
    by_cases h20 : (l.getD i (0, 0, 0)).1 = 20
    ·rw [if_pos (show ((l.getD i (0, 0, 0)).1 == 20) = true by simpa only [ag] using h20)]
     have hjt := hR.jump i hi hi2 (.inr h20)
     have hji : i < dr l i := by unfold dr; omega
     simp only [nT (show l.length < 1000000 by omega) (show i < l.length by omega) hr (.inr h20), gx (show a ≤ dr l i by omega) (show dr l i < 1000000 by omega), ai]
     have h1 := hL.put bM (show a ≤ dr l i by omega) hjt (dn (D i) 1)
     have h2 := h1.put bM (show a ≤ i + 1 by omega) (show i + 1 ≤ z by omega) (dn (D i) 1)
     refine ⟨_, ?_, (mW n (show dr l i - a < d.length by omega) (dn (D i) 1) fun d1 => (if (decide (0 ≤ ((i + 1 - a : Nat) : Int)) && decide (((i + 1 - a : Nat) : Int) < (d1.length : Int))) = true then (if (d1.getD (i + 1 - a) 0 != (-1)) = true then ((e7 n (d1.getD (i + 1 - a) 0) (dn (D i) 1)).bind fun y => if (decide (0 ≤ ((i + 1 - a : Nat) : Int)) && decide (((i + 1 - a : Nat) : Int) < (d1.length : Int))) = true then some (zz, (i : Int), l, m, (a : Int), d1.set (i + 1 - a) y) else none) else (if (decide (0 ≤ ((i + 1 - a : Nat) : Int)) && decide (((i + 1 - a : Nat) : Int) < (d1.length : Int))) = true then some (zz, (i : Int), l, m, (a : Int), d1.set (i + 1 - a) (dn (D i) 1)) else none)) else none)).trans (mW n (by rw [aP]; omega) (dn (D i) 1) fun d' => some (zz, (i : Int), l, m, (a : Int), d'))⟩
     unfold ej eF
     rw [if_neg hn, if_neg h21, if_neg h19, if_pos h20, hc]
     exact h2
    ·rw [if_neg (show ¬ ((l.getD i (0, 0, 0)).1 == 20) = true by simpa only [ag] using h20)]
     refine ⟨_, ?_, mW n (show i + 1 - a < d.length by omega) (dn (D i) 1) fun d' => some (zz, (i : Int), l, m, (a : Int), d')⟩
     have := hL.put bM (show a ≤ i + 1 by omega) (show i + 1 ≤ z by omega) (dn (D i) 1)
     unfold ej eF
     rw [if_neg hn, if_neg h21, if_neg h19, if_neg h20, hc]
     exact this
theorem uV (n : Nat) (x y : Int) : d9 n x y = some (bM x y) := rfl
theorem mX (n : Nat) {d : List Int} {k : Nat} (hk : k < d.length) (v : Int) {R : Type} (K : List Int → Option R) :
  (if (decide (0 ≤ (k : Int)) && decide ((k : Int) < (d.length : Int))) = true then (if (d.getD k 0 != (-1)) = true then ((d9 n (d.getD k 0) v).bind fun y => if (decide (0 ≤ (k : Int)) && decide ((k : Int) < (d.length : Int))) = true then K (d.set k y) else none) else (if (decide (0 ≤ (k : Int)) && decide ((k : Int) < (d.length : Int))) = true then K (d.set k v) else none)) else none) = K (d.set k (if d.getD k 0 = -1 then v else bM (d.getD k 0) v)) := by
 simp only [if_pos (dc hk), uV, ae]
 by_cases h : d.getD k 0 = -1
 ·rw [if_neg (fun h2 => (aj.1 h2) h), if_pos h]
 ·rw [if_pos (aj.2 h), if_neg h]
theorem p6 (n : Nat) (W : ((((List (Int × (Int × Int))) × (List Int)) × Int × Int × Unit) × Unit) → Option Int) {l : List cY} {m : List Int} (hl : l.length < 1000000) (hm : m.length = l.length) {i : Nat} (hi : i < l.length) {w : Int} (hj : m.getD i 0 = ((mN m i : Nat) : Int)) (hW : W (((l, m), ((i + 1 : Nat) : Int), ((mN m i : Nat) : Int), ()), ()) = some w) (hw : StepsI w) (hA : 1 ≤ dL l i ∧ dL l i ≤ 1000) : fI n W (l, m) (i : Int) = some (f7 w (dL l i)) := by
 unfold fI f7
 simp only [ai, di (show i < 1000000 by omega), if_pos (dc hi), if_pos (dc (show i < m.length by omega)), hj, hW, ae]
 have hw2 : -1 ≤ w ∧ w ≤ 1048577 := by rcases hw with rfl | h <;> omega
 rw [im n hw2.1 hw2.2 (by decide) (by decide), ae]
 have h1 : 0 ≤ dn w 1 ∧ dn w 1 ≤ 1048577 := by
  rcases hw with rfl | h
  ·decide
  ·exact fy h.1 (by decide)
 generalize dn w 1 = x at h1 ⊢
 by_cases hx : x = 1048577
 ·rw [if_pos (by simpa only [ag] using hx), if_pos hx]
 ·rw [if_neg (by simpa only [ag] using hx), if_neg hx]
  unfold dL at hA ⊢
  generalize (l.getD i (0, 0, 0)).2.1 = A at hA ⊢
  have hb : 0 ≤ A * x ∧ A * x ≤ 1000 * 1048577 := ⟨cv (by omega) h1.1, Int.mul_le_mul hA.2 h1.2 h1.1 (by decide)⟩
  rw [dA (e := A * x) (by omega) (by omega), dA (by omega) (by omega)]
  rfl
theorem Ny (n : Nat) (W : ((((List (Int × (Int × Int))) × (List Int)) × Int × Int × Unit) × Unit) → Option Int) {l : List cY} {m h : List Int} (hF : Fine l m h) {Wp : Nat → Nat → Int} {a z : Nat} (hR : Reg l m a z) {i : Nat} (hi : a ≤ i) (hi2 : i < z) (hW : dd l i = 21 → W (((l, m), ((i + 1 : Nat) : Int), ((mN m i : Nat) : Int), ()), ()) = some (Wp (i + 1) (mN m i)) ∧ StepsI (Wp (i + 1) (mN m i))) {d : List Int} {D : Nat → Int} (hL : LD d D a z) (hD : ∀ k, StepsI (D k)) (zz : Int) :
  ∃ d', LD d' (ej bM Wp l m i D) a z ∧ y0 n W zz (i : Int) l m (a : Int) d = some (zz, (i : Int), l, m, (a : Int), d') := by
 obtain ⟨l1, l2⟩ := hF.len
 have hlt := hR.lt
 have hdl := hL.len
 have hat := hL.at_ i hi (by omega)
 have hr := hF.right (show i < l.length by omega)
 have hm := hF.nest.hm
 unfold y0
 simp only [gx hi (show i < 1000000 by omega), ai, di (show i < 1000000 by omega), if_pos (dc (show i < l.length by omega)), if_pos (dc (show i < m.length by omega)), if_pos (dc (show i - a < d.length by omega)), gx (show a ≤ i + 1 by omega) (show i + 1 < 1000000 by omega), hat]
 by_cases hn : D i = -1
 ·refine ⟨d, ?_, ?_⟩
  ·unfold ej
   rw [if_pos hn]
   exact hL
  ·rw [if_pos (by simpa only [ag] using hn)]
 ·rw [if_neg (by simpa only [ag] using hn)]
  have hDi : 0 ≤ D i ∧ D i ≤ 1048577 := by
   rcases hD i with h1 | h1
   ·exact absurd h1 hn
   ·exact h1
  by_cases h21 : (l.getD i (0, 0, 0)).1 = 21
  ·rw [if_pos (show ((l.getD i (0, 0, 0)).1 == 21) = true by simpa only [ag] using h21)]
   obtain ⟨j, j1, j2, j3⟩ := hR.loop i hi hi2 (isOpen_iff.2 (.inl h21))
   have hj : mN m i = j := by unfold mN; rw [j1]; rfl
   have hA : 1 ≤ dL l i ∧ dL l i ≤ 1000 := by
    unfold dL
    generalize l.getD i (0, 0, 0) = x at *
    obtain ⟨o, A, B⟩ := x
    simp only at h21
    subst h21
    exact vz hr
   obtain ⟨w1, w2⟩ := hW h21
   have hc : eo Wp l m i = f7 (Wp (i + 1) (mN m i)) (dL l i) := by unfold eo; rw [if_pos h21]
   have hlo := xV w2 hA
   rw [p6 n W (by omega) hm (by omega) (by rw [hj]; exact j1) w1 w2 hA, ae, ← hc]
   rw [← hc] at hlo
   rw [im n (by omega) hDi.2 (by omega) hlo.2, ae]
   simp only [j1, di (show j < 1000000 by omega), gx (show a ≤ j + 1 by omega) (show j + 1 < 1000000 by omega), ai]
   refine ⟨_, ?_, mX n (show j + 1 - a < d.length by omega) (dn (D i) (eo Wp l m i)) fun d' => some (zz, (i : Int), l, m, (a : Int), d')⟩
   have := hL.put bM (show a ≤ j + 1 by omega) (show j + 1 ≤ z by omega) (dn (D i) (eo Wp l m i))
   unfold ej eF
   rw [if_neg hn, if_pos h21, hj]
   exact this
  ·rw [if_neg (show ¬ ((l.getD i (0, 0, 0)).1 == 21) = true by simpa only [ag] using h21)]
   have hc : eo Wp l m i = 1 := by unfold eo; rw [if_neg h21]
   rw [im n (by omega) hDi.2 (by decide) (by decide)]
   simp only [ae]
   by_cases h19 : (l.getD i (0, 0, 0)).1 = 19
   ·rw [if_pos (show ((l.getD i (0, 0, 0)).1 == 19) = true by simpa only [ag] using h19)]
    have hjt := hR.jump i hi hi2 (.inl h19)
    have hji : i < dr l i := by unfold dr; omega
    simp only [nT (show l.length < 1000000 by omega) (show i < l.length by omega) hr (.inl h19), gx (show a ≤ dr l i by omega) (show dr l i < 1000000 by omega), ai]
    refine ⟨_, ?_, mX n (show dr l i - a < d.length by omega) (dn (D i) 1) fun d' => some (zz, (i : Int), l, m, (a : Int), d')⟩
    have := hL.put bM (show a ≤ dr l i by omega) hjt (dn (D i) 1)
    unfold ej eF
    rw [if_neg hn, if_neg h21, if_pos h19, hc]
    exact this
   ·rw [if_neg (show ¬ ((l.getD i (0, 0, 0)).1 == 19) = true by simpa only [ag] using h19)]
    by_cases h20 : (l.getD i (0, 0, 0)).1 = 20
    ·rw [if_pos (show ((l.getD i (0, 0, 0)).1 == 20) = true by simpa only [ag] using h20)]
     have hjt := hR.jump i hi hi2 (.inr h20)
     have hji : i < dr l i := by unfold dr; omega
     simp only [nT (show l.length < 1000000 by omega) (show i < l.length by omega) hr (.inr h20), gx (show a ≤ dr l i by omega) (show dr l i < 1000000 by omega), ai]
     have h1 := hL.put bM (show a ≤ dr l i by omega) hjt (dn (D i) 1)
     have h2 := h1.put bM (show a ≤ i + 1 by omega) (show i + 1 ≤ z by omega) (dn (D i) 1)
     refine ⟨_, ?_, (mX n (show dr l i - a < d.length by omega) (dn (D i) 1) fun d1 => (if (decide (0 ≤ ((i + 1 - a : Nat) : Int)) && decide (((i + 1 - a : Nat) : Int) < (d1.length : Int))) = true then (if (d1.getD (i + 1 - a) 0 != (-1)) = true then ((d9 n (d1.getD (i + 1 - a) 0) (dn (D i) 1)).bind fun y => if (decide (0 ≤ ((i + 1 - a : Nat) : Int)) && decide (((i + 1 - a : Nat) : Int) < (d1.length : Int))) = true then some (zz, (i : Int), l, m, (a : Int), d1.set (i + 1 - a) y) else none) else (if (decide (0 ≤ ((i + 1 - a : Nat) : Int)) && decide (((i + 1 - a : Nat) : Int) < (d1.length : Int))) = true then some (zz, (i : Int), l, m, (a : Int), d1.set (i + 1 - a) (dn (D i) 1)) else none)) else none)).trans (mX n (by rw [aP]; omega) (dn (D i) 1) fun d' => some (zz, (i : Int), l, m, (a : Int), d'))⟩
     unfold ej eF
     rw [if_neg hn, if_neg h21, if_neg h19, if_pos h20, hc]
     exact h2
    ·rw [if_neg (show ¬ ((l.getD i (0, 0, 0)).1 == 20) = true by simpa only [ag] using h20)]
     refine ⟨_, ?_, mX n (show i + 1 - a < d.length by omega) (dn (D i) 1) fun d' => some (zz, (i : Int), l, m, (a : Int), d')⟩
     have := hL.put bM (show a ≤ i + 1 by omega) (show i + 1 ≤ z by omega) (dn (D i) 1)
     unfold ej eF
     rw [if_neg hn, if_neg h21, if_neg h19, if_neg h20, hc]
     exact this
def pF (d : List Int) : Nat → Nat → List Int
 | 0, _ => d
 | r + 1, k => pF (d.set (k + 1) (-1)) r (k + 1)
theorem EJ : ∀ (r k : Nat) {d : List Int}, (pF d r k).length = d.length
 | 0, k, d => rfl
 | r + 1, k, d => (EJ r (k + 1)).trans (aP ..)
theorem Gv : ∀ (r k : Nat) {d : List Int} (j : Nat), k + r < d.length → (pF d r k).getD j 0 = if k < j ∧ j ≤ k + r then -1 else d.getD j 0
 | 0, k, d, j, h => by rw [if_neg (by omega)]; rfl
 | r + 1, k, d, j, h => by
  rw [show pF d (r + 1) k = pF (d.set (k + 1) (-1)) r (k + 1) from rfl, Gv r (k + 1) j (by rw [aP]; omega), eb (by omega)]
  by_cases h1 : k + 1 < j ∧ j ≤ k + 1 + r
  ·rw [if_pos h1, if_pos (by omega)]
  ·rw [if_neg h1]
   by_cases h2 : j = k + 1
   ·rw [if_pos h2, if_pos (by omega)]
   ·rw [if_neg h2, if_neg (by omega)]
theorem zF {a z : Nat} (h : a ≤ z) : LD (pF (List.replicate (z - a + 1) 0) (z - a) 0) (fh a) a z := by
 refine ⟨by rw [EJ, bp], fun k h1 h2 => ?_⟩
 rw [Gv _ _ _ (by rw [bp]; omega)]
 unfold fh
 by_cases e : k = a
 ·subst e
  rw [if_neg (by omega), if_pos rfl, aZ]
  rfl
 ·rw [if_pos (by omega), if_neg e]
theorem Gw {a z : Nat} (h : a ≤ z) (hz : z < 1000000) : wrap .i64 (wrap .i64 ((z : Int) - (a : Int)) + 1) = ((z - a + 1 : Nat) : Int) := by
 rw [gx h hz, di (by omega)]
theorem B9 (n : Nat) (W : ((((List (Int × (Int × Int))) × (List Int)) × Int × Int × Unit) × Unit) → Option Int) {l : List cY} {m : List Int} {zz aa : Int} {c : Nat} (hc : c < 1000000) : ∀ (f k : Nat) {d : List Int}, d.length = c + 1 → k ≤ c → c < f + k →
  it (fun F (x : Int × Int × Int × (List (Int × (Int × Int))) × (List Int) × Int × (List Int)) => qr n W F x.1 x.2.1 x.2.2.1 x.2.2.2.1 x.2.2.2.2.1 x.2.2.2.2.2.1 x.2.2.2.2.2.2) f (zz, (c : Int), (k : Int), l, m, aa, d) = some (zz, l, m, aa, pF d (c - k) k)
 | 0, k, d, hd, hk, hf => by omega
 | f + 1, k, d, hd, hk, hf => by
  have ih := fun {d : List Int} => B9 n W (l := l) (m := m) (zz := zz) (aa := aa) hc f (k + 1) (d := d)
  show qr n W (it _ f) zz (c : Int) (k : Int) l m aa d = _
  generalize it (fun F (x : Int × Int × Int × (List (Int × (Int × Int))) × (List Int) × Int × (List Int)) => qr n W F x.1 x.2.1 x.2.2.1 x.2.2.2.1 x.2.2.2.2.1 x.2.2.2.2.2.1 x.2.2.2.2.2.2) f = F at ih ⊢
  unfold qr
  rcases am k c with hlt | hge
  ·rw [if_pos (af (by omega)), di (by omega), if_pos (dc (by omega)), ai, ih (by rw [aP, hd]) (by omega) (by omega), show c - k = (c - (k + 1)) + 1 by omega]
   rfl
  ·have : k = c := by omega
   subst this
   rw [if_neg (by simp), aZ]
   rfl
theorem EK (n : Nat) (W : ((((List (Int × (Int × Int))) × (List Int)) × Int × Int × Unit) × Unit) → Option Int) {l : List cY} {m h : List Int} (hF : Fine l m h) {Wp : Nat → Nat → Int} {a z : Nat} (hR : Reg l m a z) (hW : ∀ i, a ≤ i → i < z → dd l i = 21 → W (((l, m), ((i + 1 : Nat) : Int), ((mN m i : Nat) : Int), ()), ()) = some (Wp (i + 1) (mN m i)) ∧ StepsI (Wp (i + 1) (mN m i))) : ∀ (f i : Nat) {d : List Int} {D : Nat → Int}, LD d D a z → (∀ k, StepsI (D k)) → a ≤ i → i ≤ z → z < f + i → ∃ d', LD d' (eG bM Wp l m (z - i) i D) a z ∧
  it (fun F (x : Int × Int × (List (Int × (Int × Int))) × (List Int) × Int × (List Int)) => qt n W F x.1 x.2.1 x.2.2.1 x.2.2.2.1 x.2.2.2.2.1 x.2.2.2.2.2) f ((z : Int), (i : Int), l, m, (a : Int), d) = some ((z : Int), l, m, (a : Int), d')
 | 0, i, d, D, hL, hD, h1, h2, hf => by omega
 | f + 1, i, d, D, hL, hD, h1, h2, hf => by
  have ih := fun {d : List Int} {D : Nat → Int} => EK n W hF hR hW f (i + 1) (d := d) (D := D)
  show ∃ d', _ ∧ qt n W (it _ f) (z : Int) (i : Int) l m (a : Int) d = _
  generalize it (fun F (x : Int × Int × (List (Int × (Int × Int))) × (List Int) × Int × (List Int)) => qt n W F x.1 x.2.1 x.2.2.1 x.2.2.2.1 x.2.2.2.2.1 x.2.2.2.2.2) f = F at ih ⊢
  obtain ⟨l1, l2⟩ := hF.len
  have hlt := hR.lt
  unfold qt
  rcases am i z with hiz | hge
  ·obtain ⟨d1, k1, k2⟩ := Nx n W hF hR h1 hiz (hW i h1 hiz) hL hD (z : Int)
   rw [if_pos (af (by omega)), k2, ae]
   simp only
   rw [di (by omega), show z - i = (z - (i + 1)) + 1 by omega]
   exact ih k1 (fL eB hD (hF.right (by omega)) fun h => (hW i h1 hiz h).2) (by omega) (by omega) (by omega)
  ·have : i = z := by omega
   subst this
   rw [if_neg (by simp), aZ]
   exact ⟨d, hL, rfl⟩
theorem P4 (n : Nat) (W : ((((List (Int × (Int × Int))) × (List Int)) × Int × Int × Unit) × Unit) → Option Int) {l : List cY} {m h : List Int} (hF : Fine l m h) (hn : l.length < n) {Wp : Nat → Nat → Int} {a z : Nat} (hR : Reg l m a z) (hW : ∀ i, a ≤ i → i < z → dd l i = 21 → W (((l, m), ((i + 1 : Nat) : Int), ((mN m i : Nat) : Int), ()), ()) = some (Wp (i + 1) (mN m i)) ∧ StepsI (Wp (i + 1) (mN m i))) :
  rP n W (l, m) (a : Int) (z : Int) = some (eG bM Wp l m (z - a) a (fh a) z) := by
 obtain ⟨l1, l2⟩ := hF.len
 have hle := hR.le
 have hlt := hR.lt
 unfold rP xo xq
 have c1 : (decide (0 ≤ ((z - a + 1 : Nat) : Int)) && (((z - a + 1 : Nat) : Int) == ((z - a + 1 : Nat) : Int)) && decide (((z - a + 1 : Nat) : Int) * (8 : Int) ≤ 140737488355328) && decide (1 ≤ 8)) = true := by simp; omega
 have c2 : (decide (0 ≤ 1) && decide (1 ≤ ((z - a + 1 : Nat) : Int))) = true := by simp; omega
 simp only [Gw hle (show z < 1000000 by omega), ai, bp, cw]
 have h0 := B9 n W (l := l) (m := m) (zz := (z : Int)) (aa := (a : Int)) (c := z - a) (by omega) n 0 (d := List.replicate (z - a + 1) 0) (by rw [bp]) (ao _) (by omega)
 rw [show ((0 : Nat) : Int) = 0 from rfl, bv] at h0
 obtain ⟨d', k1, k2⟩ := EK n W hF hR hW n a (zF hle) (gy a) (ar _) hle (by omega)
 rw [if_pos c1, if_pos c2, h0, ae]
 simp only
 rw [k2, ae]
 simp only [gx hle (show z < 1000000 by omega), ai]
 rw [if_pos (dc (by rw [k1.len]; omega)), k1.at_ z hle (ar _)]
theorem Gx (n : Nat) {l : List cY} {m h : List Int} (hF : Fine l m h) (hn : l.length < n) : ∀ (g : Nat) {a z : Nat}, Reg l m a z → z - a < g →
  it (fun (W : ((((List (Int × (Int × Int))) × (List Int)) × Int × Int × Unit) × Unit) → Option Int) x => rP n W x.1.1 x.1.2.1 x.1.2.2.1) g (((l, m), (a : Int), (z : Int), ()), ()) = some (dX bM l m g a z)
 | 0, a, z, hR, hg => by omega
 | g + 1, a, z, hR, hg => by
  have hlt := hR.lt
  have ih := fun {a z : Nat} => Gx n hF hn g (a := a) (z := z)
  show rP n (it _ g) (l, m) (a : Int) (z : Int) = _
  refine P4 n _ hF hn hR fun i h1 h2 h3 => ?_
  have ho := isOpen_iff.2 (Or.inl (b := dd l i = 23) h3)
  have hRi := hF.reg (show i < l.length by omega) ho
  obtain ⟨j, j1, j2, j3⟩ := hR.loop i h1 h2 ho
  have hj : mN m i = j := by unfold mN; rw [j1]; rfl
  exact ⟨ih hRi (by omega), ju eB hF g hRi⟩
theorem Nz (n : Nat) {l : List cY} {m h : List Int} (hF : Fine l m h) (hn : l.length < n) {a z : Nat} (hR : Reg l m a z) : HF n (l, m) (a : Int) (z : Int) = some (dX bM l m n a z) := by
 have := hR.lt
 exact Gx n hF hn n hR (by omega)
theorem Ca (n : Nat) (W : ((((List (Int × (Int × Int))) × (List Int)) × Int × Int × Unit) × Unit) → Option Int) {l : List cY} {m : List Int} {zz aa : Int} {c : Nat} (hc : c < 1000000) : ∀ (f k : Nat) {d : List Int}, d.length = c + 1 → k ≤ c → c < f + k →
  it (fun F (x : Int × Int × Int × (List (Int × (Int × Int))) × (List Int) × Int × (List Int)) => qz n W F x.1 x.2.1 x.2.2.1 x.2.2.2.1 x.2.2.2.2.1 x.2.2.2.2.2.1 x.2.2.2.2.2.2) f (zz, (c : Int), (k : Int), l, m, aa, d) = some (zz, l, m, aa, pF d (c - k) k)
 | 0, k, d, hd, hk, hf => by omega
 | f + 1, k, d, hd, hk, hf => by
  have ih := fun {d : List Int} => Ca n W (l := l) (m := m) (zz := zz) (aa := aa) hc f (k + 1) (d := d)
  show qz n W (it _ f) zz (c : Int) (k : Int) l m aa d = _
  generalize it (fun F (x : Int × Int × Int × (List (Int × (Int × Int))) × (List Int) × Int × (List Int)) => qz n W F x.1 x.2.1 x.2.2.1 x.2.2.2.1 x.2.2.2.2.1 x.2.2.2.2.2.1 x.2.2.2.2.2.2) f = F at ih ⊢
  unfold qz
  rcases am k c with hlt | hge
  ·rw [if_pos (af (by omega)), di (by omega), if_pos (dc (by omega)), ai, ih (by rw [aP, hd]) (by omega) (by omega), show c - k = (c - (k + 1)) + 1 by omega]
   rfl
  ·have : k = c := by omega
   subst this
   rw [if_neg (by simp), aZ]
   rfl
theorem EL (n : Nat) (W : ((((List (Int × (Int × Int))) × (List Int)) × Int × Int × Unit) × Unit) → Option Int) {l : List cY} {m h : List Int} (hF : Fine l m h) {Wp : Nat → Nat → Int} {a z : Nat} (hR : Reg l m a z) (hW : ∀ i, a ≤ i → i < z → dd l i = 21 → W (((l, m), ((i + 1 : Nat) : Int), ((mN m i : Nat) : Int), ()), ()) = some (Wp (i + 1) (mN m i)) ∧ StepsI (Wp (i + 1) (mN m i))) : ∀ (f i : Nat) {d : List Int} {D : Nat → Int}, LD d D a z → (∀ k, StepsI (D k)) → a ≤ i → i ≤ z → z < f + i → ∃ d', LD d' (eG bM Wp l m (z - i) i D) a z ∧
  it (fun F (x : Int × Int × (List (Int × (Int × Int))) × (List Int) × Int × (List Int)) => qA n W F x.1 x.2.1 x.2.2.1 x.2.2.2.1 x.2.2.2.2.1 x.2.2.2.2.2) f ((z : Int), (i : Int), l, m, (a : Int), d) = some ((z : Int), l, m, (a : Int), d')
 | 0, i, d, D, hL, hD, h1, h2, hf => by omega
 | f + 1, i, d, D, hL, hD, h1, h2, hf => by
  have ih := fun {d : List Int} {D : Nat → Int} => EL n W hF hR hW f (i + 1) (d := d) (D := D)
  show ∃ d', _ ∧ qA n W (it _ f) (z : Int) (i : Int) l m (a : Int) d = _
  generalize it (fun F (x : Int × Int × (List (Int × (Int × Int))) × (List Int) × Int × (List Int)) => qA n W F x.1 x.2.1 x.2.2.1 x.2.2.2.1 x.2.2.2.2.1 x.2.2.2.2.2) f = F at ih ⊢
  obtain ⟨l1, l2⟩ := hF.len
  have hlt := hR.lt
  unfold qA
  rcases am i z with hiz | hge
  ·obtain ⟨d1, k1, k2⟩ := Ny n W hF hR h1 hiz (hW i h1 hiz) hL hD (z : Int)
   rw [if_pos (af (by omega)), k2, ae]
   simp only
   rw [di (by omega), show z - i = (z - (i + 1)) + 1 by omega]
   exact ih k1 (fL eB hD (hF.right (by omega)) fun h => (hW i h1 hiz h).2) (by omega) (by omega) (by omega)
  ·have : i = z := by omega
   subst this
   rw [if_neg (by simp), aZ]
   exact ⟨d, hL, rfl⟩
theorem P5 (n : Nat) (W : ((((List (Int × (Int × Int))) × (List Int)) × Int × Int × Unit) × Unit) → Option Int) {l : List cY} {m h : List Int} (hF : Fine l m h) (hn : l.length < n) {Wp : Nat → Nat → Int} {a z : Nat} (hR : Reg l m a z) (hW : ∀ i, a ≤ i → i < z → dd l i = 21 → W (((l, m), ((i + 1 : Nat) : Int), ((mN m i : Nat) : Int), ()), ()) = some (Wp (i + 1) (mN m i)) ∧ StepsI (Wp (i + 1) (mN m i))) :
  rQ n W (l, m) (a : Int) (z : Int) = some (eG bM Wp l m (z - a) a (fh a) z) := by
 obtain ⟨l1, l2⟩ := hF.len
 have hle := hR.le
 have hlt := hR.lt
 unfold rQ xz xB
 have c1 : (decide (0 ≤ ((z - a + 1 : Nat) : Int)) && (((z - a + 1 : Nat) : Int) == ((z - a + 1 : Nat) : Int)) && decide (((z - a + 1 : Nat) : Int) * (8 : Int) ≤ 140737488355328) && decide (1 ≤ 8)) = true := by simp; omega
 have c2 : (decide (0 ≤ 1) && decide (1 ≤ ((z - a + 1 : Nat) : Int))) = true := by simp; omega
 simp only [Gw hle (show z < 1000000 by omega), ai, bp, cw]
 have h0 := Ca n W (l := l) (m := m) (zz := (z : Int)) (aa := (a : Int)) (c := z - a) (by omega) n 0 (d := List.replicate (z - a + 1) 0) (by rw [bp]) (ao _) (by omega)
 rw [show ((0 : Nat) : Int) = 0 from rfl, bv] at h0
 obtain ⟨d', k1, k2⟩ := EL n W hF hR hW n a (zF hle) (gy a) (ar _) hle (by omega)
 rw [if_pos c1, if_pos c2, h0, ae]
 simp only
 rw [k2, ae]
 simp only [gx hle (show z < 1000000 by omega), ai]
 rw [if_pos (dc (by rw [k1.len]; omega)), k1.at_ z hle (ar _)]
theorem Gy (n : Nat) {l : List cY} {m h : List Int} (hF : Fine l m h) (hn : l.length < n) : ∀ (g : Nat) {a z : Nat}, Reg l m a z → z - a < g →
  it (fun (W : ((((List (Int × (Int × Int))) × (List Int)) × Int × Int × Unit) × Unit) → Option Int) x => rQ n W x.1.1 x.1.2.1 x.1.2.2.1) g (((l, m), (a : Int), (z : Int), ()), ()) = some (dX bM l m g a z)
 | 0, a, z, hR, hg => by omega
 | g + 1, a, z, hR, hg => by
  have hlt := hR.lt
  have ih := fun {a z : Nat} => Gy n hF hn g (a := a) (z := z)
  show rQ n (it _ g) (l, m) (a : Int) (z : Int) = _
  refine P5 n _ hF hn hR fun i h1 h2 h3 => ?_
  have ho := isOpen_iff.2 (Or.inl (b := dd l i = 23) h3)
  have hRi := hF.reg (show i < l.length by omega) ho
  obtain ⟨j, j1, j2, j3⟩ := hR.loop i h1 h2 ho
  have hj : mN m i = j := by unfold mN; rw [j1]; rfl
  exact ⟨ih hRi (by omega), ju eB hF g hRi⟩
theorem NA (n : Nat) {l : List cY} {m h : List Int} (hF : Fine l m h) (hn : l.length < n) {a z : Nat} (hR : Reg l m a z) : HG n (l, m) (a : Int) (z : Int) = some (dX bM l m n a z) := by
 have := hR.lt
 exact Gy n hF hn n hR (by omega)
theorem MB {P : Nat → Prop} : ∀ {n : Nat}, P n → ∃ k, k ≤ n ∧ P k ∧ ∀ j, j < k → ¬ P j := by
 intro n
 induction n using Nat.strongRecOn with
 | _ n ih =>
  intro hn
  by_cases h : ∃ j, j < n ∧ P j
  ·obtain ⟨j, j1, j2⟩ := h
   obtain ⟨k, k1, k2, k3⟩ := ih j j1 j2
   exact ⟨k, by omega, k2, k3⟩
  ·exact ⟨n, ar _, hn, fun j hj hp => h ⟨j, hj, hp⟩⟩
theorem EM {s : List Bool} {q k : Nat} (h : (s.set q true).getD k false = true) : s.getD k false = true ∨ k = q := by
 by_cases e : k = q
 ·exact .inr e
 ·refine .inl ?_
  rw [aq, List.getElem?_set_ne (fun h => e h.symm)] at h
  rw [aq]
  exact h
theorem zG {t : ByteArray} : ∀ (ks : List Nat) {f : gF} {k : Nat}, (ks.foldl (fun g q => gM q t g) f).2.1.getD k false = true → f.2.1.getD k false = true ∨ k ∈ ks
 | [], f, k, h => .inl h
 | q :: ks, f, k, h => by
  rcases zG ks h with h1 | h1
  ·rcases EM h1 with h2 | h2
   ·exact .inl h2
   ·exact .inr (by rw [h2]; exact aB)
  ·exact .inr (ax _ h1)
theorem CJ {l : List cY} {m : List Int} {i : Nat} {f f' : gF} (hs : f4 l m i f = .inr f') : f.2.1.getD i false = true ∧ ∀ k, f'.2.1.getD k false = true → f.2.1.getD k false = true ∨ k ∈ fg l i := by
 unfold f4 at hs
 split at hs
 ·cases hs
 ·rename_i h1
  refine ⟨by simpa using h1, fun k hk => ?_⟩
  split at hs
  ·cases hs
  ·split at hs
   ·cases hs
   ·split at hs
    ·cases hs
    ·cases hs
     exact zG _ hk
theorem uW {l : List cY} {m : List Int} : ∀ (r i : Nat) {f f' : gF}, iM l m r i f = .inr f' → (∀ k, f.2.1.getD k false = true → k = 0 ∨ ∃ p, p < i ∧ k ∈ fg l p) → ∀ k, i ≤ k → k < i + r → k = 0 ∨ ∃ p, p < k ∧ k ∈ fg l p
 | 0, i, f, f', hs, hI, k, h1, h2 => by omega
 | r + 1, i, f, f', hs, hI, k, h1, h2 => by
  simp only [iM] at hs
  cases hq : f4 l m i f with
  | inl e => rw [hq] at hs; cases hs
  | inr f1 =>
   rw [hq] at hs
   obtain ⟨a1, a2⟩ := CJ hq
   by_cases e : k = i
   ·subst e
    exact hI k a1
   ·refine uW r (i + 1) hs (fun k hk => ?_) k (by omega) (by omega)
    rcases a2 k hk with h3 | h3
    ·rcases hI k h3 with h4 | ⟨p, p1, p2⟩
     ·exact .inl h4
     ·exact .inr ⟨p, by omega, p2⟩
    ·exact .inr ⟨i, by omega, h3⟩
def xW (l : List cY) : Prop := ∀ k, 0 < k → k < l.length → ∃ p, p < k ∧ k ∈ fg l p
theorem AY {l : List cY} (h : fK l = 0) : eX l = 0 ∧ xW l := by
 unfold fK at h
 split at h
 ·rename_i hw
  exact absurd h hw
 ·rename_i hw
  have hw0 : eX l = 0 := by
   by_cases e : eX l = 0
   ·exact e
   ·exact absurd e hw
  refine ⟨hw0, fun k k1 k2 => ?_⟩
  cases hq : iM l (dt l).1 l.length 0 (kc l) with
  | inl e =>
   rw [hq] at h
   simp only at h
   subst h
   exfalso
   have key : ∀ (r i : Nat) {f : gF}, iM l (dt l).1 r i f ≠ .inl 0 := by
    intro r
    induction r with
    | zero => intro i f h; cases h
    | succ r ih =>
     intro i f h
     simp only [iM] at h
     cases hq : f4 l (dt l).1 i f with
     | inr f1 => rw [hq] at h; exact ih (i + 1) h
     | inl e =>
      rw [hq] at h
      cases h
      unfold f4 at hq
      split at hq
      ·cases hq
      ·split at hq
       ·cases hq
       ·split at hq
        ·cases hq
        ·split at hq
         ·rename_i h5
          exact h5 (Sum.inl.inj hq)
         ·cases hq
   exact key _ _ hq
  | inr f' =>
   have hI : ∀ k, (kc l).2.1.getD k false = true → k = 0 ∨ ∃ p, p < 0 ∧ k ∈ fg l p := fun k hk => by
    left
    unfold kc at hk
    rcases EM hk with h2 | h2
    ·rw [aq, bV] at h2
     split at h2 <;> cases h2
    ·exact h2
   rcases uW l.length 0 hq hI k (ao _) (by omega) with h1 | h1
   ·omega
   ·exact h1
theorem Fine.jump_enc {l : List cY} {m h : List Int} (hF : Fine l m h) {i : Nat} (hi : i < l.length) (hj : dd l i = 19 ∨ dd l i = 20) (q : Nat) : enc l m q (dr l i) = enc l m q i := by
 obtain ⟨k1, k2⟩ := hF.jump hi hj
 rcases nI l m i with hh | ⟨p, hh⟩
 ·rw [oO hh q, oO (k2.trans hh) q]
 ·obtain ⟨_, _, x3⟩ := jj hF.nest hi hh
  obtain ⟨_, _, y3⟩ := jj hF.nest k1 (k2.trans hh)
  rw [x3 q, y3 q]
theorem nU {l : List cY} {m : List Int} {q k j : Nat} (ho : dw l q = true) (hj : m.getD q 0 = (j : Int)) : enc l m q k = true ↔ q < k ∧ k ≤ j := by
 unfold enc
 rw [ho, hj]
 simp
def qU (l : List cY) (m : List Int) (a z k : Nat) : Prop := a ≤ k ∧ k ≤ z ∧ ∀ q, a ≤ q → q < k → dd l q = 21 → mN m q < k
structure Way (l : List cY) (m : List Int) (a z : Nat) : Prop where
 reg : Reg l m a z
 out : a = 0 ∨ ∃ p, a = p + 1 ∧ dw l p = true ∧ m.getD p 0 = (z : Int)
theorem Fine.way {l : List cY} {m h : List Int} (hF : Fine l m h) {p : Nat} (hp : p < l.length) (ho : dw l p = true) : Way l m (p + 1) (mN m p) := by
 refine ⟨hF.reg hp ho, .inr ⟨p, rfl, ho, ?_⟩⟩
 obtain ⟨j, j1, _⟩ := hF.nest.open_ p hp ho
 unfold mN
 rw [j1]
 rfl
theorem Fine.wayAll {l : List cY} {m h : List Int} (hF : Fine l m h) : Way l m 0 (l.length - 1) := ⟨hF.all, .inl rfl⟩
theorem vB {l : List cY} {m h : List Int} (hF : Fine l m h) (hS : xW l) {a z : Nat} (hR : Way l m a z) {k : Nat} (hk : qU l m a z k) (hak : a < k) : ∃ p, qU l m a z p ∧ p < k ∧ k ∈ eF l m p := by
 obtain ⟨k1, k2, k3⟩ := hk
 have hlt := hR.reg.lt
 obtain ⟨p, p1, p2⟩ := hS k (by omega) (by omega)
 have hpl : p < l.length := by omega
 have hcase : k = p + 1 ∨ ((dd l p = 19 ∨ dd l p = 20) ∧ k = dr l p) := by
  unfold fg at p2
  split at p2
  ·rename_i h1
   rw [aC] at p2
   exact .inr ⟨.inl h1, p2⟩
  ·split at p2
   ·rename_i h1 h2
    rw [aA, aC] at p2
    rcases p2 with h3 | h3
    ·exact .inl h3
    ·exact .inr ⟨.inr h2, h3⟩
   ·split at p2
    ·cases p2
    ·rw [aC] at p2
     exact .inl p2
 have hap : a ≤ p := by
  rcases hcase with h1 | ⟨h1, h2⟩
  ·omega
  ·rcases hR.out with h3 | ⟨o, o1, o2, o3⟩
   ·omega
   ·rcases am p a with h4 | h4
    ·exfalso
     have e1 : enc l m o k = true := (nU o2 o3).2 ⟨by omega, k2⟩
     rw [h2, hF.jump_enc hpl h1, nU o2 o3] at e1
     omega
    ·exact h4
 by_cases hin : qU l m a z p
 ·refine ⟨p, hin, p1, ?_⟩
  unfold fg at p2
  unfold eF
  by_cases h21 : dd l p = 21
  ·exfalso
   have hkp : k = p + 1 := by
    rcases hcase with h1 | ⟨h1, _⟩
    ·exact h1
    ·omega
   have := k3 p hap (by omega) h21
   obtain ⟨j, j1, j2, j3⟩ := hF.nest.open_ p hpl (isOpen_iff.2 (.inl h21))
   unfold mN at this
   rw [j1] at this
   have e : ((j : Int)).toNat = j := rfl
   omega
  ·rw [if_neg h21]
   by_cases h19 : dd l p = 19
   ·rw [if_pos h19] at p2 ⊢
    exact p2
   ·rw [if_neg h19] at p2 ⊢
    by_cases h20 : dd l p = 20
    ·rw [if_pos h20] at p2 ⊢
     rw [aA, aC] at p2 ⊢
     exact p2.symm
    ·rw [if_neg h20] at p2 ⊢
     split at p2
     ·cases p2
     ·exact p2
 ·have : ∃ q, a ≤ q ∧ q < p ∧ dd l q = 21 ∧ p ≤ mN m q := by
   apply cH
   intro hno
   refine hin ⟨hap, by omega, fun q q1 q2 q3 => ?_⟩
   rcases am (mN m q) p with h1 | h1
   ·exact h1
   ·exact absurd ⟨q, q1, q2, q3, h1⟩ hno
  obtain ⟨q0, hq0⟩ := this
  obtain ⟨q, q1, ⟨q2, q3, q4, q5⟩, q6⟩ := MB (P := fun q => a ≤ q ∧ q < p ∧ dd l q = 21 ∧ p ≤ mN m q) hq0
  have hqo : dw l q = true := isOpen_iff.2 (.inl q4)
  obtain ⟨j, j1, j2, j3⟩ := hF.nest.open_ q (by omega) hqo
  have hj : mN m q = j := by unfold mN; rw [j1]; rfl
  rw [hj] at q5
  have hqk := k3 q q2 (by omega) q4
  rw [hj] at hqk
  refine ⟨q, ⟨q2, by omega, fun q' a1 a2 a3 => ?_⟩, by omega, ?_⟩
  ·rcases am (mN m q') q with h1 | h1
   ·exact h1
   ·exfalso
    have ho' : dw l q' = true := isOpen_iff.2 (.inl a3)
    obtain ⟨j', e1, e2, e3, e4, e5⟩ := hF.closed.op_ q' (by omega) ho'
    have hj' : mN m q' = j' := by unfold mN; rw [e1]; rfl
    rw [hj'] at h1
    have hne : j' ≠ q := fun e => by
     subst e
     rw [B5 e4] at hqo
     cases hqo
    obtain ⟨x, x1, x2⟩ := hF.nest.cross q' q j' a2 (by omega) (by omega) ho' hqo e1
    have : (x : Int) = (j : Int) := x1.symm.trans j1
    exact q6 q' a2 ⟨a1, by omega, a3, by rw [hj']; omega⟩
  ·rcases hcase with h1 | ⟨h1, h2⟩
   ·unfold eF
    rw [if_pos q4, hj, aC]
    omega
   ·exfalso
    have e1 : enc l m q p = true := (nU hqo j1).2 ⟨q3, q5⟩
    rw [← hF.jump_enc hpl h1, ← h2, nU hqo j1] at e1
    omega
theorem uX {b : Int → Int → Int} (hb : wC b) {v : Int} (hv : v ≠ -1) : ∀ (ks : List Nat) {D : Nat → Int} {k : Nat}, D k ≠ -1 ∨ k ∈ ks → ks.foldl (fun g k => er b g k v) D k ≠ -1
 | [], D, k, h => h.elim id fun h => by cases h
 | q :: ks, D, k, h => by
  refine uX hb hv ks (D := er b D q v) ?_
  unfold er
  by_cases e : k = q
  ·left
   rw [if_pos e]
   split
   ·exact hv
   ·rename_i h1
    rcases hb (D q) v with h2 | h2 <;> rw [h2]
    ·exact h1
    ·exact hv
  ·rw [if_neg e]
   rcases h with h | h
   ·exact .inl h
   ·rcases aA.1 h with h | h
    ·exact absurd h e
    ·exact .inr h
theorem Cb {b : Int → Int → Int} (hb : wC b) {W : Nat → Nat → Int} {l : List cY} {m h : List Int} (hF : Fine l m h) (hS : xW l) {a z : Nat} (hR : Way l m a z) (hW : ∀ i, a ≤ i → i < z → dd l i = 21 → StepsI (W (i + 1) (mN m i))) : ∀ (r i : Nat) {D : Nat → Int}, (∀ k, StepsI (D k)) → a ≤ i → i + r = z → (∀ k, qU l m a z k → k = a ∨ (∃ p, qU l m a z p ∧ p < i ∧ k ∈ eF l m p) → D k ≠ -1) → ∀ k, qU l m a z k → eG b W l m r i D k ≠ -1
 | 0, i, D, hD, hi, hz, hI, k, hk => by
  refine hI k hk ?_
  by_cases e : k = a
  ·exact .inl e
  ·obtain ⟨p, p1, p2, p3⟩ := vB hF hS hR hk (by have := hk.1; omega)
   exact .inr ⟨p, p1, by have := hk.2.1; omega, p3⟩
 | r + 1, i, D, hD, hi, hz, hI, k, hk => by
  have hlt := hR.reg.lt
  have hWi := hW i hi (by omega)
  have hr := hF.right (show i < l.length by omega)
  refine Cb hb hF hS hR hW r (i + 1) (fL hb hD hr hWi) (by omega) (by omega) (fun j hj hp => ?_) k hk
  have old : D j ≠ -1 → ej b W l m i D j ≠ -1 := fun h => by
   unfold ej
   split
   ·exact h
   ·rename_i h1
    have hDi : 0 ≤ D i := by
     rcases hD i with h2 | h2
     ·exact absurd h2 h1
     ·exact h2.1
    have := fy hDi (il hr hWi).1
    exact uX hb (by omega) _ (.inl h)
  rcases hp with h1 | ⟨p, p1, p2, p3⟩
  ·exact old (hI j hj (.inl h1))
  ·by_cases e : p = i
   ·subst e
    have hDp : D p ≠ -1 := by
     refine hI p p1 ?_
     by_cases e : p = a
     ·exact .inl e
     ·obtain ⟨p', a1, a2, a3⟩ := vB hF hS hR p1 (by omega)
      exact .inr ⟨p', a1, a2, a3⟩
    have hDp0 : 0 ≤ D p := by
     rcases hD p with h2 | h2
     ·exact absurd h2 hDp
     ·exact h2.1
    unfold ej
    rw [if_neg hDp]
    have := fy hDp0 (il hr hWi).1
    exact uX hb (by omega) _ (.inr p3)
   ·exact old (hI j hj (.inr ⟨p, p1, by omega, p3⟩))
theorem HP {l : List cY} {m h : List Int} {a z : Nat} (hR : Way l m a z) : qU l m a z z := by
 refine ⟨hR.reg.le, ar _, fun q h1 h2 h3 => ?_⟩
 obtain ⟨j, j1, j2, j3⟩ := hR.reg.loop q h1 h2 (isOpen_iff.2 (.inl h3))
 unfold mN
 rw [j1]
 exact j3
theorem kH {b : Int → Int → Int} (hb : wC b) {l : List cY} {m h : List Int} (hF : Fine l m h) (hS : xW l) (f : Nat) {a z : Nat} (hR : Way l m a z) : 0 ≤ dX b l m f a z ∧ dX b l m f a z ≤ 1048577 := by
 have h0 := ju hb hF f hR.reg
 have hlt := hR.reg.lt
 have hle := hR.reg.le
 cases f with
 | zero => exact ⟨aE _, by show (0 : Int) ≤ 1048577; decide⟩
 | succ f =>
  have h1 : dX b l m (f + 1) a z ≠ -1 := by
   refine Cb hb hF hS hR (fun i i1 i2 i3 => ju hb hF f (hF.reg (by omega) (isOpen_iff.2 (.inl i3)))) (z - a) a (gy a) (ar _) (by omega) (fun k hk hp => ?_) z (HP (h := h) hR)
   rcases hp with e | ⟨p, p1, p2, _⟩
   ·subst e
    unfold fh
    rw [if_pos rfl]
    decide
   ·have := p1.1
    omega
  rcases h0 with h2 | h2
  ·exact absurd h2 h1
  ·exact h2
structure LQ (d : List Int) (s : List Bool) (D : Nat → Int) (a z : Nat) : Prop where
 dl : d.length = z - a + 1
 sl : s.length = z - a + 1
 at_ : ∀ k, a ≤ k → k ≤ z → d.getD (k - a) 0 = (if D k = -1 then 0 else D k) ∧ s.getD (k - a) false = (D k != -1)
theorem Kj {l : List Bool} {i j : Nat} {v d : Bool} (h : i < l.length) : (l.set i v).getD j d = if j = i then v else l.getD j d := eb h
theorem LQ.put {d : List Int} {s : List Bool} {D : Nat → Int} {a z : Nat} (h : LQ d s D a z) (b : Int → Int → Int) {k : Nat} (hk : a ≤ k) (hk2 : k ≤ z) {v x : Int} (hx : x = if D k = -1 then v else b (D k) v) (hx0 : x ≠ -1) : LQ (d.set (k - a) x) (s.set (k - a) true) (er b D k v) a z := by
 have h1 := h.dl
 have h2 := h.sl
 refine ⟨by rw [aP, h1], by rw [aP, h2], fun j j1 j2 => ?_⟩
 rw [eb (by omega), Kj (by omega)]
 unfold er
 by_cases e : j = k
 ·subst e
  rw [if_pos rfl, if_pos rfl, if_pos rfl, ← hx, if_neg hx0]
  exact ⟨rfl, (aj.2 hx0).symm⟩
 ·have e3 : ¬ (j - a = k - a) := by omega
  simp only [e3, e, ay]
  exact h.at_ j j1 j2
theorem LQ.same {d : List Int} {s : List Bool} {D : Nat → Int} {a z : Nat} (h : LQ d s D a z) (b : Int → Int → Int) {k : Nat} {v : Int} (h1 : D k ≠ -1) (h2 : b (D k) v = D k) : LQ d s (er b D k v) a z := by
 refine ⟨h.dl, h.sl, fun j j1 j2 => ?_⟩
 unfold er
 by_cases e : j = k
 ·subst e
  rw [if_pos rfl, if_neg h1, h2]
  exact h.at_ j j1 j2
 ·rw [if_neg e]
  exact h.at_ j j1 j2
def eH (b : Int → Int → Int) (n : Nat) (l : List cY) : Int × Int :=
 if ec l ≠ 0 then (0, ec l) else if fK l ≠ 0 then (0, fK l)
 else if dn (dX b l (dt l).1 n 0 (l.length - 1)) 1 = 1048577 then (0, 4) else (dn (dX b l (dt l).1 n 0 (l.length - 1)) 1, 0)
theorem gG {l : List cY} (h : ec l = 0) : eX l = 0 := by
 unfold ec at h
 split at h
 ·exact h
 ·rename_i h1
  by_cases e : eX l = 0
  ·exact e
  ·exact absurd e h1
theorem NB {k : Nat} (h : 0 < k) (h2 : k < 1000000) : wrap .i64 ((k : Int) - 1) = ((k - 1 : Nat) : Int) := vx h h2
theorem HQ (n : Nat) (l : List cY) (hl : l.length < n) (hn3 : 3 < n) (hn : n < 1000000) : iS n l = some (eH bM n l) := by
 obtain ⟨o1, h1⟩ := EF n l hl hn
 obtain ⟨o2, h2⟩ := B8 n l hl hn3 hn
 unfold iS eH
 rw [h1, ae]
 by_cases hk : ec l = 0
 ·have hw := gG hk
  have hs := jt hw
  have hF := nJ hw
  obtain ⟨l1, l2⟩ := hF.len
  rw [if_neg (fun h => (aj.1 h) hk), if_neg (show ¬ (ec l ≠ 0) from fun h => h hk), h2, ae]
  by_cases ht : fK l = 0
  ·have hS := (AY ht).2
   rw [if_neg (fun h => (aj.1 h) ht), if_neg (show ¬ (fK l ≠ 0) from fun h => h ht), xU n l hl hn, ae]
   simp only
   have hwy := kH eB hF hS n hF.wayAll
   have hw1 := Nz n hF hl hF.all
   rw [show ((0 : Nat) : Int) = 0 from rfl] at hw1
   rw [if_neg (fun h => (aj.1 h) hs), NB l1 (by omega), hw1, ae, im n (by omega) hwy.2 (by decide) (by decide), ae]
   generalize dn (dX bM l (dt l).1 n 0 (l.length - 1)) 1 = w
   by_cases e : w = 1048577
   ·rw [if_pos e, if_pos (by simpa only [ag] using e)]
   ·rw [if_neg e, if_neg (by simpa only [ag] using e)]
  ·rw [if_pos (show (fK l != 0) = true from aj.2 ht), if_pos (show (fK l != 0) = true from aj.2 ht), if_pos ht]
 ·rw [if_pos (show (ec l != 0) = true from aj.2 hk), if_pos (show (ec l != 0) = true from aj.2 hk), if_pos hk]
theorem xX (n : Nat) (l : List cY) (hl : l.length < n) (hn3 : 3 < n) (hn : n < 1000000) : fE n l = some (eH bM n l) := by
 unfold fE
 rw [HQ n l hl hn3 hn]
 rfl
def gz (l : List cY) (m : List Int) (n : Nat) : Nat → Nat → List (Int × Int)
 | 0, _ => []
 | r + 1, i => (if dd l i = 23 then [(dL l i, dX bM l m n (i + 1) (mN m i) + 1)] else []) ++ gz l m n r (i + 1)
def ke (n : Nat) (l : List cY) : List (Int × Int) × Int := if (eH bM n l).2 ≠ 0 then ([], (eH bM n l).2) else (gz l (dt l).1 n l.length 0, 0)
theorem Cc (n : Nat) {l : List cY} {m h : List Int} (hF : Fine l m h) (hn : l.length < n) : ∀ (f i : Nat) {o : List (Int × Int)}, o.length ≤ i → i ≤ l.length → l.length < f + i →
  it (fun F => (dI q_) (fw n F)) f (o, l, (l.length : Int), (i : Int), l, m) = some (o ++ gz l m n (l.length - i) i, l, m)
 | 0, i, o, ho, hi, hf => by omega
 | f + 1, i, o, ho, hi, hf => by
  have ih := fun {o : List (Int × Int)} => Cc n hF hn f (i + 1) (o := o)
  show fw n (it _ f) o l (l.length : Int) (i : Int) l m = _
  generalize it (fun F => (dI q_) (fw n F)) f = F at ih ⊢
  obtain ⟨l1, l2⟩ := hF.len
  unfold fw
  rcases am i l.length with hlt | hge
  ·rw [if_pos (af (by omega)), if_pos (dc hlt), ai, di (by omega), show l.length - i = (l.length - (i + 1)) + 1 by omega]
   rw [show gz l m n (l.length - (i + 1) + 1) i = (if dd l i = 23 then [(dL l i, dX bM l m n (i + 1) (mN m i) + 1)] else []) ++ gz l m n (l.length - (i + 1)) (i + 1) from rfl]
   by_cases h23 : (l.getD i (0, 0, 0)).1 = 23
   ·rw [if_pos (show ((l.getD i (0, 0, 0)).1 == 23) = true by simpa only [ag] using h23), if_pos (show dd l i = 23 from h23), if_pos (dc (by rw [hF.nest.hm]; exact hlt))]
    have ho2 : dw l i = true := isOpen_iff.2 (.inr h23)
    obtain ⟨j, j1, j2, j3⟩ := hF.nest.open_ i hlt ho2
    have hj : mN m i = j := by unfold mN; rw [j1]; rfl
    have hR := hF.reg hlt ho2
    rw [hj] at hR ⊢
    have hwy := ju eB hF n hR
    rw [j1, NA n hF hn hR, ae, if_pos (by simp; omega)]
    have hwr : wrap .i64 (dX bM l m n (i + 1) j + 1) = dX bM l m n (i + 1) j + 1 := by
     rcases hwy with h | h
     ·rw [h]; rfl
     ·exact dA (by omega) (by omega)
    rw [hwr, ih (by simp; omega) (by omega) (by omega), aM]
   ·rw [if_neg (show ¬ ((l.getD i (0, 0, 0)).1 == 23) = true by simpa only [ag] using h23), if_neg (show ¬ dd l i = 23 from h23), ih (by omega) (by omega) (by omega), bQ]
  ·have : i = l.length := by omega
   subst this
   rw [if_neg (by simp), aZ]
   simp [gz]
theorem rY {b : Int → Int → Int} {n : Nat} {l : List cY} (h : (eH b n l).2 = 0) : ec l = 0 ∧ fK l = 0 := by
 unfold eH at h
 by_cases h1 : ec l = 0
 ·rw [if_neg (show ¬ (ec l ≠ 0) from fun h => h h1)] at h
  by_cases h2 : fK l = 0
  ·exact ⟨h1, h2⟩
  ·rw [if_pos h2] at h
   exact absurd h h2
 ·rw [if_pos h1] at h
  exact absurd h h1
theorem FD (n : Nat) (l : List cY) (hl : l.length < n) (hn3 : 3 < n) (hn : n < 1000000) : gn n l = some (ke n l) := by
 unfold gn ke
 rw [xX n l hl hn3 hn, ae]
 by_cases h0 : (eH bM n l).2 = 0
 ·obtain ⟨hk, ht⟩ := rY h0
  obtain ⟨o1, h1⟩ := EF n l hl hn
  obtain ⟨o2, h2⟩ := B8 n l hl hn3 hn
  have hF := nJ (gG hk)
  have hlp := Cc n hF hl n 0 (o := []) (ao _) (ao _) (by omega)
  rw [show ((0 : Nat) : Int) = 0 from rfl, bv] at hlp
  unfold i7
  rw [if_neg (fun h => (aj.1 h) h0), if_neg (show ¬ ((eH bM n l).2 ≠ 0) from fun h => h h0), h1, ae, if_neg (fun h => (aj.1 h) hk), h2, ae, if_neg (fun h => (aj.1 h) ht), xU n l hl hn, ae]
  simp only
  rw [hlp, ae, bQ]
 ·rw [if_pos (aj.2 h0), if_pos h0]
theorem NC {D : Nat → Int} {k : Nat} {v : Int} (hv : 0 ≤ v) (hD : StepsI (D k)) : ∀ j, D j ≤ er bM D k v j := fun j => by
 unfold er
 by_cases e : j = k
 ·subst e
  rw [if_pos rfl]
  split
  ·omega
  ·unfold bM; split <;> omega
 ·rw [if_neg e]; omega
theorem ND {D : Nat → Int} {k : Nat} {v : Int} (hv : 0 ≤ v) : v ≤ er bM D k v k := by
 unfold er
 rw [if_pos rfl]
 split
 ·omega
 ·unfold bM; split <;> omega
theorem EN {v : Int} (hv : 0 ≤ v ∧ v ≤ 1048577) : ∀ (ks : List Nat) {D : Nat → Int}, (∀ k, StepsI (D k)) → (∀ j, D j ≤ ks.foldl (fun g k => er bM g k v) D j) ∧ ∀ j ∈ ks, v ≤ ks.foldl (fun g k => er bM g k v) D j
 | [], D, hD => ⟨fun j => aE _, fun j hj => by cases hj⟩
 | q :: ks, D, hD => by
  obtain ⟨h1, h2⟩ := EN hv ks (D := er bM D q v) (qT eB hD q hv)
  refine ⟨fun j => bh (NC hv.1 (hD q) j) (h1 j), fun j hj => ?_⟩
  rcases aA.1 hj with e | e
  ·subst e
   exact bh (ND hv.1) (h1 j)
  ·exact h2 j e
theorem StepsI.nn {v : Int} (h : StepsI v) (h1 : v ≠ -1) : 0 ≤ v ∧ v ≤ 1048577 := h.elim (fun h => absurd h h1) id
theorem oP {W : Nat → Nat → Int} {l : List cY} {m : List Int} {i : Nat} {D : Nat → Int} (hD : ∀ k, StepsI (D k)) (hr : dH (l.getD i (0, 0, 0)) = true) (hW : dd l i = 21 → StepsI (W (i + 1) (mN m i))) : (∀ j, D j ≤ ej bM W l m i D j) ∧ (D i ≠ -1 → ∀ j ∈ eF l m i, dn (D i) (eo W l m i) ≤ ej bM W l m i D j) := by
 unfold ej
 by_cases e : D i = -1
 ·rw [if_pos e]
  exact ⟨fun j => aE _, fun h => absurd e h⟩
 ·rw [if_neg e]
  obtain ⟨h1, h2⟩ := EN (fy ((hD i).nn e).1 (il hr hW).1) (eF l m i) hD
  exact ⟨h1, fun _ => h2⟩
theorem AZ {a b c d : Int} (h : a ≤ b) (k : c ≤ d) : dn a c ≤ dn b d := by unfold dn; split <;> split <;> omega
theorem Kk {a b : Int} (ha : a ≤ 1048577) (hb : 0 ≤ b) : a ≤ dn a b := by unfold dn; split <;> omega
theorem HS {a b c : Int} (ha : 0 ≤ a) (hb : 0 ≤ b) (hc : 0 ≤ c) : dn (dn a b) c = dn a (dn b c) := by unfold dn; split <;> split <;> split <;> (try split) <;> omega
theorem Reg.hop {l : List cY} {m : List Int} {a z : Nat} (hR : Reg l m a z) {i : Nat} (h1 : a ≤ i) (h2 : i < z) : eF l m i ≠ [] ∧ ∀ k ∈ eF l m i, i < k ∧ k ≤ z := by
 unfold eF
 by_cases h21 : dd l i = 21
 ·rw [if_pos h21]
  obtain ⟨j, j1, j2, j3⟩ := hR.loop i h1 h2 (isOpen_iff.2 (.inl h21))
  refine ⟨by simp, fun k hk => ?_⟩
  have : k = mN m i + 1 := by simpa using hk
  unfold mN at this
  rw [j1] at this
  simp at this
  omega
 ·rw [if_neg h21]
  by_cases h19 : dd l i = 19
  ·rw [if_pos h19]
   have := hR.jump i h1 h2 (.inl h19)
   refine ⟨by simp, fun k hk => ?_⟩
   have e : k = dr l i := by simpa using hk
   subst e
   refine ⟨?_, this⟩
   unfold dr
   omega
  ·rw [if_neg h19]
   by_cases h20 : dd l i = 20
   ·rw [if_pos h20]
    have := hR.jump i h1 h2 (.inr h20)
    refine ⟨by simp, fun k hk => ?_⟩
    have e : k = dr l i ∨ k = i + 1 := by simpa using hk
    rcases e with e | e
    ·subst e
     refine ⟨?_, this⟩
     unfold dr
     omega
    ·omega
   ·rw [if_neg h20]
    exact ⟨by simp, fun k hk => by
     have e : k = i + 1 := by simpa using hk
     omega⟩
theorem rZ {b : Int → Int → Int} {W : Nat → Nat → Int} {l : List cY} {m : List Int} : ∀ (r s i : Nat) (D : Nat → Int), eG b W l m (r + s) i D = eG b W l m s (i + r) (eG b W l m r i D)
 | 0, s, i, D => by rw [bU]; rfl
 | r + 1, s, i, D => by
  rw [show r + 1 + s = (r + s) + 1 by omega]
  show eG b W l m (r + s) (i + 1) _ = eG b W l m s (i + (r + 1)) (eG b W l m r (i + 1) _)
  rw [rZ r s (i + 1), show i + 1 + r = i + (r + 1) by omega]
theorem EO {W : Nat → Nat → Int} {l : List cY} {m : List Int} (hr : ∀ i, i < l.length → dH (l.getD i (0, 0, 0)) = true) {a z : Nat} (hR : Reg l m a z) (hW : ∀ i, a ≤ i → i < z → dd l i = 21 → StepsI (W (i + 1) (mN m i))) {c : Int} (hc : 0 ≤ c) : ∀ (r i : Nat) {D : Nat → Int}, (∀ k, StepsI (D k)) → a ≤ i → i + r = z → (∃ k, i ≤ k ∧ k ≤ z ∧ c ≤ D k) → c ≤ eG bM W l m r i D z
 | 0, i, D, hD, hi, hz, ⟨k, k1, k2, k3⟩ => by
  have : k = z := by omega
  subst this
  exact k3
 | r + 1, i, D, hD, hi, hz, ⟨k, k1, k2, k3⟩ => by
  have hlt := hR.lt
  have hWi := hW i hi (by omega)
  have hri := hr i (by omega)
  obtain ⟨s1, s2⟩ := oP hD hri hWi
  refine EO hr hR hW hc r (i + 1) (fL eB hD hri hWi) (by omega) (by omega) ?_
  by_cases e : k = i
  ·subst e
   have hDk : D k ≠ -1 := by omega
   obtain ⟨n1, n2⟩ := hR.hop hi (by omega)
   obtain ⟨q, qs, hq⟩ := List.exists_cons_of_ne_nil n1
   have hqm : q ∈ eF l m k := by rw [hq]; exact aB ..
   obtain ⟨q1, q2⟩ := n2 q hqm
   refine ⟨q, by omega, q2, ?_⟩
   have := s2 hDk q hqm
   have h3 := Kk ((hD k).nn hDk).2 (il hri hWi).1
   omega
  ·exact ⟨k, by omega, k2, bh k3 (s1 k)⟩
theorem Gz {W : Nat → Nat → Int} {l : List cY} {m : List Int} (hr : ∀ i, i < l.length → dH (l.getD i (0, 0, 0)) = true) {c : Int} (hc : 0 ≤ c ∧ c ≤ 1048577) : ∀ (r i : Nat) {D D0 : Nat → Int}, (∀ k, StepsI (D k)) → (∀ k, StepsI (D0 k)) → r + i ≤ l.length → (∀ k, i ≤ k → k < r + i → dd l k = 21 → StepsI (W (k + 1) (mN m k))) → (∀ j, i ≤ j → D0 j ≠ -1 → dn c (D0 j) ≤ D j) → ∀ j, i + r ≤ j → eG bM W l m r i D0 j ≠ -1 → dn c (eG bM W l m r i D0 j) ≤ eG bM W l m r i D j
 | 0, i, D, D0, hD, hD0, hl, hW, h, j, hj, hn => h j hj hn
 | r + 1, i, D, D0, hD, hD0, hl, hW, h, j, hj, hn => by
  have hWi := hW i (ar _) (by omega)
  have hri := hr i (by omega)
  have hco := il hri hWi
  obtain ⟨s1, s2⟩ := oP hD hri hWi
  refine Gz hr hc r (i + 1) (fL eB hD hri hWi) (fL eB hD0 hri hWi) (by omega) (fun k h1 h2 => hW k (by omega) (by omega)) (fun q hq hq2 => ?_) j (by omega) hn
  by_cases e : D0 i = -1
  ·have e2 : ej bM W l m i D0 = D0 := by unfold ej; rw [if_pos e]
   rw [e2] at hq2 ⊢
   exact bh (h q (by omega) hq2) (s1 q)
  ·have hi := h i (ar _) e
   have hD0i := (hD0 i).nn e
   have hci := fy hc.1 hD0i.1
   have hDi : D i ≠ -1 := by omega
   have hDi2 := (hD i).nn hDi
   have s2 := s2 hDi
   have hv : dn c (dn (D0 i) (eo W l m i)) ≤ dn (D i) (eo W l m i) := by
    rw [← HS hc.1 hD0i.1 hco.1]
    exact AZ hi (aE _)
   have key : ∀ (ks : List Nat) {E : Nat → Int}, (∀ k, StepsI (E k)) → (∀ k ∈ ks, k ∈ eF l m i) → (∀ k, i + 1 ≤ k → E k ≠ -1 → dn c (E k) ≤ ej bM W l m i D k) → ∀ k, i + 1 ≤ k → ks.foldl (fun g k => er bM g k (dn (D0 i) (eo W l m i))) E k ≠ -1 → dn c (ks.foldl (fun g k => er bM g k (dn (D0 i) (eo W l m i))) E k) ≤ ej bM W l m i D k := by
    intro ks
    induction ks with
    | nil => intro E hE hk h0 k hk2 hn; exact h0 k hk2 hn
    | cons q ks ih =>
     intro E hE hk h0
     refine ih (qT eB hE q (fy hD0i.1 hco.1)) (fun k h => hk k (ax _ h)) (fun k hk2 hn => ?_)
     show dn c (er bM E q (dn (D0 i) (eo W l m i)) k) ≤ _
     replace hn : er bM E q (dn (D0 i) (eo W l m i)) k ≠ -1 := hn
     by_cases ek : k = q
     ·subst ek
      have h1 := s2 k (hk k (aB ..))
      unfold er at hn ⊢
      rw [if_pos rfl] at hn ⊢
      by_cases eE : E k = -1
      ·rw [if_pos eE]
       exact bh hv h1
      ·rw [if_neg eE]
       have h2 := h0 k hk2 eE
       unfold bM
       split
       ·exact bh hv h1
       ·exact h2
     ·unfold er at hn ⊢
      rw [if_neg ek] at hn ⊢
      exact h0 k hk2 hn
   have e2 : ej bM W l m i D0 = (eF l m i).foldl (fun g k => er bM g k (dn (D0 i) (eo W l m i))) D0 := by unfold ej; rw [if_neg e]
   rw [e2] at hq2 ⊢
   exact key (eF l m i) hD0 (fun k h => h) (fun k hk hn => bh (h k (by omega) hn) (s1 k)) q hq hq2
theorem EP {l : List cY} {m h : List Int} (hF : Fine l m h) (hC : Closed l m) (hS : xW l) {n : Nat} (hn : l.length < n) {a z : Nat} (hR : Way l m a z) {q : Nat} (hq : qU l m a z q) (hqz : q < z) (ho : dd l q = 23) : dn 2 (dX bM l m n (q + 1) (mN m q)) ≤ dX bM l m n a z := by
 have hlt := hR.reg.lt
 obtain ⟨q1, q2, q3⟩ := hq
 have hqo : dw l q = true := isOpen_iff.2 (.inr ho)
 obtain ⟨j, j1, j2, j3⟩ := hR.reg.loop q q1 hqz hqo
 have hj : mN m q = j := by unfold mN; rw [j1]; rfl
 rw [hj]
 obtain ⟨n, rfl⟩ : ∃ n', n = n' + 1 := ⟨n - 1, by omega⟩
 have hRq : Reg l m (q + 1) j := hj ▸ hF.reg (by omega) hqo
 have hr : ∀ i, i < l.length → dH (l.getD i (0, 0, 0)) = true := fun i hi => hF.right hi
 have hW : ∀ i, a ≤ i → i < z → dd l i = 21 → StepsI (dX bM l m n (i + 1) (mN m i)) := fun i i1 i2 i3 => ju eB hF n (hF.reg (by omega) (isOpen_iff.2 (.inl i3)))
 have hopj : dd l j = 24 := by
  obtain ⟨j', c1, c2, c3, c4, c5⟩ := hC.op_ q (by omega) hqo
  rw [j1] at c1
  have : j = j' := by omega
  subst this
  show (l.getD j (0, 0, 0)).1 = 24
  rw [c4]
  unfold ends
  rw [if_neg (by show ¬ (l.getD q (0, 0, 0)).1 = 21; rw [show (l.getD q (0, 0, 0)).1 = 23 from ho]; decide)]
 show dn 2 (eG bM (dX bM l m n) l m (j - (q + 1)) (q + 1) (fh (q + 1)) j) ≤ eG bM (dX bM l m n) l m (z - a) a (fh a) z
 -- to the block
 rw [show z - a = (q - a) + (z - q) by omega, rZ, show a + (q - a) = q by omega]
 have hD1 : ∀ k, StepsI (eG bM (dX bM l m n) l m (q - a) a (fh a) k) := vA eB hr (q - a) a (gy a) (by omega) (fun k k1 k2 => hW k k1 (by omega))
 have hDq : eG bM (dX bM l m n) l m (q - a) a (fh a) q ≠ -1 := by
  have hRq' : ∀ k, qU l m a z k → k ≤ q → eG bM (dX bM l m n) l m (q - a) a (fh a) k ≠ -1 := by
   -- reached ahead of it
   have gen : ∀ (r i : Nat) {D : Nat → Int}, (∀ k, StepsI (D k)) → a ≤ i → i + r = q → (∀ k, qU l m a z k → k = a ∨ (∃ p, qU l m a z p ∧ p < i ∧ k ∈ eF l m p) → D k ≠ -1) → ∀ k, qU l m a z k → k ≤ q → eG bM (dX bM l m n) l m r i D k ≠ -1 := by
    intro r
    induction r with
    | zero =>
     intro i D hD hi hz hI k hk hkq
     refine hI k hk ?_
     by_cases e : k = a
     ·exact .inl e
     ·obtain ⟨p, p1, p2, p3⟩ := vB hF hS hR hk (by have := hk.1; omega)
      exact .inr ⟨p, p1, by omega, p3⟩
    | succ r ih =>
     intro i D hD hi hz hI k hk hkq
     have hWi := hW i hi (by omega)
     have hri := hr i (by omega)
     refine ih (i + 1) (fL eB hD hri hWi) (by omega) (by omega) (fun k' hk' hp => ?_) k hk hkq
     obtain ⟨s1, s2⟩ := oP hD hri hWi
     have old : D k' ≠ -1 → ej bM (dX bM l m n) l m i D k' ≠ -1 := fun h => by
      have := s1 k'
      have := ((hD k').nn h).1
      omega
     rcases hp with h1 | ⟨p, p1, p2, p3⟩
     ·exact old (hI k' hk' (.inl h1))
     ·by_cases e : p = i
      ·subst e
       have hDp : D p ≠ -1 := by
        refine hI p p1 ?_
        by_cases e : p = a
        ·exact .inl e
        ·obtain ⟨p', a1, a2, a3⟩ := vB hF hS hR p1 (by omega)
         exact .inr ⟨p', a1, a2, a3⟩
       have h3 := s2 hDp k' p3
       have h4 := fy ((hD p).nn hDp).1 (il hri hWi).1
       omega
      ·exact old (hI k' hk' (.inr ⟨p, p1, by omega, p3⟩))
   intro k hk hkq
   refine gen (q - a) a (gy a) (ar _) (by omega) (fun k' hk' hp => ?_) k hk hkq
   rcases hp with e | ⟨p, p1, p2, _⟩
   ·subst e; unfold fh; rw [if_pos rfl]; decide
   ·have := p1.1; omega
  exact hRq' q ⟨q1, q2, q3⟩ (ar _)
 generalize hDD : eG bM (dX bM l m n) l m (q - a) a (fh a) = D at hD1 hDq
 have hd := (hD1 q).nn hDq
 -- the block's own step
 rw [show z - q = 1 + ((j - (q + 1)) + (z - j)) by omega, rZ]
 show dn 2 _ ≤ eG bM (dX bM l m n) l m ((j - (q + 1)) + (z - j)) (q + 1) (ej bM (dX bM l m n) l m q D) z
 have hWq := hW q q1 hqz
 have hrq := hr q (by omega)
 obtain ⟨s1, s2⟩ := oP hD1 hrq hWq
 have hD2 := fL eB hD1 hrq hWq
 have hop : eF l m q = [q + 1] := by unfold eF; rw [if_neg (by rw [ho]; decide), if_neg (by rw [ho]; decide), if_neg (by rw [ho]; decide)]
 have hcq : eo (dX bM l m n) l m q = 1 := by unfold eo; rw [if_neg (by rw [ho]; decide)]
 have h2 := s2 hDq (q + 1) (by rw [hop]; simp)
 rw [hcq] at h2
 generalize ej bM (dX bM l m n) l m q D = D2 at hD2 h2
 have h3 : (1 : Int) ≤ D2 (q + 1) := by
  have : (1 : Int) ≤ dn (D q) 1 := by unfold dn; split <;> omega
  omega
 -- what stands in it
 rw [rZ, show q + 1 + (j - (q + 1)) = j by omega]
 have hw0 := kH eB hF hS (n + 1) (show Way l m (q + 1) j from hj ▸ hF.way (by omega) hqo)
 have hw1 : dX bM l m (n + 1) (q + 1) j = eG bM (dX bM l m n) l m (j - (q + 1)) (q + 1) (fh (q + 1)) j := rfl
 rw [hw1] at hw0
 have h4 := Gz hr (c := 1) (by decide) (W := dX bM l m n) (j - (q + 1)) (q + 1) (D := D2) (D0 := fh (q + 1)) hD2 (gy _) (by omega) (fun k k1 k2 => hW k (by omega) (by omega)) (fun k k1 k2 => by
  unfold fh at k2 ⊢
  by_cases e : k = q + 1
  ·subst e; rw [if_pos rfl]; unfold dn; split <;> omega
  ·rw [if_neg e] at k2; exact absurd rfl k2) j (by omega) (by omega)
 have hD3 := vA eB hr (W := dX bM l m n) (j - (q + 1)) (q + 1) hD2 (by omega) (fun k k1 k2 => hW k (by omega) (by omega))
 generalize eG bM (dX bM l m n) l m (j - (q + 1)) (q + 1) (fh (q + 1)) j = w at hw0 h4
 generalize eG bM (dX bM l m n) l m (j - (q + 1)) (q + 1) D2 = D3 at hD3 h4
 -- behind it
 rw [show z - j = (z - (j + 1)) + 1 by omega]
 show dn 2 w ≤ eG bM (dX bM l m n) l m (z - (j + 1)) (j + 1) (ej bM (dX bM l m n) l m j D3) z
 have hWj := hW j (by omega) (by omega)
 have hrj := hr j (by omega)
 obtain ⟨t1, t2⟩ := oP hD3 hrj hWj
 have h1w := fy (show (0 : Int) ≤ 1 by decide) hw0.1
 have hDj : D3 j ≠ -1 := by omega
 have hopj' : eF l m j = [j + 1] := by unfold eF; rw [if_neg (by rw [hopj]; decide), if_neg (by rw [hopj]; decide), if_neg (by rw [hopj]; decide)]
 have hcj : eo (dX bM l m n) l m j = 1 := by unfold eo; rw [if_neg (by rw [hopj]; decide)]
 have h5 := t2 hDj (j + 1) (by rw [hopj']; simp)
 rw [hcj] at h5
 refine EO hr hR.reg hW (by have := fy (show (0 : Int) ≤ 2 by decide) hw0.1; omega) (z - (j + 1)) (j + 1) (fL eB hD3 hrj hWj) (by omega) (by omega) ⟨j + 1, by omega, by omega, ?_⟩
 refine bh ?_ h5
 have : dn 2 w = dn (dn 1 w) 1 := by unfold dn; split <;> split <;> (try split) <;> omega
 rw [this]
 exact AZ h4 (aE _)
theorem xY {l : List cY} (h : ec l = 0) {i : Nat} (hi : i < l.length) : jk l (dt l).1 i = false := by
 have hw := gG h
 unfold ec at h
 rw [if_neg (show ¬ (eX l ≠ 0) from fun k => k hw)] at h
 by_cases ha : eY (BZ l (dt l).1) l.length 0 = true
 ·have := allF_iff.1 ha i (ao _) (by omega)
  unfold BZ at this
  simpa using this
 ·rw [if_neg ha] at h
  cases h
theorem MC {l : List cY} (h : ec l = 0) {p q : Nat} (hpq : p < q) (hq : q < l.length) (hp3 : dd l p = 23) (hq3 : dd l q = 23) : q < mN (dt l).1 p ∧ dL l p < dL l q := by
 have hs := jt (gG h)
 have hC := lD hs
 have hb := xY h hq
 unfold jk at hb
 rw [if_pos hq3, bE] at hb
 obtain ⟨hb1, hb2⟩ := hb
 obtain ⟨j, j1, j2, j3, j4, j5⟩ := hC.op_ p (by omega) (isOpen_iff.2 (.inr hp3))
 have hj : mN (dt l).1 p = j := by unfold mN; rw [j1]; rfl
 have hopj : dd l j = 24 := by
  show (l.getD j (0, 0, 0)).1 = 24
  rw [j4]
  unfold ends
  rw [if_neg (by rw [show (l.getD p (0, 0, 0)).1 = 23 from hp3]; decide)]
 have hlt : q < j := by
  rcases Nat.lt_trichotomy j q with hlt | he | hgt
  ·exfalso
   have : gZ l q = true := anyB_iff.2 ⟨j, hlt, by simp [hopj]⟩
   rw [this] at hb1; cases hb1
  ·subst he; rw [hopj] at hq3; cases hq3
  ·exact hgt
 refine ⟨by omega, ?_⟩
 rcases Int.lt_or_le (dL l p) (dL l q) with h1 | h1
 ·exact h1
 ·exfalso
  have he : enc l (dt l).1 p q = true := (nU (isOpen_iff.2 (.inr hp3)) j1).2 ⟨hpq, by omega⟩
  have : pE l (dt l).1 q = true := anyB_iff.2 ⟨p, hpq, by rw [he, hp3]; simp; exact h1⟩
  rw [this] at hb2; cases hb2
theorem Cd {l : List cY} (h : ec l = 0) {a z q : Nat} (ha : a ≤ q) (hz : q ≤ z) (hq : q < l.length) (hq3 : dd l q = 23) : qU l (dt l).1 a z q := by
 have hs := jt (gG h)
 have hC := lD hs
 have hb := xY h hq
 unfold jk at hb
 rw [if_pos hq3, bE] at hb
 refine ⟨ha, hz, fun p p1 p2 p3 => ?_⟩
 obtain ⟨j, j1, j2, j3, j4, j5⟩ := hC.op_ p (by omega) (isOpen_iff.2 (.inl p3))
 have hj : mN (dt l).1 p = j := by unfold mN; rw [j1]; rfl
 rcases am (mN (dt l).1 p) q with h1 | h1
 ·exact h1
 ·exfalso
  have he : enc l (dt l).1 p q = true := (nU (isOpen_iff.2 (.inl p3)) j1).2 ⟨p2, by omega⟩
  have : pE l (dt l).1 q = true := anyB_iff.2 ⟨p, p2, by rw [he, p3]; simp⟩
  rw [this] at hb; cases hb.2
theorem EQ {l : List cY} {m : List Int} {n : Nat} : ∀ (r i : Nat), ∀ e ∈ gz l m n r i, ∃ p, i ≤ p ∧ p < i + r ∧ dd l p = 23 ∧ e = (dL l p, dX bM l m n (p + 1) (mN m p) + 1)
 | 0, i, e, he => by cases he
 | r + 1, i, e, he => by
  unfold gz at he
  rcases az.1 he with h | h
  ·split at h
   ·rename_i h3
    refine ⟨i, ar _, by omega, h3, ?_⟩
    simpa using h
   ·cases h
  ·obtain ⟨p, p1, p2, p3⟩ := EQ r (i + 1) e h
   exact ⟨p, by omega, by omega, p3⟩
theorem wD {l : List cY} (h : ec l = 0) : Fine l (dt l).1 (dt l).2.1 ∧ Closed l (dt l).1 := ⟨nJ (gG h), lD (jt (gG h))⟩
theorem Kl {l : List cY} {n : Nat} (h : ec l = 0) (hS : xW l) (hn : l.length < n) (hw : dX bM l (dt l).1 n 0 (l.length - 1) < 1048577) : ∀ (r i : Nat), i + r = l.length → (gz l (dt l).1 n r i).Pairwise (fun a b => b.2 + 2 ≤ a.2 ∧ a.1 < b.1) ∧ ∀ e ∈ gz l (dt l).1 n r i, 1 ≤ e.2 ∧ e.2 + 1 ≤ dX bM l (dt l).1 n 0 (l.length - 1) := by
 obtain ⟨hF, hC⟩ := wD h
 obtain ⟨l1, l2⟩ := hF.len
 have hend : ∀ p, p < l.length → dd l p = 23 → p < l.length - 1 := fun p hp h3 => by
  have := hF.succ hp (by rw [h3]; decide)
  omega
 have one : ∀ p, p < l.length → dd l p = 23 → 0 ≤ dX bM l (dt l).1 n (p + 1) (mN (dt l).1 p) ∧ dX bM l (dt l).1 n (p + 1) (mN (dt l).1 p) + 2 ≤ dX bM l (dt l).1 n 0 (l.length - 1) := fun p hp h3 => by
  have k1 := EP hF hC hS hn hF.wayAll (Cd h (ao p) (by have := hend p hp h3; omega) hp h3) (hend p hp h3) h3
  have k2 := kH eB hF hS n (hF.way hp (isOpen_iff.2 (.inr h3)))
  refine ⟨k2.1, ?_⟩
  unfold dn at k1
  split at k1 <;> omega
 intro r
 induction r with
 | zero => intro i hi; exact ⟨List.Pairwise.nil, fun e he => by cases he⟩
 | succ r ih =>
  intro i hi
  obtain ⟨g1, g2⟩ := ih (i + 1) (by omega)
  unfold gz
  by_cases h3 : dd l i = 23
  ·rw [if_pos h3]
   have hi1 : i < l.length := by omega
   obtain ⟨o1, o2⟩ := one i hi1 h3
   refine ⟨List.Pairwise.cons (fun e he => ?_) g1, fun e he => ?_⟩
   ·obtain ⟨p, p1, p2, p3, rfl⟩ := EQ r (i + 1) e he
    have hp1 : p < l.length := by omega
    obtain ⟨c1, c2⟩ := MC h (show i < p by omega) hp1 h3 p3
    have k1 := EP hF hC hS hn (hF.way hi1 (isOpen_iff.2 (.inr h3))) (Cd h (show i + 1 ≤ p by omega) (by omega) hp1 p3) c1 p3
    have k2 := (one p hp1 p3).1
    refine ⟨?_, c2⟩
    show _ + 1 + 2 ≤ _ + 1
    unfold dn at k1
    split at k1 <;> omega
   ·rcases aA.1 he with rfl | he
    ·exact ⟨by show 1 ≤ _ + 1; omega, by show _ + 1 + 1 ≤ _; omega⟩
    ·exact g2 e he
  ·rw [if_neg h3, bQ]
   exact ⟨g1, g2⟩
theorem P6 {D E : Nat → Int} (hD : ∀ k, StepsI (D k)) (hE : ∀ k, StepsI (E k)) (h : ∀ k, (D k = -1 ↔ E k = -1) ∧ D k ≤ E k) {k : Nat} {u v : Int} (huv : u ≤ v) (hu : 0 ≤ u) : ∀ j, (er bL D k u j = -1 ↔ er bM E k v j = -1) ∧ er bL D k u j ≤ er bM E k v j := fun j => by
 unfold er
 by_cases e : j = k
 ·subst e
  rw [if_pos rfl, if_pos rfl]
  obtain ⟨h1, h2⟩ := h j
  by_cases e2 : D j = -1
  ·rw [if_pos e2, if_pos (h1.1 e2)]
   exact ⟨by constructor <;> intro <;> omega, huv⟩
  ·have e3 : ¬ E j = -1 := fun k => e2 (h1.2 k)
   rw [if_neg e2, if_neg e3]
   have a1 := ((hD j).nn e2).1
   have a2 := ((hE j).nn e3).1
   unfold bL bM
   split <;> split <;> exact ⟨by constructor <;> intro <;> omega, by omega⟩
 ·rw [if_neg e, if_neg e]
  exact h j
theorem GA {u v : Int} (huv : u ≤ v) (hu : 0 ≤ u ∧ u ≤ 1048577) (hv : v ≤ 1048577) : ∀ (ks : List Nat) {D E : Nat → Int}, (∀ k, StepsI (D k)) → (∀ k, StepsI (E k)) → (∀ k, (D k = -1 ↔ E k = -1) ∧ D k ≤ E k) → ∀ j, (ks.foldl (fun g k => er bL g k u) D j = -1 ↔ ks.foldl (fun g k => er bM g k v) E j = -1) ∧ ks.foldl (fun g k => er bL g k u) D j ≤ ks.foldl (fun g k => er bM g k v) E j
 | [], D, E, hD, hE, h, j => h j
 | k :: ks, D, E, hD, hE, h, j => GA huv hu hv ks (D := er bL D k u) (E := er bM E k v) (qT uU hD k hu) (qT eB hE k ⟨by omega, hv⟩) (P6 hD hE h huv hu.1) j
theorem MD {v w A : Int} (hv : 0 ≤ v) (hvw : v ≤ w) (hw : w ≤ 1048577) (hA : 1 ≤ A) : f7 v A ≤ f7 w A := by
 have key : ∀ x : Int, 0 ≤ x → x ≤ 1048577 → (if x + 1 ≥ 1048577 then f7 x A = 1048577 else f7 x A = min (1 + A * (x + 1)) 1048577) := fun x hx hx2 => by
  unfold f7
  by_cases h : x + 1 ≥ 1048577
  ·rw [if_pos h]
   have : dn x 1 = 1048577 := by unfold dn; split <;> omega
   rw [if_pos this]
  ·rw [if_neg h]
   have : dn x 1 = x + 1 := by unfold dn; split <;> omega
   rw [this, if_neg (by omega)]
   unfold dn
   omega
 have k1 := key v hv (by omega)
 have k2 := key w (by omega) hw
 have hm : A * (v + 1) ≤ A * (w + 1) := Int.mul_le_mul_of_nonneg_left (by omega) (by omega)
 have hb : f7 v A ≤ 1048577 := (loopI_cap v A)
 split at k1 <;> split at k2 <;> omega
where
 loopI_cap (v A : Int) : f7 v A ≤ 1048577 := by
  unfold f7
  split
  ·omega
  ·unfold dn; split <;> omega
theorem Km {W W' : Nat → Nat → Int} {l : List cY} {m : List Int} (hr : ∀ i, i < l.length → dH (l.getD i (0, 0, 0)) = true) : ∀ (r i : Nat) {D E : Nat → Int}, (∀ k, StepsI (D k)) → (∀ k, StepsI (E k)) → r + i ≤ l.length → (∀ k, i ≤ k → k < r + i → dd l k = 21 → StepsI (W (k + 1) (mN m k)) ∧ StepsI (W' (k + 1) (mN m k)) ∧ 0 ≤ W (k + 1) (mN m k) ∧ W (k + 1) (mN m k) ≤ W' (k + 1) (mN m k)) → (∀ k, (D k = -1 ↔ E k = -1) ∧ D k ≤ E k) → ∀ j, (eG bL W l m r i D j = -1 ↔ eG bM W' l m r i E j = -1) ∧ eG bL W l m r i D j ≤ eG bM W' l m r i E j
 | 0, i, D, E, hD, hE, hl, hW, h, j => h j
 | r + 1, i, D, E, hD, hE, hl, hW, h, j => by
  have hWi := hW i (ar _) (by omega)
  have hri := hr i (by omega)
  have w1 := il hri (fun e => (hWi e).1)
  have w2 := il hri (fun e => (hWi e).2.1)
  have hc : eo W l m i ≤ eo W' l m i := by
   unfold eo
   by_cases e : dd l i = 21
   ·rw [if_pos e, if_pos e]
    obtain ⟨q1, q2, q3, q4⟩ := hWi e
    have hA : 1 ≤ dL l i := by
     have hri' := hri
     rw [show l.getD i (0, 0, 0) = (21, dL l i, (l.getD i (0, 0, 0)).2.2) from by rw [← e]] at hri'
     exact (vz hri').1
    exact MD q3 q4 (q2.nn (by omega)).2 hA
   ·rw [if_neg e, if_neg e]; omega
  refine Km hr r (i + 1) (fL uU hD hri (fun e => (hWi e).1)) (fL eB hE hri (fun e => (hWi e).2.1)) (by omega) (fun k h1 h2 => hW k (by omega) (by omega)) (fun k => ?_) j
  unfold ej
  by_cases e : D i = -1
  ·rw [if_pos e, if_pos ((h i).1.1 e)]
   exact h k
  ·have e' : ¬ E i = -1 := fun x => e ((h i).1.2 x)
   rw [if_neg e, if_neg e']
   exact GA (AZ (h i).2 hc) (fy ((hD i).nn e).1 w1.1) (fy ((hE i).nn e').1 w2.1).2 _ hD hE h k
theorem Kn {l : List cY} {m h : List Int} (hF : Fine l m h) (hS : xW l) : ∀ (f : Nat) {a z : Nat}, Way l m a z → dX bL l m f a z ≤ dX bM l m f a z
 | 0, a, z, hR => aE _
 | f + 1, a, z, hR => by
  have hlt := hR.reg.lt
  have hle := hR.reg.le
  refine (Km (fun i hi => hF.right hi) (z - a) a (gy a) (gy a) (by omega) (fun k k1 k2 k3 => ?_) (fun k => ⟨Iff.rfl, aE _⟩) z).2
  have hk := hF.way (show k < l.length by omega) (isOpen_iff.2 (.inl k3))
  exact ⟨ju uU hF f hk.reg, ju eB hF f hk.reg, (kH uU hF hS f hk).1, Kn hF hS f hk⟩
theorem r4 (n : Nat) (l : List cY) (h : (eH bM n l).2 = 0) : (eH bL n l).2 = 0 ∧ 1 ≤ (eH bL n l).1 ∧ (eH bL n l).1 ≤ (eH bM n l).1 ∧ (eH bM n l).1 = dX bM l (dt l).1 n 0 (l.length - 1) + 1 ∧ (eH bM n l).1 ≤ 1048576 := by
 obtain ⟨h1, h2⟩ := rY h
 obtain ⟨hF, hC⟩ := wD h1
 have hS := (AY h2).2
 have r1 := kH uU hF hS n hF.wayAll
 have r2 := kH eB hF hS n hF.wayAll
 have r3 := Kn hF hS n hF.wayAll
 unfold eH at h ⊢
 rw [if_neg (show ¬ (ec l ≠ 0) from fun k => k h1), if_neg (show ¬ (fK l ≠ 0) from fun k => k h2)] at h ⊢
 rw [if_neg (show ¬ (ec l ≠ 0) from fun k => k h1), if_neg (show ¬ (fK l ≠ 0) from fun k => k h2)]
 split at h
 ·cases h
 ·rename_i hne
  rw [if_neg hne]
  unfold dn at hne ⊢
  split at hne
  ·exact absurd rfl hne
  ·rename_i h5
   rw [if_neg h5, if_neg (show ¬ (1048577 < dX bL l (dt l).1 n 0 (l.length - 1) + 1) by omega), if_neg (by omega)]
   exact ⟨rfl, by show 1 ≤ _ + 1; omega, by show _ + 1 ≤ _ + 1; omega, rfl, by show _ + 1 ≤ (1048576 : Int); omega⟩
theorem d5 {X R : Type} {S : (X → Option R) → X → Option R} (Q : Nat → X → R → Prop) (h0 : ∀ x r, ¬ Q 0 x r) (h : ∀ f x F, (∀ y r, Q f y r → F y = some r) → ∀ r, Q (f + 1) x r → S F x = some r) : ∀ f x r, Q f x r → it S f x = some r
 | 0, x, r, hq => absurd hq (h0 x r)
 | f + 1, x, r, hq => h f x (it S f) (d5 Q h0 h f) r hq
abbrev Tsk := Int × Int × Int × Int × List Int × List Int × List cY
abbrev Img := Int × Int × Int × Int × List Int × List (List Int) × List Tsk
abbrev Tsk.blocks (t : Tsk) : List Int := t.2.2.2.2.1
abbrev Tsk.outs (t : Tsk) : List Int := t.2.2.2.2.2.1
abbrev Tsk.code (t : Tsk) : List cY := t.2.2.2.2.2.2
abbrev Img.inputs (m : Img) : Int := m.2.2.2.1
abbrev Img.safe (m : Img) : List Int := m.2.2.2.2.1
abbrev Img.blocks (m : Img) : List (List Int) := m.2.2.2.2.2.1
abbrev Img.tasks (m : Img) : List Tsk := m.2.2.2.2.2.2
theorem dK {α : Type} {l : List α} {i : Nat} {d : α} (h : i < l.length) : l.drop i = l.getD i d :: l.drop (i + 1) := by
 rw [b9 h, aq, au h]
 rfl
theorem NE (n : Nat) (t : Tsk) (m : Img) (p : Int) (hl : t.outs.length < n) (hn : n < 1000000) : tW n (t, m) p = some (t.outs.contains p) := by
 unfold tW tV
 have := d5 (S := fun F => (dm q_) (qv n F)) (fun f x r => ∃ i : Nat, x = (p, t.outs, (t.outs.length : Int), (i : Int)) ∧ i ≤ t.outs.length ∧ t.outs.length < f + i ∧ r = if (t.outs.drop i).contains p = true then .inl ((true, ()), ()) else .inr ((), ())) (fun x r ⟨i, _, h1, h2, _⟩ => by omega) (fun f x F hF r => ?_) n (p, t.outs, (t.outs.length : Int), 0) _ ⟨0, rfl, ao _, by omega, rfl⟩
 ·rw [this, bi]
  cases h : t.outs.contains p <;> rfl
 ·rintro ⟨i, rfl, h1, h2, rfl⟩
  show qv n F p t.outs (t.outs.length : Int) (i : Int) = _
  unfold qv
  rcases am i t.outs.length with hlt | hge
  ·rw [if_pos (af (by omega)), if_pos (dc hlt), ai, di (by omega), dK (d := (0 : Int)) hlt, List.contains_cons]
   by_cases e : t.outs.getD i 0 = p
   ·rw [if_pos (ag.2 e), e, bg, Bool.true_or, if_pos rfl]
   ·rw [if_neg (fun h => e (ag.1 h))]
    have e2 : (p == t.outs.getD i 0) = false := by rw [aQ]; exact fun h => e h.symm
    rw [e2, ct]
    exact hF _ _ ⟨i + 1, rfl, by omega, by omega, rfl⟩
  ·have : i = t.outs.length := by omega
   subst this
   rw [if_neg (by simp), aR]
   rfl
def jw (m : Img) (t : Tsk) (i : cY) : Bool :=
 if i.1 = 15 then decide (i.2.1 < m.inputs) else if i.1 = 16 then t.outs.contains i.2.1 else if i.1 = 17 then decide (i.2.2 < ((m.blocks.getD i.2.1.toNat []).length : Int)) else if i.1 = 18 then decide (i.2.2 < ((m.blocks.getD i.2.1.toNat []).length : Int)) else true
theorem NF (n : Nat) (t : Tsk) (m : Img) (i : cY) (ho : t.outs.length < n) (hn : n < 1000000) (hb : i.1 = 17 ∨ i.1 = 18 → 0 ≤ i.2.1 ∧ i.2.1 < (m.blocks.length : Int)) (l : List cY) (v k : Int) :
  yY n true l v k t.1 t.2.1 t.2.2.1 t.2.2.2.1 t.2.2.2.2.1 t.2.2.2.2.2.1 t.2.2.2.2.2.2 m.1 m.2.1 m.2.2.1 m.2.2.2.1 m.2.2.2.2.1 m.2.2.2.2.2.1 m.2.2.2.2.2.2 i.1 i.2.1 i.2.2 = some (jw m t i, l, v, k, t.1, t.2.1, t.2.2.1, t.2.2.2.1, t.2.2.2.2.1, t.2.2.2.2.2.1, t.2.2.2.2.2.2, m.1, m.2.1, m.2.2.1, m.2.2.2.1, m.2.2.2.2.1, m.2.2.2.2.2.1, m.2.2.2.2.2.2, i.1, i.2.1, i.2.2) := by
 unfold yY jw
 by_cases h15 : i.1 = 15
 ·rw [if_pos (ag.2 h15), if_pos h15]
 rw [if_neg (fun h => h15 (ag.1 h)), if_neg h15]
 by_cases h16 : i.1 = 16
 ·rw [if_pos (ag.2 h16), if_pos h16]
  have := NE n t m i.2.1 ho hn
  show ((tW n (t, m) i.2.1).bind _) = _
  rw [this]; rfl
 rw [if_neg (fun h => h16 (ag.1 h)), if_neg h16]
 by_cases h17 : i.1 = 17
 ·have := hb (.inl h17)
  rw [if_pos (ag.2 h17), if_pos h17, if_pos (by rw [af this.1, af this.2]; rfl)]
 rw [if_neg (fun h => h17 (ag.1 h)), if_neg h17]
 by_cases h18 : i.1 = 18
 ·have := hb (.inr h18)
  rw [if_pos (ag.2 h18), if_pos h18, if_pos (by rw [af this.1, af this.2]; rfl)]
 rw [if_neg (fun h => h18 (ag.1 h)), if_neg h18]
theorem ME (n : Nat) (t : Tsk) (m : Img) (hl : t.code.length < n) (ho : t.outs.length < n) (hn : n < 1000000) (hb : ∀ i ∈ t.code, i.1 = 17 ∨ i.1 = 18 → 0 ≤ i.2.1 ∧ i.2.1 < (m.blocks.length : Int)) : yZ n (t, m) = some (if t.code.all (jw m t) = true then 0 else 12) := by
 unfold yZ xw
 have := d5 (S := fun F => (eS (dI (dm (C_ q_)))) (tY n F))
  (fun f x r => ∃ i : Nat, x = (t.code, (t.code.length : Int), (i : Int), t.1, t.2.1, t.2.2.1, t.2.2.2.1, t.2.2.2.2.1, t.2.2.2.2.2.1, t.2.2.2.2.2.2, m) ∧ i ≤ t.code.length ∧ t.code.length < f + i ∧ r = if (t.code.drop i).all (jw m t) = true then .inr ((), ((t.1, t.2.1, t.2.2.1, t.2.2.2.1, t.2.2.2.2.1, t.2.2.2.2.2.1, t.2.2.2.2.2.2, m.1, m.2.1, m.2.2.1, m.2.2.2.1, m.2.2.2.2.1, m.2.2.2.2.2.1, m.2.2.2.2.2.2, ()), ())) else .inl ((12, ()), ((t.1, t.2.1, t.2.2.1, t.2.2.2.1, t.2.2.2.2.1, t.2.2.2.2.2.1, t.2.2.2.2.2.2, m.1, m.2.1, m.2.2.1, m.2.2.2.1, m.2.2.2.2.1, m.2.2.2.2.2.1, m.2.2.2.2.2.2, ()), ()))) (fun x r ⟨i, _, h1, h2, _⟩ => by omega) (fun f x F hF r => ?_) n (t.code, (t.code.length : Int), 0, t.1, t.2.1, t.2.2.1, t.2.2.2.1, t.2.2.2.2.1, t.2.2.2.2.2.1, t.2.2.2.2.2.2, m) _ ⟨0, rfl, ao _, by omega, rfl⟩
 ·try dsimp only at this ⊢
  rw [this, bi]
  cases h : t.code.all (jw m t) <;> rfl
 ·rintro ⟨i, rfl, h1, h2, rfl⟩
  show tY n F t.code (t.code.length : Int) (i : Int) t.1 t.2.1 t.2.2.1 t.2.2.2.1 t.2.2.2.2.1 t.2.2.2.2.2.1 t.2.2.2.2.2.2 m.1 m.2.1 m.2.2.1 m.2.2.2.1 m.2.2.2.2.1 m.2.2.2.2.2.1 m.2.2.2.2.2.2 = _
  unfold tY
  rcases am i t.code.length with hlt | hge
  ·have hm : t.code.getD i (0, 0, 0) ∈ t.code := by rw [aq, au hlt]; exact aU hlt
   rw [if_pos (af (by omega)), if_pos (dc hlt), ai, NF n t m _ ho hn (hb _ hm), dK (d := ((0 : Int), (0 : Int), (0 : Int))) hlt, b6]
   simp only [ae]
   cases e : jw m t (t.code.getD i (0, 0, 0)) with
   | true =>
    rw [if_neg (by simp), di (by omega), aT]
    exact hF _ _ ⟨i + 1, rfl, by omega, by omega, rfl⟩
   | false => rfl
  ·have : i = t.code.length := by omega
   subst this
   rw [if_neg (by simp), aR]
   rfl
theorem Ko (l : List cY) (i : Nat) : (j9 l i).length ≤ 1 := by unfold j9; split <;> simp
theorem Ce (l : List cY) : ∀ (r i : Nat), (gw l r i).length ≤ r
 | 0, i => by simp [gw]
 | r + 1, i => by
  have := Ce l r (i + 1)
  have h1 := Ko l i
  rw [show gw l (r + 1) i = j9 l i ++ gw l r (i + 1) from rfl, aK]
  omega
theorem Kp (l : List cY) : (fp l).length ≤ l.length := by
 unfold fp
 split
 ·exact Ce l _ _
 ·simp
theorem Kq (n : Nat) (t : Tsk) (m : Img) (hl : t.code.length < n) (hn3 : 3 < n) (hn : n < 1000000) : tT n (t, m) = some (if ec t.code ≠ 0 then ec t.code else if fp t.code = t.blocks then 0 else 11) := by
 unfold tT
 rw [show mI n ((t, m) : Tsk × Img).1.2.2.2.2.2.2 = some (fp t.code, ec t.code) from B0 n t.code hl hn]
 simp only [ae]
 by_cases h0 : ec t.code ≠ 0
 ·rw [if_pos (aj.2 h0), if_pos h0]
 rw [if_neg (fun h => h0 (aj.1 h)), if_neg h0]
 by_cases hlen : (fp t.code).length ≠ t.blocks.length
 ·rw [if_pos (show ((((fp t.code).length : Nat) : Int) != ((t.2.2.2.2.1.length : Nat) : Int)) = true from aj.2 (fun h => hlen (Int.ofNat.inj h))), if_neg (fun h => hlen (by rw [h]))]
 have hlen : (fp t.code).length = t.blocks.length := Decidable.not_not.1 hlen
 rw [if_neg (show ¬ ((((fp t.code).length : Nat) : Int) != ((t.2.2.2.2.1.length : Nat) : Int)) = true from fun h => aj.1 h (congrArg Int.ofNat hlen))]
 unfold tS
 have hk : (fp t.code).length ≤ t.code.length := Kp t.code
 generalize fp t.code = L at hlen hk
 have := d5 (S := fun F => (eS (dI (dm (C_ q_)))) (qu n F))
  (fun f x r => ∃ i : Nat, x = (L, (L.length : Int), (i : Int), t.1, t.2.1, t.2.2.1, t.2.2.2.1, t.2.2.2.2.1, t.2.2.2.2.2.1, t.2.2.2.2.2.2, m) ∧ i ≤ L.length ∧ L.length < f + i ∧ r = if L.drop i = t.blocks.drop i then .inr ((), ((t.1, t.2.1, t.2.2.1, t.2.2.2.1, t.2.2.2.2.1, t.2.2.2.2.2.1, t.2.2.2.2.2.2, m.1, m.2.1, m.2.2.1, m.2.2.2.1, m.2.2.2.2.1, m.2.2.2.2.2.1, m.2.2.2.2.2.2, ()), ())) else .inl ((11, ()), ((t.1, t.2.1, t.2.2.1, t.2.2.2.1, t.2.2.2.2.1, t.2.2.2.2.2.1, t.2.2.2.2.2.2, m.1, m.2.1, m.2.2.1, m.2.2.2.1, m.2.2.2.2.1, m.2.2.2.2.2.1, m.2.2.2.2.2.2, ()), ()))) (fun x r ⟨i, _, h1, h2, _⟩ => by omega) (fun f x F hF r => ?_) n (L, (L.length : Int), 0, t.1, t.2.1, t.2.2.1, t.2.2.2.1, t.2.2.2.2.1, t.2.2.2.2.2.1, t.2.2.2.2.2.2, m) _ ⟨0, rfl, ao _, by omega, rfl⟩
 ·try dsimp only at this ⊢
  rw [this, bi, bi]
  by_cases h : L = t.blocks
  ·rw [if_pos h, if_pos h]; rfl
  ·rw [if_neg h, if_neg h]; rfl
 ·rintro ⟨i, rfl, h1, h2, rfl⟩
  show qu n F L (L.length : Int) (i : Int) t.1 t.2.1 t.2.2.1 t.2.2.2.1 t.2.2.2.2.1 t.2.2.2.2.2.1 t.2.2.2.2.2.2 m.1 m.2.1 m.2.2.1 m.2.2.2.1 m.2.2.2.2.1 m.2.2.2.2.2.1 m.2.2.2.2.2.2 = _
  unfold qu
  rcases am i L.length with hlt | hge
  ·have hlt2 : i < t.2.2.2.2.1.length := by have : t.blocks.length = t.2.2.2.2.1.length := rfl; omega
   rw [if_pos (af (by omega)), if_pos (dc hlt), if_pos (dc hlt2), ai, dK (d := (0 : Int)) hlt, show t.blocks.drop i = t.2.2.2.2.1.getD i 0 :: t.blocks.drop (i + 1) from dK (d := (0 : Int)) hlt2]
   by_cases e : L.getD i 0 = t.2.2.2.2.1.getD i 0
   ·rw [if_neg (fun h => aj.1 h e), di (by omega), e]
    refine hF _ _ ⟨i + 1, rfl, by omega, by omega, ?_⟩
    simp only [bB, true_and]
   ·rw [if_pos (aj.2 e), if_neg (fun h => e (List.cons.inj h).1)]
  ·have : i = L.length := by omega
   subst this
   rw [if_neg (by simp), aR, hlen, aR]
   rfl
theorem r5 (n : Int) : IntKind.u64.wrap n = n % 18446744073709551616 := by simp [IntKind.wrap, IntKind.bits, IntKind.signed]
theorem NG (n : Nat) (a : Int) : ∃ y, ml n a = some y ∧ 0 ≤ y ∧ y < 18446744073709551616 := by
 unfold ml
 refine ⟨_, rfl, ?_, ?_⟩
 ·unfold bits
  rw [r5]
  exact Int.emod_nonneg _ (by decide)
 ·unfold bits
  rw [r5]
  exact Int.emod_lt_of_pos _ (by decide)
theorem ER (n : Nat) : ∀ (f g : Nat) (o : List Int) (v : Int), 0 ≤ v → v < 128 ^ g → g < f → o.length + g < 1000 → ∃ o' v', it (fun F => q_ (iL n F)) f (o, v) = some (o', v') ∧ o'.length ≤ o.length + g
 | 0, g, o, v, h0, h1, hg, h2 => by omega
 | f + 1, g, o, v, h0, h1, hg, h2 => by
  have ih := ER n f
  show ∃ o' v', iL n (it _ f) o v = some (o', v') ∧ _
  generalize it (fun F => q_ (iL n F)) f = F at ih ⊢
  unfold iL
  by_cases h : 128 ≤ v
  ·obtain _ | g := g
   ·rw [Int.pow_zero] at h1
    omega
   rw [if_pos (af h), if_pos (by rw [af (by omega), af (by omega)]; rfl)]
   have hd : v.tdiv 128 = v / 128 := cf h0
   have hv : v / 128 < 128 ^ g := by
    rw [Int.pow_succ] at h1
    exact Int.ediv_lt_of_lt_mul (by decide) h1
   obtain ⟨o', v', h3, h4⟩ := ih g (o ++ [(IntKind.wrap .u8 (IntKind.wrap .u64 ((v.tmod 128) + 128)))]) ((IntKind.wrap .u64 (v.tdiv 128))) (by rw [r5]; exact Int.emod_nonneg _ (by decide)) (by
    rw [r5, hd]
    exact Int.lt_of_le_of_lt (by omega) hv) (by omega) (by rw [aK]; show _ + 1 + g < 1000; omega)
   rw [aK] at h4
   exact ⟨o', v', h3, by have : [IntKind.u8.wrap (IntKind.u64.wrap (v.tmod 128 + 128))].length = 1 := rfl; omega⟩
  ·rw [if_neg (by simpa using h)]
   exact ⟨o, v, rfl, by omega⟩
theorem uY (l : List Int) : (ew l).size = l.length := by
 unfold ew ByteArray.size
 simp
theorem Kr (n : Nat) (hn : 10 < n) (a : Int) : ∃ y, fz n a = some y ∧ y.size ≤ 11 := by
 obtain ⟨u, h1, h2, h3⟩ := NG n a
 unfold fz ng
 rw [h1, ae]
 obtain ⟨o, v, h4, h5⟩ := ER n n 10 [] u h2 (Int.lt_trans h3 (by decide)) hn (by decide)
 have h5 : o.length ≤ 10 := by simpa using h5
 rw [h4, ae]
 dsimp only
 rw [if_pos (by rw [af (by omega), af (by omega)]; rfl)]
 refine ⟨_, rfl, ?_⟩
 rw [uY, aK]
 show _ + 1 ≤ 11
 omega
theorem NH (n : Nat) (x : cY) : ∃ y, lW n x.1 = some y := by
 have h := fx n x
 unfold db at h
 match h2 : lW n x.1 with
 | some y => exact ⟨y, rfl⟩
 | none => rw [h2] at h; cases h
theorem ES (y : ByteArray) : ∀ (k i : Nat) (r : List UInt8), y.size - i = k → r.length ≤ (ByteArray.toList.loop y i r).length
 | 0, i, r, h => by
  unfold ByteArray.toList.loop
  rw [if_neg (by omega), List.length_reverse]
  exact ar _
 | k + 1, i, r, h => by
  unfold ByteArray.toList.loop
  rw [if_pos (by omega)]
  have := ES y k (i + 1) (y.get! i :: r) (by omega)
  rw [aF] at this
  omega
theorem ET : (ByteArray.mk #[]).toList = [] := by
 unfold ByteArray.toList ByteArray.toList.loop
 rw [if_neg (by decide)]
 rfl
theorem qV {y : ByteArray} (h : 0 < y.size) : (y.toList == (ByteArray.mk #[]).toList) = false := by
 rw [ET, aQ]
 intro h1
 have : (ByteArray.toList.loop y 0 []).length = 0 := by
  have : y.toList = ByteArray.toList.loop y 0 [] := rfl
  rw [← this, h1]
  rfl
 unfold ByteArray.toList.loop at this
 rw [if_pos h] at this
 have h2 := ES y _ (0 + 1) [y.get! 0] rfl
 rw [this] at h2
 exact absurd h2 (Nat.not_succ_le_zero 0)
theorem Cf (n : Nat) (hn : 10 < n) (x : cY) : ∃ y, e6 n x = some y ∧ y.size ≤ 30 ∧ (y.toList == (ByteArray.mk #[]).toList) = !dH x := by
 obtain ⟨o, ho⟩ := NH n x
 obtain ⟨p, hp1, hp2⟩ := Kr n hn x.2.1
 obtain ⟨q, hq1, hq2⟩ := Kr n hn x.2.2
 have hs : (ew ([(IntKind.wrap .u8 x.1)])).size = 1 := uY _
 unfold e6 iZ
 have hr : db n (x.1, x.2.1, x.2.2) = some (dH x) := fx n x
 rw [hr, ae]
 cases hb : dH x with
 | false => exact ⟨_, rfl, by decide, by rw [bg]; rfl⟩
 | true =>
  rw [if_neg (by simp), ho, hp1, hq1]
  simp only [ae]
  split
  ·rw [if_pos (af (by omega))]
   split
   ·have : (ew ([(IntKind.wrap .u8 x.1)]) ++ p).size = 1 + p.size := by rw [bG, hs]
    rw [if_pos (af (by omega))]
    refine ⟨_, rfl, ?_, ?_⟩
    ·rw [bG, this]; omega
    ·exact qV (by rw [bG, this]; omega)
   ·have : (ew ([(IntKind.wrap .u8 x.1)]) ++ p).size = 1 + p.size := by rw [bG, hs]
    exact ⟨_, rfl, by omega, qV (by omega)⟩
  ·split
   ·rw [if_pos (af (by omega))]
    have : (ew ([(IntKind.wrap .u8 x.1)]) ++ q).size = 1 + q.size := by rw [bG, hs]
    exact ⟨_, rfl, by omega, qV (by omega)⟩
   ·exact ⟨_, rfl, by omega, qV (by omega)⟩
def Says (o : Option Bool) (p : Prop) : Prop := ∃ b, o = some b ∧ (b = true ↔ p)
theorem Says.dec {p : Prop} [Decidable p] : Says (some (decide p)) p := ⟨_, rfl, bY⟩
theorem Says.and {o : Option Bool} {f : Bool → Option Bool} {p q : Prop} (h : Says o p) (k : Says (f true) q) (g : f false = some false) : Says (o.bind f) (p ∧ q) := by
 obtain ⟨b, h1, h2⟩ := h
 obtain ⟨c, k1, k2⟩ := k
 rw [h1]
 cases b with
 | true => exact ⟨c, k1, by rw [k2]; exact ⟨fun e => ⟨h2.1 rfl, e⟩, fun e => e.2⟩⟩
 | false => exact ⟨false, g, ⟨fun e => absurd e (by decide), fun e => absurd (h2.2 e.1) (by decide)⟩⟩
theorem Says.iff {o : Option Bool} {p q : Prop} (h : Says o p) (k : p ↔ q) : Says o q := by
 obtain ⟨b, h1, h2⟩ := h
 exact ⟨b, h1, h2.trans k⟩
theorem Says.no {p : Prop} (h : ¬ p) : Says (some false) p := ⟨false, rfl, fun e => absurd e (by decide), fun e => absurd e h⟩
def Rises (e : Int) : Int → List Int → Prop
 | _, [] => True
 | b, x :: l => b < x ∧ x < e ∧ Rises e x l
theorem EU (n : Nat) (l : List Int) (e : Int) (he : 0 ≤ e) (hen : e + 1 < n) (hn : n < 1000000) : Says (iz n l e) (Rises e (-1) l) := by
 unfold iz kq
 have := d5 (S := fun F => (dm (C_ q_)) (gQ n F)) (fun f x r => ∃ (i : Nat) (b : Int) (c : Bool), x = (e, b, l, (l.length : Int), (i : Int)) ∧ (i ≤ l.length ∧ (i : Int) ≤ b + 1 ∧ b < e) ∧ e < b + f ∧ (c = true ↔ Rises e b (l.drop i)) ∧ r = if c = true then .inr ((), ()) else .inl ((false, ()), ())) (fun x r ⟨i, b, c, _, h1, h2, _⟩ => by omega) (fun f x F hF r => ?_) n (e, -1, l, (l.length : Int), 0)
 ·classical
  refine ⟨decide (Rises e (-1) l), ?_, bY⟩
  rw [this _ ⟨0, -1, decide (Rises e (-1) l), rfl, ⟨ao _, by omega, by omega⟩, by omega, bY, rfl⟩]
  cases decide (Rises e (-1) l) <;> rfl
 ·rintro ⟨i, b, c, rfl, h1, h2, hc, rfl⟩
  show gQ n F e b l (l.length : Int) (i : Int) = _
  unfold gQ
  rcases am i l.length with hlt | hge
  ·rw [dK (d := (0 : Int)) hlt] at hc
   rw [if_pos (af (by omega)), if_pos (dc hlt), ai, di (by omega)]
   have hno : ∀ (h : ¬ (b < l.getD i 0 ∧ l.getD i 0 < e)), c = false := fun h => by
    cases c with
    | false => rfl
    | true => exact absurd ⟨(hc.1 rfl).1, (hc.1 rfl).2.1⟩ h
   by_cases g1 : l.getD i 0 ≤ b
   ·rw [if_pos (af g1), hno (by omega)]; rfl
   rw [if_neg (by simpa using g1)]
   by_cases g2 : l.getD i 0 ≥ e
   ·rw [if_pos (af g2), hno (by omega)]; rfl
   rw [if_neg (by simpa using g2)]
   exact hF _ _ ⟨i + 1, l.getD i 0, c, rfl, by omega, by omega, hc.trans ⟨fun h => h.2.2, fun h => ⟨by omega, by omega, h⟩⟩, rfl⟩
  ·have : i = l.length := by omega
   subst this
   rw [aR] at hc
   rw [if_neg (by simp), if_pos (hc.2 trivial)]
theorem Rises.len {e : Int} : ∀ {l : List Int} {b : Int}, Rises e b l → b < e → (l.length : Int) ≤ e - 1 - b
 | [], b, _, h => by simp; omega
 | x :: l, b, h, h1 => by
  have := Rises.len h.2.2 h.2.1
  have := h.1
  rw [aF]
  omega
theorem Rises.mem {e : Int} : ∀ {l : List Int} {b : Int}, Rises e b l → ∀ x ∈ l, b < x ∧ x < e
 | x :: l, b, h, y, hy => by
  rcases aA.1 hy with rfl | hy
  ·exact ⟨h.1, h.2.1⟩
  ·have := Rises.mem h.2.2 y hy
   have := h.1
   omega
theorem FE {y : ByteArray} (h : y.size = 0) : y.toList = [] := by
 unfold ByteArray.toList ByteArray.toList.loop
 rw [if_neg (by omega)]
 rfl
def xZ (n : Nat) (s : ByteArray) (l : List cY) : ByteArray := l.foldl (fun s x => s ++ (e6 n x).getD (ByteArray.mk #[])) s
theorem FF (n : Nat) (hn : 10 < n) {x : cY} (hx : dH x = true) : ∃ y, e6 n x = some y ∧ 1 ≤ y.size ∧ y.size ≤ 30 := by
 obtain ⟨y, h1, h2, h3⟩ := Cf n hn x
 refine ⟨y, h1, ?_, h2⟩
 rcases bP y.size with h | h
 ·rw [FE h, ET, hx] at h3
  exact absurd h3 (by decide)
 ·exact h
theorem Cg (n : Nat) (hn : 10 < n) : ∀ (l : List cY) (s : ByteArray), (∀ x ∈ l, dH x = true) → s.size + l.length ≤ (xZ n s l).size
 | [], s, _ => ar _
 | x :: l, s, h => by
  obtain ⟨y, h1, h2, _⟩ := FF n hn (h x aB)
  have := Cg n hn l (s ++ (e6 n x).getD (ByteArray.mk #[])) fun y hy => h y (ax _ hy)
  rw [bG, h1, bs] at this
  show _ ≤ (xZ n (s ++ (e6 n x).getD (ByteArray.mk #[])) l).size
  rw [h1, bs, aF]
  omega
def EV (l : List cY) : Prop := 1 ≤ l.length ∧ l.length ≤ 200 ∧ ∀ x ∈ l, dH x = true
theorem NI (n : Nat) (hn : 200 < n) (l : List cY) : Says ((mH n l).bind fun y4 => some (!(y4.toList == (ByteArray.mk #[]).toList))) (EV l) := by
 unfold mH oq
 by_cases hl : ¬ l.length ≤ 200
 ·rw [if_pos (af (by omega)), ae, bg]
  exact Says.no (fun h => hl h.2.1)
 have hl : l.length ≤ 200 := Decidable.not_not.1 hl
 rw [if_neg (by simp; omega)]
 have := d5 (S := fun F => (dm q_) (lb n F)) (fun f x r => ∃ (i : Nat) (s : ByteArray), x = (s, l, (l.length : Int), (i : Int)) ∧ i ≤ l.length ∧ l.length < f + i ∧ s.size ≤ 30 * i ∧ r = if (l.drop i).all dH = true then .inr ((xZ n s (l.drop i), ()), ()) else .inl ((ByteArray.mk #[], ()), ())) (fun x r ⟨i, s, _, h1, h2, _⟩ => by omega) (fun f x F hF r => ?_) n (ByteArray.mk #[], l, (l.length : Int), 0) _ ⟨0, _, rfl, ao _, by omega, by decide, rfl⟩
 ·rw [this, bi, ae]
  cases h : l.all dH with
  | true =>
   have hr : ∀ x ∈ l, dH x = true := aL.1 h
   have hs := Cg n (by omega) l (ByteArray.mk #[]) hr
   refine Says.iff (p := 1 ≤ l.length) ?_ ⟨fun h => ⟨h, hl, hr⟩, fun h => h.1⟩
   refine ⟨_, rfl, ?_⟩
   show (!((xZ n (ByteArray.mk #[]) l).toList == (ByteArray.mk #[]).toList)) = true ↔ _
   by_cases h1 : 1 ≤ l.length
   ·rw [qV (by omega)]
    exact ⟨fun _ => h1, fun _ => rfl⟩
   ·have : l = [] := List.length_eq_zero_iff.1 (by omega)
    subst this
    rw [show xZ n (ByteArray.mk #[]) [] = ByteArray.mk #[] from rfl, bg]
    exact ⟨fun h => absurd h (by decide), fun h => absurd h h1⟩
  | false =>
   rw [if_neg (by decide)]
   show Says (some (!((ByteArray.mk #[]).toList == (ByteArray.mk #[]).toList))) _
   rw [bg]
   exact Says.no (fun k => by rw [aL.2 k.2.2] at h; cases h)
 ·rintro ⟨i, s, rfl, h1, h2, hs, rfl⟩
  show lb n F s l (l.length : Int) (i : Int) = _
  unfold lb
  rcases am i l.length with hlt | hge
  ·obtain ⟨y, e1, e2, e3⟩ := Cf n (by omega) (l.getD i (0, 0, 0))
   rw [if_pos (af (by omega)), if_pos (dc hlt), ai, di (by omega), show e6 n ((l.getD i (0, 0, 0)).1, (l.getD i (0, 0, 0)).2.1, (l.getD i (0, 0, 0)).2.2) = some y from e1, ae, e3, dK (d := ((0 : Int), (0 : Int), (0 : Int))) hlt, b6]
   cases hb : dH (l.getD i (0, 0, 0)) with
   | false => rfl
   | true =>
    rw [if_neg (by decide), if_pos (af (by omega)), aT]
    refine hF _ _ ⟨i + 1, _, rfl, by omega, by omega, by rw [bG]; omega, ?_⟩
    rw [show xZ n s (l.getD i (0, 0, 0) :: l.drop (i + 1)) = xZ n (s ++ (e6 n (l.getD i (0, 0, 0))).getD (ByteArray.mk #[])) (l.drop (i + 1)) from rfl, e1, bs]
  ·have : i = l.length := by omega
   subst this
   rw [if_neg (by simp), aR]
   rfl
def zH (t : Tsk) : Prop := (1 ≤ t.1 ∧ t.1 ≤ 100) ∧ (1 ≤ t.2.1 ∧ t.2.1 ≤ 1048576) ∧ (1 ≤ t.2.2.1 ∧ t.2.2.1 ≤ t.2.1) ∧ (0 ≤ t.2.2.2.1 ∧ t.2.2.2.1 ≤ 1048576)
def lE (m : Img) (t : Tsk) : Prop := zH t ∧ Rises m.blocks.length (-1) t.blocks ∧ Rises m.safe.length (-1) t.outs ∧ EV t.code
theorem HT (n : Nat) (t : Tsk) : Says ((en n t).bind fun y1 => some (Sh.eqT (.arr 4 (.int .i64)) y1 [t.1, t.2.1, t.2.2.1, t.2.2.2.1])) (zH t) := by
 obtain ⟨a, b, c, d, t⟩ := t
 unfold en zH
 refine ⟨_, rfl, ?_⟩
 dsimp only
 rw [show ∀ x1 x2 x3 x4 y1 y2 y3 y4 : Int, Sh.eqT (.arr 4 (.int .i64)) [x1, x2, x3, x4] [y1, y2, y3, y4] = (x1 == y1 && (x2 == y2 && (x3 == y3 && (x4 == y4 && true)))) from fun _ _ _ _ _ _ _ _ => rfl]
 simp only [ak, ag, bf]
 constructor
 ·rintro ⟨h1, h2, h3, h4⟩
  repeat' split at h1
  all_goals (repeat' split at h4)
  all_goals (rw [h2] at h3; repeat' split at h2)
  all_goals (repeat' split at h3)
  all_goals omega
 ·rintro ⟨⟨h1, h2⟩, ⟨h3, h4⟩, ⟨h5, h6⟩, h7, h8⟩
  have e : (if (if 1048576 < b then 1048576 else b) > 1 then (if 1048576 < b then 1048576 else b) else 1) = b := by
   rw [if_neg (show ¬ 1048576 < b by omega)]; split <;> omega
  rw [e, if_neg (show ¬ 100 < a by omega), if_neg (show ¬ b < c by omega), if_neg (show ¬ 1048576 < d by omega)]
  refine ⟨?_, rfl, ?_, ?_⟩ <;> (split <;> omega)
theorem CK (n : Nat) (hn : 200 < n) (hn2 : n < 1000000) (m : Img) (t : Tsk) (hb : m.blocks.length + 1 < n) (ho : m.safe.length + 1 < n) : Says (fC n t m) (lE m t) := by
 obtain ⟨b, h1, h2⟩ := HT n t
 unfold fC
 unfold Option.bind at h1
 rw [show en n (t.1, t.2.1, t.2.2.1, t.2.2.2.1, t.2.2.2.2.1, t.2.2.2.2.2.1, t.2.2.2.2.2.2) = en n t from rfl]
 match hy : en n t with
 | none => rw [hy] at h1; cases h1
 | some y =>
  rw [hy] at h1
  have h1 : Sh.eqT (.arr 4 (.int .i64)) y [t.1, t.2.1, t.2.2.1, t.2.2.2.1] = b := av h1
  rw [ae, h1]
  cases b with
  | false => exact Says.no (fun h => by have := h2.2 h.1; cases this)
  | true =>
   rw [if_neg (by decide)]
   have hN : zH t := h2.1 rfl
   by_cases h0 : t.code.length = 0
   ·rw [if_pos (show (((t.2.2.2.2.2.2.length : Nat) : Int) == 0) = true from ag.2 (by have : t.code.length = t.2.2.2.2.2.2.length := rfl; omega))]
    exact Says.no (fun h => by have := h.2.2.2.1; omega)
   ·rw [if_neg (show ¬ (((t.2.2.2.2.2.2.length : Nat) : Int) == 0) = true from fun h => h0 (by have h := ag.1 h; have : t.code.length = t.2.2.2.2.2.2.length := rfl; omega))]
    refine Says.iff (p := Rises m.blocks.length (-1) t.blocks ∧ Rises m.safe.length (-1) t.outs ∧ EV t.code) ?_ ⟨fun h => ⟨hN, h⟩, fun h => h.2⟩
    exact Says.and (EU n t.blocks (m.blocks.length : Int) (by omega) (by omega) hn2) (Says.and (EU n t.outs (m.safe.length : Int) (by omega) (by omega) hn2) (NI n hn t.code) rfl) rfl
def apart : List Int → List Int → Bool
 | _, [] => true
 | s, x :: l => !s.contains x && apart (s ++ [x]) l
def mu : List Int → List Int → List Int
 | s, [] => s
 | s, x :: l => if s.contains x = true then s else mu (s ++ [x]) l
theorem Ch : ∀ {l s : List Int}, apart s l = true → mu s l = s ++ l
 | [], s, _ => by simp [mu]
 | x :: l, s, h => by
  unfold apart at h
  rw [ak, b8] at h
  unfold mu
  rw [if_neg (by rw [h.1]; decide), Ch h.2, aM]
  rfl
theorem oQ : ∀ {l k s : List Int}, apart s (l ++ k) = (apart s l && apart (s ++ l) k)
 | [], k, s => by simp [apart]
 | x :: l, k, s => by
  rw [List.cons_append, show apart s (x :: (l ++ k)) = (!s.contains x && apart (s ++ [x]) (l ++ k)) from rfl, show apart s (x :: l) = (!s.contains x && apart (s ++ [x]) l) from rfl, oQ, Bool.and_assoc, aM]
  rfl
def own (s : List Int) : List Bool := (List.range 16).map fun i => s.contains ((i : Nat) : Int)
theorem NJ (s : List Int) {o : Int} (h0 : 0 ≤ o) (h1 : o < 16) : (own s).getD o.toNat false = s.contains o := by
 unfold own
 rw [aq, bq, cd (by omega)]
 simp [Int.toNat_of_nonneg h0]
theorem NK (s : List Int) {o : Int} (h0 : 0 ≤ o) (h1 : o < 16) : (own s).set o.toNat true = own (s ++ [o]) := by
 apply List.ext_getElem
 ·simp [own]
 ·intro i h2 h3
  have hi : i < 16 := by simpa [own] using h3
  rw [List.getElem_set]
  unfold own
  simp only [List.getElem_map, List.getElem_range, List.contains_append]
  by_cases h : o.toNat = i
  ·rw [if_pos h]
   have : ((i : Nat) : Int) = o := by omega
   rw [this]
   simp
  ·rw [if_neg h]
   have : ((i : Nat) : Int) ≠ o := by omega
   simp [this]
theorem HU (n : Nat) (m : Img) (T : List Tsk) (a k : Int) (l : List Int) (hl : l.length < n) (hn : n < 1000000) (hb : ∀ x ∈ l, 0 ≤ x ∧ x < 16) (s : List Int) : rM n (T, a, k, l, (l.length : Int), 0, m.1, m.2.1, m.2.2.1, m.2.2.2.1, m.2.2.2.2.1, m.2.2.2.2.2.1, m.2.2.2.2.2.2, own s) = some (if apart s l = true then .inr ((T, a, k, ()), ((m.1, m.2.1, m.2.2.1, m.2.2.2.1, m.2.2.2.2.1, m.2.2.2.2.2.1, m.2.2.2.2.2.2, ()), (own (mu s l), ()), ())) else .inl ((false, ()), ((m.1, m.2.1, m.2.2.1, m.2.2.2.1, m.2.2.2.2.1, m.2.2.2.2.2.1, m.2.2.2.2.2.2, ()), (own (mu s l), ()), ()))) := by
 unfold rM
 refine d5 (S := fun F => (eS (dI q_)) (tz n F))
  (fun f x r => ∃ (i : Nat) (s : List Int), x = (T, a, k, l, (l.length : Int), (i : Int), m.1, m.2.1, m.2.2.1, m.2.2.2.1, m.2.2.2.2.1, m.2.2.2.2.2.1, m.2.2.2.2.2.2, own s) ∧ i ≤ l.length ∧ l.length < f + i ∧ r = if apart s (l.drop i) = true then .inr ((T, a, k, ()), ((m.1, m.2.1, m.2.2.1, m.2.2.2.1, m.2.2.2.2.1, m.2.2.2.2.2.1, m.2.2.2.2.2.2, ()), (own (mu s (l.drop i)), ()), ())) else .inl ((false, ()), ((m.1, m.2.1, m.2.2.1, m.2.2.2.1, m.2.2.2.2.1, m.2.2.2.2.2.1, m.2.2.2.2.2.2, ()), (own (mu s (l.drop i)), ()), ()))) (fun x r ⟨i, s, _, h1, h2, _⟩ => by omega) (fun f x F hF r => ?_) n _ _ ⟨0, s, rfl, ao _, by omega, rfl⟩
 rintro ⟨i, s, rfl, h1, h2, rfl⟩
 show tz n F T a k l (l.length : Int) (i : Int) m.1 m.2.1 m.2.2.1 m.2.2.2.1 m.2.2.2.2.1 m.2.2.2.2.2.1 m.2.2.2.2.2.2 (own s) = _
 unfold tz
 rcases am i l.length with hlt | hge
 ·have hm : l.getD i 0 ∈ l := by rw [aq, au hlt]; exact aU hlt
  obtain ⟨h3, h4⟩ := hb _ hm
  have h5 : (decide (0 ≤ l.getD i 0) && decide (l.getD i 0 < 16)) = true := by rw [af h3, af h4]; rfl
  rw [if_pos (af (by omega)), if_pos (dc hlt), ai, if_pos h5, NJ s h3 h4, dK (d := (0 : Int)) hlt, di (by omega)]
  unfold apart mu
  cases h : s.contains (l.getD i 0) with
  | true => rfl
  | false =>
   rw [if_neg (show ¬ (false = true) by decide), if_neg (show ¬ (false = true) by decide), if_pos h5, NK s h3 h4, Bool.not_false, aT]
   exact hF _ _ ⟨i + 1, _, rfl, by omega, by omega, rfl⟩
 ·have : i = l.length := by omega
  subst this
  rw [if_neg (by simp), aR]
  rfl
def TasksOk (m : Img) : List Int → List Tsk → Prop
 | _, [] => True
 | s, t :: l => lE m t ∧ apart s t.outs = true ∧ TasksOk m (s ++ t.outs) l
theorem TasksOk.all {m : Img} : ∀ {l : List Tsk} {s : List Int}, TasksOk m s l ↔ (∀ t ∈ l, lE m t) ∧ apart s (l.flatMap Tsk.outs) = true
 | [], s => by simp [TasksOk, apart]
 | t :: l, s => by
  unfold TasksOk
  rw [TasksOk.all, cC, oQ, ak, List.forall_mem_cons]
  exact ⟨fun ⟨h1, h2, h3, h4⟩ => ⟨⟨h1, h3⟩, h2, h4⟩, fun ⟨⟨h1, h3⟩, h2, h4⟩ => ⟨h1, h2, h3, h4⟩⟩
open Classical in
def zI (m : Img) : List Int → List Tsk → List Int
 | s, [] => s
 | s, t :: l => if lE m t then (if apart s t.outs = true then zI m (s ++ t.outs) l else mu s t.outs) else s
theorem HV (n : Nat) (hn : 200 < n) (hn2 : n < 1000000) (m : Img) (hbl : m.blocks.length + 1 < n) (hs : m.safe.length ≤ 16) (hT : m.tasks.length < n) :
  Says ((rN n (m.tasks, (m.tasks.length : Int), 0, m.1, m.2.1, m.2.2.1, m.2.2.2.1, m.2.2.2.2.1, m.2.2.2.2.2.1, m.2.2.2.2.2.2, own [])).bind fun y => Sum.elim (fun z => some z.1.1) (fun z => some true) y) (TasksOk m [] m.tasks) := by
 unfold rN
 have hit := d5 (S := fun F => (eS (C_ q_)) (tA n F))
  (fun f x r => ∃ (i : Nat) (s : List Int) (c : Bool), x = (m.tasks, (m.tasks.length : Int), (i : Int), m.1, m.2.1, m.2.2.1, m.2.2.2.1, m.2.2.2.2.1, m.2.2.2.2.2.1, m.2.2.2.2.2.2, own s) ∧ i ≤ m.tasks.length ∧ m.tasks.length < f + i ∧ (c = true ↔ TasksOk m s (m.tasks.drop i)) ∧ r = if c = true then .inr ((), ((m.1, m.2.1, m.2.2.1, m.2.2.2.1, m.2.2.2.2.1, m.2.2.2.2.2.1, m.2.2.2.2.2.2, ()), (own (zI m s (m.tasks.drop i)), ()), ())) else .inl ((false, ()), ((m.1, m.2.1, m.2.2.1, m.2.2.2.1, m.2.2.2.2.1, m.2.2.2.2.2.1, m.2.2.2.2.2.2, ()), (own (zI m s (m.tasks.drop i)), ()), ()))) (fun x r ⟨i, s, c, _, h1, h2, _⟩ => by omega) (fun f x F hF r => ?_) n (m.tasks, (m.tasks.length : Int), 0, m.1, m.2.1, m.2.2.1, m.2.2.2.1, m.2.2.2.2.1, m.2.2.2.2.2.1, m.2.2.2.2.2.2, own [])
 ·have := Classical.propDecidable (TasksOk m [] m.tasks)
  refine ⟨decide (TasksOk m [] m.tasks), ?_, bY⟩
  rw [hit _ ⟨0, [], decide (TasksOk m [] m.tasks), rfl, ao _, by omega, bY, rfl⟩, ae]
  cases decide (TasksOk m [] m.tasks) <;> rfl
 ·rintro ⟨i, s, c, rfl, h1, h2, hc, rfl⟩
  show tA n F m.tasks (m.tasks.length : Int) (i : Int) m.1 m.2.1 m.2.2.1 m.2.2.2.1 m.2.2.2.2.1 m.2.2.2.2.2.1 m.2.2.2.2.2.2 (own s) = _
  unfold tA
  rcases am i m.tasks.length with hlt | hge
  ·rw [dK (d := ((0 : Int), (0 : Int), (0 : Int), (0 : Int), ([] : List Int), ([] : List Int), ([] : List cY))) hlt] at hc ⊢
   rw [if_pos (af (by omega)), if_pos (dc hlt), ai]
   generalize m.tasks.getD i (0, 0, 0, 0, [], [], []) = t at hc ⊢
   obtain ⟨b, e1, e2⟩ := CK n hn hn2 m t hbl (by omega)
   rw [show fC n (t.1, t.2.1, t.2.2.1, t.2.2.2.1, t.2.2.2.2.1, t.2.2.2.2.2.1, t.2.2.2.2.2.2) (m.1, m.2.1, m.2.2.1, m.2.2.2.1, m.2.2.2.2.1, m.2.2.2.2.2.1, m.2.2.2.2.2.2) = some b from e1, ae]
   cases b with
   | false =>
    have ht : ¬ lE m t := fun h => by have := e2.2 h; cases this
    have hc0 : c = false := by cases c with
     | false => rfl
     | true => exact absurd (hc.1 rfl).1 ht
    rw [hc0]
    unfold zI
    rw [if_neg ht]
    rfl
   | true =>
    have ht : lE m t := e2.1 rfl
    have hr := ht.2.2.1
    have hlen := hr.len (by omega)
    have hmem := hr.mem
    rw [if_neg (by decide), HU n m m.tasks _ _ t.outs (by omega) hn2 (fun x hx => by have := hmem x hx; omega) s, ae]
    unfold zI
    rw [if_pos ht]
    cases ha : apart s t.outs with
    | false =>
     have hc0 : c = false := by cases c with
      | false => rfl
      | true => have := (hc.1 rfl).2.1; rw [ha] at this; cases this
     rw [hc0]
     rfl
    | true =>
     rw [if_pos rfl, Ch ha, if_pos rfl]
     dsimp only [Sum.elim_inr]
     rw [di (by omega)]
     exact hF _ _ ⟨i + 1, s ++ t.outs, c, rfl, by omega, by omega, hc.trans ⟨fun h => h.2.2, fun h => ⟨ht, ha, h⟩⟩, rfl⟩
  ·have : i = m.tasks.length := by omega
   subst this
   rw [aR] at hc ⊢
   rw [if_neg (by simp), if_pos (hc.2 trivial)]
   rfl
def vC (m : Img) : Prop := (0 ≤ m.1 ∧ m.1 ≤ 100) ∧ (1 ≤ m.2.1 ∧ m.2.1 ≤ 100) ∧ (1 ≤ m.2.2.1 ∧ m.2.2.1 ≤ 100) ∧ (0 ≤ m.2.2.2.1 ∧ m.2.2.2.1 ≤ 16) ∧ m.safe.length ≤ 16 ∧ m.blocks.length ≤ 8 ∧ (1 ≤ m.tasks.length ∧ m.tasks.length ≤ 8)
def mb (l : List (List Int)) : Prop := ∀ b ∈ l, 1 ≤ b.length ∧ b.length ≤ 8
def RightP (m : Img) : Prop := vC m ∧ mb m.blocks ∧ TasksOk m [] m.tasks
theorem HX (n : Nat) (hn2 : n < 1000000) (m : Img) (hT : m.blocks.length < n) (F : Option Bool) :
  ∃ c, (c = true ↔ mb m.blocks) ∧ rL n (m.blocks, (m.blocks.length : Int), 0, m.1, m.2.1, m.2.2.1, m.2.2.2.1, m.2.2.2.2.1, m.2.2.2.2.2.1, m.2.2.2.2.2.2) = some (if c = true then .inr ((), ((m.1, m.2.1, m.2.2.1, m.2.2.2.1, m.2.2.2.2.1, m.2.2.2.2.2.1, m.2.2.2.2.2.2, ()), ())) else .inl ((false, ()), ((m.1, m.2.1, m.2.2.1, m.2.2.2.1, m.2.2.2.2.1, m.2.2.2.2.2.1, m.2.2.2.2.2.2, ()), ()))) := by
 unfold rL
 have := Classical.propDecidable (mb m.blocks)
 refine ⟨decide (mb m.blocks), bY, ?_⟩
 refine d5 (S := fun F => (eS q_) (tx n F))
  (fun f x r => ∃ (i : Nat) (c : Bool), x = (m.blocks, (m.blocks.length : Int), (i : Int), m.1, m.2.1, m.2.2.1, m.2.2.2.1, m.2.2.2.2.1, m.2.2.2.2.2.1, m.2.2.2.2.2.2) ∧ i ≤ m.blocks.length ∧ m.blocks.length < f + i ∧ (c = true ↔ mb (m.blocks.drop i)) ∧ r = if c = true then .inr ((), ((m.1, m.2.1, m.2.2.1, m.2.2.2.1, m.2.2.2.2.1, m.2.2.2.2.2.1, m.2.2.2.2.2.2, ()), ())) else .inl ((false, ()), ((m.1, m.2.1, m.2.2.1, m.2.2.2.1, m.2.2.2.2.1, m.2.2.2.2.2.1, m.2.2.2.2.2.2, ()), ()))) (fun x r ⟨i, c, _, h1, h2, _⟩ => by omega) (fun f x F hF r => ?_) n _ _ ⟨0, decide (mb m.blocks), rfl, ao _, by omega, bY, rfl⟩
 rintro ⟨i, c, rfl, h1, h2, hc, rfl⟩
 show tx n F m.blocks (m.blocks.length : Int) (i : Int) m.1 m.2.1 m.2.2.1 m.2.2.2.1 m.2.2.2.2.1 m.2.2.2.2.2.1 m.2.2.2.2.2.2 = _
 unfold tx
 rcases am i m.blocks.length with hlt | hge
 ·rw [dK (d := ([] : List Int)) hlt] at hc
  rw [if_pos (af (by omega)), if_pos (dc hlt), ai]
  generalize m.blocks.getD i [] = b at hc ⊢
  have hc : c = true ↔ (1 ≤ b.length ∧ b.length ≤ 8) ∧ mb (m.blocks.drop (i + 1)) := hc.trans List.forall_mem_cons
  have hno : ∀ (h : ¬ (1 ≤ b.length ∧ b.length ≤ 8)), c = false := fun h => by
   cases c with
   | false => rfl
   | true => exact absurd (hc.1 rfl).1 h
  by_cases g1 : b.length = 0
  ·rw [if_pos (ag.2 (by omega)), hno (by omega)]; rfl
  rw [if_neg (fun h => g1 (by have := ag.1 h; omega))]
  by_cases g2 : b.length ≤ 8
  ·rw [if_neg (by simp; omega), di (by omega)]
   exact hF _ _ ⟨i + 1, c, rfl, by omega, by omega, hc.trans ⟨fun h => h.2, fun h => ⟨by omega, h⟩⟩, rfl⟩
  ·rw [if_pos (af (by omega)), hno (by omega)]; rfl
 ·have : i = m.blocks.length := by omega
  subst this
  rw [aR] at hc
  rw [if_neg (by simp), if_pos (hc.2 (fun b hb => by cases hb))]
theorem QN {a b c d e f g : Bool} {A B C D E F G : Prop} (ha : a = true ↔ A) (hb : b = true ↔ B) (hc : c = true ↔ C) (hd : d = true ↔ D) (he : e = true ↔ E) (hf : f = true ↔ F) (hg : g = true ↔ G) : (a && (b && (c && (d && (e && (f && g)))))) = true ↔ A ∧ B ∧ C ∧ D ∧ E ∧ F ∧ G := by
 simp only [ak, ha, hb, hc, hd, he, hf, hg]
theorem uZ (n : Nat) (hn : 200 < n) (hn2 : n < 1000000) (m : Img) : Says (lf n m) (RightP m) := by
 unfold lf
 have hN : ∀ {b : Bool}, (b = true ↔ vC m) → ∀ {o : Option Bool}, (vC m → Says o (RightP m)) → Says (if (!b) = true then some false else o) (RightP m) := fun {b} hb {o} ho => by
  cases b with
  | false => exact Says.no (fun h => by have := hb.2 h.1; cases this)
  | true => exact ho (hb.1 rfl)
 refine hN ?_ ?_
 ·refine QN ?_ ?_ ?_ ?_ ?_ ?_ ?_
  all_goals (rw [ag])
  ·generalize m.1 = a; constructor <;> intro h <;> (repeat' split at *) <;> omega
  ·generalize m.2.1 = a; constructor <;> intro h <;> (repeat' split at *) <;> omega
  ·generalize m.2.2.1 = a; constructor <;> intro h <;> (repeat' split at *) <;> omega
  ·generalize m.2.2.2.1 = a; constructor <;> intro h <;> (repeat' split at *) <;> omega
  ·show (m.safe.length : Int) = _ ↔ _
   generalize m.safe.length = a; constructor <;> intro h <;> (repeat' split at *) <;> omega
  ·show (m.blocks.length : Int) = _ ↔ _
   generalize m.blocks.length = a; constructor <;> intro h <;> (repeat' split at *) <;> omega
  ·show (m.tasks.length : Int) = _ ↔ _
   generalize m.tasks.length = a; constructor <;> intro h <;> (repeat' split at *) <;> omega
 ·intro hI
  obtain ⟨_, _, _, _, h5, h6, h7⟩ := id hI
  obtain ⟨c, hc, e⟩ := HX n hn2 m (by omega) none
  rw [e, ae]
  cases c with
  | false => exact Says.no (fun h => by have := hc.2 h.2.1; cases this)
  | true => exact (HV n hn hn2 m (by omega) h5 (by omega)).iff ⟨fun h => ⟨hI, hc.1 rfl, h⟩, fun h => h.2.2⟩
def EW (m : Img) : Prop := m.safe.length + m.blocks.length + m.tasks.length ≤ 80 ∧ ∀ t ∈ m.tasks, t.code.length ≤ 4019
theorem Ci (l : List cY) : ∀ (r i p : Nat), i ≤ p → p < i + r → dd l p = 23 → dL l p ∈ gw l r i
 | 0, i, p, h1, h2, h3 => by omega
 | r + 1, i, p, h1, h2, h3 => by
  rw [show gw l (r + 1) i = j9 l i ++ gw l r (i + 1) from rfl, az]
  by_cases h : i = p
  ·subst h
   left
   unfold j9
   rw [if_pos h3]
   exact aB
  ·exact .inr (Ci l r (i + 1) p (by omega) (by omega) h3)
theorem HY {l : List cY} (h : ec l = 0) {i : Nat} (hi : i < l.length) (ho : dd l i = 17 ∨ dd l i = 18) : dL l i ∈ fp l := by
 have hb := xY h hi
 unfold jk at hb
 rw [if_neg (by omega), if_pos ho, Bool.not_eq_false'] at hb
 unfold uT at hb
 obtain ⟨k, h1, h2⟩ := anyB_iff.1 hb
 simp only [ak, ag] at h2
 unfold fp
 rw [if_pos h, ← h2.2.2]
 exact Ci l _ _ k (ao _) (by omega) h2.2.1
theorem CL {m : Img} {t : Tsk} (hl : ec t.code = 0) (hb : fp t.code = t.blocks) (ht : lE m t) : ∀ i ∈ t.code, i.1 = 17 ∨ i.1 = 18 → 0 ≤ i.2.1 ∧ i.2.1 < (m.blocks.length : Int) := by
 intro x hx ho
 obtain ⟨i, hi, e⟩ := bO hx
 have e : t.code.getD i (0, 0, 0) = x := by rw [AX hi, e]
 have h := HY hl hi (by unfold dd; rw [e]; exact ho)
 rw [hb] at h
 have := ht.2.1.mem _ h
 unfold dL at this
 rw [e] at this
 omega
open Classical in
def fi (n : Nat) (m : Img) (i : Int) : Int :=
 if RightP m then
  if i < 0 ∨ i ≥ (m.tasks.length : Int) then 14
  else
   let t := m.tasks.getD i.toNat (0, 0, 0, 0, [], [], [])
   if (eH bM n t.code).2 ≠ 0 then (eH bM n t.code).2 else if fp t.code = t.blocks then (if t.code.all (jw m t) = true then 0 else 12) else 11
 else 12
theorem RightP.task {m : Img} (h : RightP m) {i : Int} (h0 : 0 ≤ i) (h1 : i < (m.tasks.length : Int)) : lE m (m.tasks.getD i.toNat (0, 0, 0, 0, [], [], [])) ∧ m.tasks.getD i.toNat (0, 0, 0, 0, [], [], []) ∈ m.tasks := by
 have hlt : i.toNat < m.tasks.length := by omega
 have hm : m.tasks.getD i.toNat ((0 : Int), (0 : Int), (0 : Int), (0 : Int), ([] : List Int), ([] : List Int), ([] : List cY)) ∈ m.tasks := by rw [aq, au hlt]; exact aU hlt
 exact ⟨(TasksOk.all.1 h.2.2).1 _ hm, hm⟩
theorem A2 (n : Nat) (hn : 200 < n) (hn2 : n < 1000000) (m : Img) (i : Int) : fe n m i = some (fi n m i) := by
 obtain ⟨b, e1, e2⟩ := uZ n hn hn2 m
 unfold fe
 rw [show lf n (m.1, m.2.1, m.2.2.1, m.2.2.2.1, m.2.2.2.2.1, m.2.2.2.2.2.1, m.2.2.2.2.2.2) = some b from e1, ae]
 unfold fi
 cases b with
 | false =>
  rw [if_pos (show (!false) = true from rfl), if_neg (show ¬ RightP m from fun h => by have := e2.2 h; cases this)]
 | true =>
  have hR := e2.1 rfl
  rw [if_pos hR, if_neg (by decide)]
  by_cases h0 : i < 0
  ·rw [if_pos (af h0), if_pos (.inl h0)]
  rw [if_neg (by simpa using h0)]
  by_cases h1 : i ≥ (m.tasks.length : Int)
  ·rw [if_pos (show decide (i ≥ (m.2.2.2.2.2.2.length : Int)) = true from af h1), if_pos (.inr h1)]
  rw [if_neg (show ¬ decide (i ≥ (m.2.2.2.2.2.2.length : Int)) = true from fun h => h1 (aD h)), if_neg (show ¬ (i < 0 ∨ i ≥ (m.tasks.length : Int)) by omega), if_pos (show (decide (0 ≤ i) && decide (i < (m.2.2.2.2.2.2.length : Int))) = true by rw [af (by omega), af (show i < (m.2.2.2.2.2.2.length : Int) from by have : (m.tasks.length : Int) = (m.2.2.2.2.2.2.length : Int) := rfl; omega)]; rfl)]
  obtain ⟨ht, hm⟩ := hR.task (i := i) (by omega) (by omega)
  rw [show m.2.2.2.2.2.2.getD i.toNat (0, 0, 0, 0, [], [], []) = m.tasks.getD i.toNat (0, 0, 0, 0, [], [], []) from rfl]
  generalize m.tasks.getD i.toNat (0, 0, 0, 0, [], [], []) = t at ht ⊢
  have hc : t.code.length < n := by have := ht.2.2.2.2.1; omega
  have hol : t.outs.length < n := by have := ht.2.2.1.len (by omega); have := hR.1.2.2.2.2.1; omega
  have hS : gH n ((t.1, t.2.1, t.2.2.1, t.2.2.2.1, t.2.2.2.2.1, t.2.2.2.2.2.1, t.2.2.2.2.2.2), (m.1, m.2.1, m.2.2.1, m.2.2.2.1, m.2.2.2.2.1, m.2.2.2.2.2.1, m.2.2.2.2.2.2)) = some (eH bM n t.code).2 := by
   unfold gH
   rw [show fE n (((t.1, t.2.1, t.2.2.1, t.2.2.2.1, t.2.2.2.2.1, t.2.2.2.2.2.1, t.2.2.2.2.2.2), (m.1, m.2.1, m.2.2.1, m.2.2.2.1, m.2.2.2.2.1, m.2.2.2.2.2.1, m.2.2.2.2.2.2)) : Tsk × Img).1.2.2.2.2.2.2 = some (eH bM n t.code) from xX n t.code hc (by omega) hn2]
   rfl
  rw [hS, ae]
  dsimp only
  by_cases hz : (eH bM n t.code).2 ≠ 0
  ·rw [if_pos (aj.2 hz), if_pos hz]
  rw [if_neg (fun h => hz (aj.1 h)), if_neg hz]
  have hlk := (rY (Decidable.not_not.1 hz)).1
  have hB : tT n ((t.1, t.2.1, t.2.2.1, t.2.2.2.1, t.2.2.2.2.1, t.2.2.2.2.2.1, t.2.2.2.2.2.2), (m.1, m.2.1, m.2.2.1, m.2.2.2.1, m.2.2.2.2.1, m.2.2.2.2.2.1, m.2.2.2.2.2.2)) = some (if fp t.code = t.blocks then 0 else 11) := by
   have := Kq n t m hc (by omega) hn2
   rw [if_neg (fun h => h hlk)] at this
   exact this
  rw [hB, ae]
  by_cases hb : fp t.code = t.blocks
  ·rw [if_pos hb, if_pos hb, if_neg (by decide)]
   have hN : yZ n ((t.1, t.2.1, t.2.2.1, t.2.2.2.1, t.2.2.2.2.1, t.2.2.2.2.2.1, t.2.2.2.2.2.2), (m.1, m.2.1, m.2.2.1, m.2.2.2.1, m.2.2.2.2.1, m.2.2.2.2.2.1, m.2.2.2.2.2.2)) = _ := ME n t m hc hol hn2 (CL hlk hb ht)
   rw [hN, ae]
   cases t.code.all (jw m t) <;> rfl
  ·rw [if_neg hb, if_neg hb]
   rfl
def eK (k : Nat) : Int := if (100 : Int) < (k : Int) then 100 else (k : Int)
def eu (k : Nat) : Int := if (10000 : Int) < (k : Int) then 10000 else (k : Int)
theorem kI (k : Nat) : 0 ≤ eK k ∧ eK k ≤ 100 := by unfold eK; split <;> omega
theorem p7 (k : Nat) : 0 ≤ eu k ∧ eu k ≤ 10000 := by unfold eu; split <;> omega
def jU (a : Int) (l : List (List Int)) : Int := l.foldl (fun a b => a + eK b.length) a
def mY (a : Int) (l : List Tsk) : Int := l.foldl (fun a t => a + eK t.blocks.length + eK t.outs.length + (eu t.code.length).tdiv 20) a
theorem Cj : ∀ {l : List (List Int)} {a : Int}, a ≤ jU a l ∧ jU a l ≤ a + 100 * l.length
 | [], a => by simp [jU]
 | b :: l, a => by
  have := Cj (l := l) (a := a + eK b.length)
  have := kI b.length
  rw [show jU a (b :: l) = jU (a + eK b.length) l from rfl, aF]
  omega
theorem Ck : ∀ {l : List Tsk} {a : Int}, a ≤ mY a l ∧ ∀ t ∈ l, a + (eu t.code.length).tdiv 20 ≤ mY a l
 | [], a => by simp [mY]
 | t :: l, a => by
  obtain ⟨h1, h2⟩ := Ck (l := l) (a := a + eK t.blocks.length + eK t.outs.length + (eu t.code.length).tdiv 20)
  have h3 := kI t.blocks.length
  have h4 := kI t.outs.length
  have h5 := p7 t.code.length
  have h6 : (eu t.code.length).tdiv 20 = eu t.code.length / 20 := cf h5.1
  rw [show mY a (t :: l) = mY (a + eK t.blocks.length + eK t.outs.length + (eu t.code.length).tdiv 20) l from rfl, List.forall_mem_cons]
  refine ⟨by omega, by omega, fun u hu => ?_⟩
  have := h2 u hu
  omega
theorem Ks (n : Nat) (hn : n < 1000000) (m : Img) (hT : m.blocks.length < n) (a : Int) (ha : 0 ≤ a ∧ a ≤ 80) : rI n (a, 0, m.1, m.2.1, m.2.2.1, m.2.2.2.1, m.2.2.2.2.1, m.2.2.2.2.2.1, m.2.2.2.2.2.2) = some (jU a m.blocks, m.1, m.2.1, m.2.2.1, m.2.2.2.1, m.2.2.2.2.1, m.2.2.2.2.2.1, m.2.2.2.2.2.2) := by
 unfold rI
 refine d5 (S := fun F => (dI (dm (C_ q_))) (tn n F))
  (fun f x r => ∃ (i : Nat) (b : Int), x = (b, (i : Int), m.1, m.2.1, m.2.2.1, m.2.2.2.1, m.2.2.2.2.1, m.2.2.2.2.2.1, m.2.2.2.2.2.2) ∧ i ≤ m.blocks.length ∧ m.blocks.length < f + i ∧ (0 ≤ b ∧ b ≤ 80 + 100 * i) ∧ r = (jU b (m.blocks.drop i), m.1, m.2.1, m.2.2.1, m.2.2.2.1, m.2.2.2.2.1, m.2.2.2.2.2.1, m.2.2.2.2.2.2)) (fun x r ⟨i, b, _, h1, h2, _⟩ => by omega) (fun f x F hF r => ?_) n _ _ ⟨0, a, rfl, ao _, by omega, by omega, rfl⟩
 rintro ⟨i, b, rfl, h1, h2, hb, rfl⟩
 show tn n F b (i : Int) m.1 m.2.1 m.2.2.1 m.2.2.2.1 m.2.2.2.2.1 m.2.2.2.2.2.1 m.2.2.2.2.2.2 = _
 unfold tn
 rcases am i m.blocks.length with hlt | hge
 ·rw [if_pos (show decide ((i : Int) < (m.2.2.2.2.2.1.length : Int)) = true from af (by exact_mod_cast hlt)), if_pos (show (decide (0 ≤ (i : Int)) && decide ((i : Int) < (m.2.2.2.2.2.1.length : Int))) = true from dc hlt), ai, di (by omega), dK (d := ([] : List Int)) hlt]
  have hc := kI (m.blocks.getD i []).length
  show F (wrap .i64 (b + eK (m.blocks.getD i []).length), _) = _
  rw [dA (show -9223372036854775808 ≤ b + eK (m.blocks.getD i []).length by omega) (show b + eK (m.blocks.getD i []).length ≤ 9223372036854775807 by omega)]
  exact hF _ _ ⟨i + 1, _, rfl, by omega, by omega, by omega, rfl⟩
 ·have : i = m.blocks.length := by omega
  subst this
  rw [if_neg (by simp), aR]
  rfl
theorem Kt (n : Nat) (hn : n < 1000000) (m : Img) (hT : m.tasks.length < n) (hB : m.blocks.length < n) (a : Int) (ha : 0 ≤ a ∧ a ≤ 80 + 100 * m.blocks.length) : om n (a, 0, m.1, m.2.1, m.2.2.1, m.2.2.2.1, m.2.2.2.2.1, m.2.2.2.2.2.1, m.2.2.2.2.2.2) = some (mY a m.tasks, m.1, m.2.1, m.2.2.1, m.2.2.2.1, m.2.2.2.2.1, m.2.2.2.2.2.1, m.2.2.2.2.2.2) := by
 unfold om
 refine d5 (S := fun F => (dI (dm (C_ q_))) (tp n F))
  (fun f x r => ∃ (i : Nat) (b : Int), x = (b, (i : Int), m.1, m.2.1, m.2.2.1, m.2.2.2.1, m.2.2.2.2.1, m.2.2.2.2.2.1, m.2.2.2.2.2.2) ∧ i ≤ m.tasks.length ∧ m.tasks.length < f + i ∧ (0 ≤ b ∧ b ≤ 80 + 100 * m.blocks.length + 700 * i) ∧ r = (mY b (m.tasks.drop i), m.1, m.2.1, m.2.2.1, m.2.2.2.1, m.2.2.2.2.1, m.2.2.2.2.2.1, m.2.2.2.2.2.2)) (fun x r ⟨i, b, _, h1, h2, _⟩ => by omega) (fun f x F hF r => ?_) n _ _ ⟨0, a, rfl, ao _, by omega, by omega, rfl⟩
 rintro ⟨i, b, rfl, h1, h2, hb, rfl⟩
 show tp n F b (i : Int) m.1 m.2.1 m.2.2.1 m.2.2.2.1 m.2.2.2.2.1 m.2.2.2.2.2.1 m.2.2.2.2.2.2 = _
 unfold tp
 rcases am i m.tasks.length with hlt | hge
 ·rw [if_pos (show decide ((i : Int) < (m.2.2.2.2.2.2.length : Int)) = true from af (by exact_mod_cast hlt)), if_pos (show (decide (0 ≤ (i : Int)) && decide ((i : Int) < (m.2.2.2.2.2.2.length : Int))) = true from dc hlt), ai, di (by omega), dK (d := ((0 : Int), (0 : Int), (0 : Int), (0 : Int), ([] : List Int), ([] : List Int), ([] : List cY))) hlt]
  rw [show m.2.2.2.2.2.2.getD i (0, 0, 0, 0, [], [], []) = m.tasks.getD i (0, 0, 0, 0, [], [], []) from rfl]
  generalize m.tasks.getD i (0, 0, 0, 0, [], [], []) = t
  have h3 := kI t.blocks.length
  have h4 := kI t.outs.length
  have h5 := p7 t.code.length
  have h6 : (eu t.code.length).tdiv 20 = eu t.code.length / 20 := cf h5.1
  show F (wrap .i64 (wrap .i64 (wrap .i64 (b + eK t.blocks.length) + eK t.outs.length) + wrap .i64 ((eu t.code.length).tdiv 20)), _) = _
  rw [dA (e := (eu t.code.length).tdiv 20) (by omega) (by omega), dA (e := b + eK t.blocks.length) (by omega) (by omega), dA (e := b + eK t.blocks.length + eK t.outs.length) (by omega) (by omega), dA (e := b + eK t.blocks.length + eK t.outs.length + (eu t.code.length).tdiv 20) (by omega) (by omega)]
  exact hF _ _ ⟨i + 1, _, rfl, by omega, by omega, by omega, rfl⟩
 ·have : i = m.tasks.length := by omega
  subst this
  rw [if_neg (by simp), aR]
  rfl
theorem MF (n : Nat) (hn0 : 200 < n) (hn : n < 1000000) (m : Img) (hs : m.safe.length < 9000000000000000 ∧ m.blocks.length < 9000000000000000 ∧ m.tasks.length < 9000000000000000) : nF n m = some 0 ∨ (nF n m = some 1 ∧ EW m) := by
 unfold nF
 have e : wrap .i64 (wrap .i64 ((m.safe.length : Int) + (m.blocks.length : Int)) + (m.tasks.length : Int)) = (m.safe.length : Int) + (m.blocks.length : Int) + (m.tasks.length : Int) := by
  rw [dA (e := (m.safe.length : Int) + (m.blocks.length : Int)) (by omega) (by omega), dA (by omega) (by omega)]
 rw [show wrap .i64 (wrap .i64 ((m.2.2.2.2.1.length : Int) + (m.2.2.2.2.2.1.length : Int)) + (m.2.2.2.2.2.2.length : Int)) = (m.safe.length : Int) + (m.blocks.length : Int) + (m.tasks.length : Int) from e]
 by_cases h : (m.safe.length : Int) + (m.blocks.length : Int) + (m.tasks.length : Int) > 80
 ·rw [if_pos (af h)]
  exact .inl rfl
 rw [if_neg (by simpa using h), Ks n hn m (by omega) _ (by omega), ae]
 obtain ⟨hB1, hB2⟩ := Cj (l := m.blocks) (a := (m.safe.length : Int) + (m.blocks.length : Int) + (m.tasks.length : Int))
 rw [show om n _ = _ from Kt n hn m (by omega) (by omega) (jU ((m.safe.length : Int) + (m.blocks.length : Int) + (m.tasks.length : Int)) m.blocks) (by omega), ae]
 dsimp only
 obtain ⟨hT1, hT2⟩ := Ck (l := m.tasks) (a := jU ((m.safe.length : Int) + (m.blocks.length : Int) + (m.tasks.length : Int)) m.blocks)
 split
 ·exact .inl rfl
 ·rename_i h2
  have h2 : mY (jU ((m.safe.length : Int) + (m.blocks.length : Int) + (m.tasks.length : Int)) m.blocks) m.tasks ≤ 200 := by simpa using h2
  refine .inr ⟨rfl, by omega, fun t ht => ?_⟩
  have h3 := hT2 t ht
  have h5 := p7 t.code.length
  have h6 : (eu t.code.length).tdiv 20 = eu t.code.length / 20 := cf h5.1
  have h7 : eu t.code.length ≤ 4019 := by omega
  unfold eu at h7
  split at h7 <;> omega
abbrev dk (m : Img) (i : Int) : Tsk := m.tasks.getD i.toNat (0, 0, 0, 0, [], [], [])
theorem nL {n : Nat} {m : Img} {i : Int} (h : fi n m i = 0) : RightP m ∧ (0 ≤ i ∧ i < (m.tasks.length : Int)) ∧ (eH bM n (dk m i).code).2 = 0 ∧ fp (dk m i).code = (dk m i).blocks ∧ (dk m i).code.all (jw m (dk m i)) = true := by
 unfold fi at h
 split at h
 ·rename_i hR
  split at h
  ·cases h
  ·dsimp only at h
   split at h
   ·rename_i h1
    exact absurd h h1
   ·rename_i h1
    split at h
    ·rename_i h2
     split at h
     ·rename_i h3
      exact ⟨hR, by omega, Decidable.not_not.1 h1, h2, h3⟩
     ·cases h
    ·cases h
 ·cases h
def gA (n : Nat) (m : Img) (i : Int) : Int × Int :=
 if fi n m i ≠ 0 then (0, fi n m i) else ((eH bM n (dk m i).code).1 + 2 * m.1 + m.2.1 + m.2.2.1, 0)
def iN (n : Nat) (m : Img) (i : Int) : List Int × Int :=
 if fi n m i ≠ 0 then ([], fi n m i) else ((ke n (dk m i).code).1.map Prod.snd, 0)
theorem qW {i : Int} {k : Nat} (h0 : 0 ≤ i) (h1 : i < (k : Int)) : (decide (0 ≤ i) && decide (i < (k : Int))) = true := by rw [af h0, af h1]; rfl
theorem MG (n : Nat) (hn : 200 < n) (hn2 : n < 1000000) (m : Img) (i : Int) : iE n m i = some (gA n m i) := by
 unfold iE gA
 rw [show fe n (m.1, m.2.1, m.2.2.1, m.2.2.2.1, m.2.2.2.2.1, m.2.2.2.2.2.1, m.2.2.2.2.2.2) i = _ from A2 n hn hn2 m i, ae]
 by_cases h : fi n m i ≠ 0
 ·rw [if_pos (aj.2 h), if_pos h]
 rw [if_neg (fun k => h (aj.1 k)), if_neg h]
 obtain ⟨hR, ⟨h0, h1⟩, h2, h3, h4⟩ := nL (Decidable.not_not.1 h)
 obtain ⟨ht, hm⟩ := hR.task h0 h1
 have hc : (dk m i).code.length < n := Nat.lt_of_le_of_lt ht.2.2.2.2.1 (by omega)
 rw [if_pos (show (decide (0 ≤ i) && decide (i < (m.2.2.2.2.2.2.length : Int))) = true from qW h0 h1)]
 rw [show fE n (m.2.2.2.2.2.2.getD i.toNat (0, 0, 0, 0, [], [], [])).2.2.2.2.2.2 = _ from xX n (dk m i).code hc (by omega) hn2, ae]
 try dsimp only
 obtain ⟨_, a1, a2, _, a3⟩ := r4 n _ h2
 obtain ⟨n1, n2, n3, _⟩ := hR.1
 rw [h2, dA (e := m.1 + m.2.1) (by omega) (by omega), dA (e := m.1 + m.2.1 + (eH bM n (dk m i).code).1) (by omega) (by omega), dA (e := m.1 + m.2.1 + (eH bM n (dk m i).code).1 + m.2.2.1) (by omega) (by omega), dA (by omega) (by omega)]
 congr 2
 omega
theorem MH (n : Nat) (hn : n < 1000000) (e : Int) (s : List (Int × Int)) (hs : s.length < n) : gI n (e, [], s, (s.length : Int), 0) = some (e, s.map Prod.snd) := by
 unfold gI
 refine d5 (S := fun F => (dm (C_ q_)) (gp n F))
  (fun f x r => ∃ i : Nat, x = (e, (s.take i).map Prod.snd, s, (s.length : Int), (i : Int)) ∧ i ≤ s.length ∧ s.length < f + i ∧ r = (e, s.map Prod.snd)) (fun x r ⟨i, _, h1, h2, _⟩ => by omega) (fun f x F hF r => ?_) n _ _ ⟨0, rfl, ao _, by omega, rfl⟩
 rintro ⟨i, rfl, h1, h2, rfl⟩
 show gp n F e ((s.take i).map Prod.snd) s (s.length : Int) (i : Int) = _
 unfold gp
 rcases am i s.length with hlt | hge
 ·have hl : ((s.take i).map Prod.snd).length = i := by rw [aS, cn]; omega
  rw [if_pos (af (by omega)), if_pos (dc hlt), if_pos (by rw [af (by omega), af (by omega)]; rfl), ai, di (by omega)]
  refine hF _ _ ⟨i + 1, ?_, by omega, by omega, rfl⟩
  have e : (s.take i).map Prod.snd ++ [(s.getD i (0, 0)).2] = (s.take (i + 1)).map Prod.snd := by
   rw [cJ, aq, au hlt, cc]
   rfl
  rw [← e]
 ·have : i = s.length := by omega
  subst this
  rw [if_neg (by simp), List.take_length]
theorem Ku {n : Nat} {l : List cY} (h : (eH bM n l).2 = 0) : (ke n l).2 = 0 := by
 unfold ke
 rw [if_neg (fun k => k h)]
theorem Cl : ∀ {l : List cY} {m : List Int} {n : Nat} (r i : Nat), (gz l m n r i).length ≤ r
 | l, m, n, 0, i => by simp [gz]
 | l, m, n, r + 1, i => by
  have := Cl (l := l) (m := m) (n := n) r (i + 1)
  unfold gz
  rw [aK]
  split <;> simp <;> omega
theorem HZ (n : Nat) (l : List cY) : (ke n l).1.length ≤ l.length := by
 unfold ke
 split
 ·simp
 ·exact Cl _ _
theorem Kv (n : Nat) (hn : 200 < n) (hn2 : n < 1000000) (m : Img) (i : Int) : gV n m i = some (iN n m i) := by
 unfold gV iN
 rw [show fe n (m.1, m.2.1, m.2.2.1, m.2.2.2.1, m.2.2.2.2.1, m.2.2.2.2.2.1, m.2.2.2.2.2.2) i = _ from A2 n hn hn2 m i, ae]
 by_cases h : fi n m i ≠ 0
 ·rw [if_pos (aj.2 h), if_pos h]
 rw [if_neg (fun k => h (aj.1 k)), if_neg h]
 obtain ⟨hR, ⟨h0, h1⟩, h2, h3, h4⟩ := nL (Decidable.not_not.1 h)
 obtain ⟨ht, hm⟩ := hR.task h0 h1
 have hc : (dk m i).code.length < n := Nat.lt_of_le_of_lt ht.2.2.2.2.1 (by omega)
 have hsl := HZ n (dk m i).code
 rw [if_pos (show (decide (0 ≤ i) && decide (i < (m.2.2.2.2.2.2.length : Int))) = true from qW h0 h1)]
 rw [show gn n (m.2.2.2.2.2.2.getD i.toNat (0, 0, 0, 0, [], [], [])).2.2.2.2.2.2 = _ from FD n (dk m i).code hc (by omega) hn2, ae, MH n hn2 _ _ (by omega), ae, Ku h2]
def jx (e : Nat → Int) : Nat → Nat → Option (Int × Int)
 | 0, i => none
 | r + 1, i => if e i ≠ 0 then some ((i : Int), e i) else jx e r (i + 1)
open Classical in
def ei (n : Nat) (m : Img) : Int × Int :=
 if RightP m then (jx (fun i => fi n m (i : Int)) m.tasks.length 0).getD (-1, 0) else (-1, 12)
theorem MI (n : Nat) (hn : 200 < n) (hn2 : n < 1000000) (m : Img) (hT : m.tasks.length < n) : gT n ((m.tasks.length : Int), 0, m.1, m.2.1, m.2.2.1, m.2.2.2.1, m.2.2.2.2.1, m.2.2.2.2.2.1, m.2.2.2.2.2.2) = some (match jx (fun i => fi n m (i : Int)) m.tasks.length 0 with | some p => .inl ((p.1, p.2, ()), ((m.1, m.2.1, m.2.2.1, m.2.2.2.1, m.2.2.2.2.1, m.2.2.2.2.2.1, m.2.2.2.2.2.2, ()), ())) | none => .inr ((), ((m.1, m.2.1, m.2.2.1, m.2.2.2.1, m.2.2.2.2.1, m.2.2.2.2.2.1, m.2.2.2.2.2.2, ()), ()))) := by
 unfold gT
 refine d5 (S := fun F => (dI (dm (C_ q_))) (i0 n F))
  (fun f x r => ∃ (i : Nat), x = ((m.tasks.length : Int), (i : Int), m.1, m.2.1, m.2.2.1, m.2.2.2.1, m.2.2.2.2.1, m.2.2.2.2.2.1, m.2.2.2.2.2.2) ∧ i ≤ m.tasks.length ∧ m.tasks.length < f + i ∧ r = (match jx (fun i => fi n m (i : Int)) (m.tasks.length - i) i with | some p => .inl ((p.1, p.2, ()), ((m.1, m.2.1, m.2.2.1, m.2.2.2.1, m.2.2.2.2.1, m.2.2.2.2.2.1, m.2.2.2.2.2.2, ()), ())) | none => .inr ((), ((m.1, m.2.1, m.2.2.1, m.2.2.2.1, m.2.2.2.2.1, m.2.2.2.2.2.1, m.2.2.2.2.2.2, ()), ())))) (fun x r ⟨i, _, h1, h2, _⟩ => by omega) (fun f x F hF r => ?_) n _ _ ⟨0, rfl, ao _, by omega, rfl⟩
 rintro ⟨i, rfl, h1, h2, rfl⟩
 show i0 n F (m.tasks.length : Int) (i : Int) m.1 m.2.1 m.2.2.1 m.2.2.2.1 m.2.2.2.2.1 m.2.2.2.2.2.1 m.2.2.2.2.2.2 = _
 unfold i0
 rcases am i m.tasks.length with hlt | hge
 ·rw [if_pos (af (by omega)), show fe n (m.1, m.2.1, m.2.2.1, m.2.2.2.1, m.2.2.2.2.1, m.2.2.2.2.2.1, m.2.2.2.2.2.2) (i : Int) = _ from A2 n hn hn2 m i, ae, show m.tasks.length - i = (m.tasks.length - (i + 1)) + 1 by omega]
  unfold jx
  try dsimp only
  by_cases h : fi n m (i : Int) ≠ 0
  ·rw [if_pos (aj.2 h), if_pos h]
  ·rw [if_neg (fun k => h (aj.1 k)), if_neg h, di (by omega)]
   exact hF _ _ ⟨i + 1, rfl, by omega, by omega, rfl⟩
 ·have : i = m.tasks.length := by omega
  subst this
  rw [if_neg (by simp), aZ]
  rfl
theorem MJ (n : Nat) (hn : 200 < n) (hn2 : n < 1000000) (m : Img) : jM n m = some (ei n m) := by
 obtain ⟨b, e1, e2⟩ := uZ n hn hn2 m
 unfold jM ei
 rw [show lf n (m.1, m.2.1, m.2.2.1, m.2.2.2.1, m.2.2.2.2.1, m.2.2.2.2.2.1, m.2.2.2.2.2.2) = some b from e1, ae]
 cases b with
 | false =>
  rw [if_pos (show (!false) = true from rfl), if_neg (show ¬ RightP m from fun h => by have := e2.2 h; cases this)]
 | true =>
  have hR := e2.1 rfl
  rw [if_pos hR, if_neg (by decide)]
  rw [show gT n _ = _ from MI n hn hn2 m (by have := hR.1.2.2.2.2.2.2; omega), ae]
  cases jx (fun i => fi n m (i : Int)) m.tasks.length 0 <;> rfl
abbrev QO : Sh := .pair (.int .i64) (.pair (.int .i64) (.pair (.int .i64) (.pair (.int .i64) (.pair (.sl (.int .i64)) (.pair (.sl (.int .i64)) (.sl (.pair (.int .i64) (.pair (.int .i64) (.int .i64)))))))))
abbrev P7 : Sh := .pair (.int .i64) (.pair (.int .i64) (.pair (.int .i64) (.pair (.int .i64) (.pair (.sl (.int .i64)) (.pair (.sl (.sl (.int .i64))) (.sl QO))))))
theorem Kw (n : Nat) (hn0 : 200 < n) (hn : n < 1000000) {m : Img} (h : Sh.Sm P7 m) : nF n m = some 0 ∨ (nF n m = some 1 ∧ EW m) :=
 MF n hn0 hn m (by
  have h1 : m.safe.length ≤ 140737488351232 := h.2.2.2.2.1
  have h2 : m.blocks.length ≤ 140737488351232 := h.2.2.2.2.2.1
  have h3 : m.tasks.length ≤ 140737488351232 := h.2.2.2.2.2.2
  omega)
theorem Cm {l : List cY} {m : List Int} {n : Nat} : ∀ (r i : Nat), (gz l m n r i).length = (gw l r i).length
 | 0, i => rfl
 | r + 1, i => by
  have := Cm (l := l) (m := m) (n := n) r (i + 1)
  rw [show gw l (r + 1) i = j9 l i ++ gw l r (i + 1) from rfl]
  unfold gz j9
  rw [aK, aK, this]
  split <;> rfl
abbrev Row := Int × Int × Int × Int × Int × Int
abbrev Row.C (r : Row) : Int := r.1
abbrev Row.B (r : Row) : Int := r.2.1
abbrev Row.T (r : Row) : Int := r.2.2.1
abbrev Row.D (r : Row) : Int := r.2.2.2.1
abbrev Row.P (r : Row) : Int := r.2.2.2.2.2
abbrev du : Row := ((0 : Int), ((0 : Int), ((0 : Int), ((0 : Int), ((0 : Int), (0 : Int))))))
structure RowB (r : Row) : Prop where
 c : 1 ≤ r.1 ∧ r.1 ≤ 2000000
 b : 0 ≤ r.2.1 ∧ r.2.1 ≤ 2000000
 t : 1 ≤ r.2.2.1 ∧ r.2.2.1 ≤ 1048576
 d : 1 ≤ r.2.2.2.1 ∧ r.2.2.2.1 ≤ 1048576
 j : 0 ≤ r.2.2.2.2.1 ∧ r.2.2.2.2.1 ≤ 1048576
 p : 1 ≤ r.2.2.2.2.2 ∧ r.2.2.2.2.2 ≤ 100
structure RowsB (l : List Row) : Prop where
 len : l.length ≤ 8
 all : ∀ r ∈ l, RowB r
theorem RowsB.get {l : List Row} (h : RowsB l) {i : Nat} (hi : i < l.length) : RowB (l.getD i du) := h.all _ (by rw [aq, au hi]; exact aU hi)
theorem fF (n : Nat) (a : Int) (h0 : 0 ≤ a) (h1 : a < 4611686018427387904) : eR n a = some true := by
 unfold eR
 rw [if_pos (af h0), af h1]
def small (a : Int) : Prop := 0 ≤ a ∧ a ≤ 1000000000000000
theorem H3 (n : Nat) (hn : n < 1000000) (l : List Int) (hl : l.length < n) (hs : ∀ a ∈ l, small a) : pn n l = some true := by
 unfold pn oE
 have := d5 (S := fun F => (C_ q_) (lp n F)) (fun f x r => ∃ i : Nat, x = (l, (l.length : Int), (i : Int)) ∧ i ≤ l.length ∧ l.length < f + i ∧ r = .inr ((), ())) (fun x r ⟨i, _, h1, h2, _⟩ => by omega) (fun f x F hF r => ?_) n (l, (l.length : Int), 0) _ ⟨0, rfl, ao _, by omega, rfl⟩
 ·rw [this]; rfl
 ·rintro ⟨i, rfl, h1, h2, rfl⟩
  show lp n F l (l.length : Int) (i : Int) = _
  unfold lp
  rcases am i l.length with hlt | hge
  ·have hm : l.getD i 0 ∈ l := by rw [aq, au hlt]; exact aU hlt
   have := hs _ hm
   unfold small at this
   rw [if_pos (af (by omega)), if_pos (dc hlt), ai, fF n _ this.1 (by omega), ae, if_neg (by decide), di (by omega)]
   exact hF _ _ ⟨i + 1, rfl, by omega, by omega, rfl⟩
  ·have : i = l.length := by omega
   subst this
   rw [if_neg (by simp)]
theorem P8 (a : Int) : ¬ (((a, (0 : Int)) : Int × Int).2 != 0) = true := by simp
theorem Sp (a : Int) : (((a, (0 : Int)) : Int × Int).2 == 0) = true := by simp
theorem EX {l : List Int} (hs : ∀ a ∈ l, small a) : ∀ i, i ≤ l.length → 0 ≤ (l.take i).sum ∧ (l.take i).sum ≤ 1000000000000000 * (i : Int) := by
 intro i
 induction i with
 | zero => intro _; simp
 | succ i ih =>
  intro hi
  have := ih (by omega)
  have hm : l.getD i 0 ∈ l := by rw [aq, au (by omega)]; exact aU (by omega)
  have h2 := hs _ hm
  unfold small at h2
  rw [cJ, List.sum_append, au (by omega)]
  rw [aq, au (by omega)] at h2
  simp only [bs, Option.toList_some, List.sum_cons, List.sum_nil, cy] at h2 ⊢
  omega
theorem Kx {l : List Int} {i : Nat} (hlt : i < l.length) : (l.take i).sum + l.getD i 0 = (l.take (i + 1)).sum := by
 rw [cJ, List.sum_append, au hlt, aq, au hlt]
 simp only [bs, Option.toList_some, List.sum_cons, List.sum_nil, cy]
theorem Ky (n : Nat) (hn : n < 1000000) (l : List Int) (hl : l.length < n) (h100 : l.length ≤ 100) (hs : ∀ a ∈ l, small a) : gt n l = some (l.sum, 0) := by
 unfold gt oG
 rw [H3 n hn l hl hs, ae, if_neg (by decide)]
 have := d5 (S := fun F => (dm q_) (lq n F)) (fun f x r => ∃ i : Nat, x = ((l.take i).sum, l, (l.length : Int), (i : Int)) ∧ i ≤ l.length ∧ l.length < f + i ∧ r = .inr ((l.sum, ()), ())) (fun x r ⟨i, _, h1, h2, _⟩ => by omega) (fun f x F hF r => ?_) n (0, l, (l.length : Int), 0) _ ⟨0, rfl, ao _, by omega, rfl⟩
 ·rw [this]; rfl
 ·rintro ⟨i, rfl, h1, h2, rfl⟩
  show lq n F (l.take i).sum l (l.length : Int) (i : Int) = _
  unfold lq
  rcases am i l.length with hlt | hge
  ·have h4 := EX hs i h1
   have h5 := EX hs (i + 1) hlt
   rw [if_pos (af (by omega)), if_pos (dc hlt), ai, Kx hlt, dA (e := (l.take (i + 1)).sum) (by omega) (by omega), fF n _ h5.1 (by omega), ae, if_neg (by decide), di (by omega)]
   exact hF _ _ ⟨i + 1, rfl, by omega, by omega, rfl⟩
  ·have : i = l.length := by omega
   subst this
   rw [if_neg (by simp), List.take_length]
theorem QP {a b x : Int} (ha : small a) (hb : small b) (hx : x ∈ [a, b]) : small x := by
 rcases aA.1 hx with rfl | hx
 ·exact ha
 rcases aA.1 hx with rfl | hx
 ·exact hb
 cases hx
theorem A3 (n : Nat) (hn0 : 10 < n) (hn : n < 1000000) (a b : Int) (ha : small a) (hb : small b) : gt n [a, b] = some (a + b, 0) := by
 rw [Ky n hn [a, b] (by simp; omega) (by simp) (fun x hx => QP ha hb hx)]
 simp
def ip (a b : Int) : Int := if a = 0 then 0 else (a - 1) / b + 1
theorem u5 {a b : Int} (ha : 0 ≤ a) (hb : 1 ≤ b) : 0 ≤ a / b ∧ a / b ≤ a := ⟨Int.ediv_nonneg ha (by omega), Int.ediv_le_self _ ha⟩
theorem MK {a b : Int} (ha : 0 ≤ a) (hb : 1 ≤ b) : 0 ≤ ip a b ∧ ip a b ≤ a := by
 unfold ip
 split
 ·omega
 ·have := u5 (a := a - 1) (b := b) (by omega) hb
  omega
theorem NL (n : Nat) (a b : Int) (ha : small a) (hb : 1 ≤ b ∧ b ≤ 1048576) : nG n a b = some (ip a b, 0) := by
 unfold small at ha
 unfold nG ip
 rw [fF n a ha.1 (by omega), ae, if_neg (by decide), fF n b (by omega) (by omega), ae, if_neg (by decide), if_neg (fun h => by have := ag.1 h; omega)]
 by_cases h : a = 0
 ·rw [if_pos (ag.2 h), if_pos h]
 ·have hd := u5 (a := a - 1) (b := b) (by omega) hb.1
  rw [if_neg (fun e => h (ag.1 e)), if_neg h, if_neg (fun h => by have := ag.1 h; omega), dA (e := a - 1) (by omega) (by omega), cf (by omega), dA (e := (a - 1) / b) (by omega) (by omega), dA (by omega) (by omega)]
theorem Cn {a b : Int} (ha : 0 ≤ a ∧ a ≤ 100000000) (hb : 0 ≤ b ∧ b ≤ 2000000) : 0 ≤ a * b ∧ a * b ≤ 200000000000000 := by
 refine ⟨cv ha.1 hb.1, ?_⟩
 have h1 : a * b ≤ 100000000 * b := Int.mul_le_mul_of_nonneg_right ha.2 hb.1
 omega
theorem NM {a b : Int} (ha : 0 ≤ a ∧ a ≤ 100000000) (hb : 1 ≤ b ∧ b ≤ 2000000) : ¬ a > 4611686018427387903 / b := by
 have h := Cn ha ⟨by omega, hb.2⟩
 have : a ≤ 4611686018427387903 / b := (Int.le_ediv_iff_mul_le (by omega)).2 (by omega)
 omega
theorem Kz (n : Nat) (a b : Int) (ha : 0 ≤ a ∧ a ≤ 100000000) (hb : 1 ≤ b ∧ b ≤ 2000000) : jg n a b = some (a * b, 0) := by
 unfold jg
 have h := Cn ha ⟨by omega, hb.2⟩
 rw [fF n a ha.1 (by omega), ae, if_neg (by decide), fF n b (by omega) (by omega), ae, if_neg (by decide)]
 by_cases hz : a = 0
 ·subst hz; rw [if_pos (show ((0 : Int) == 0) = true from rfl), Int.zero_mul]
 ·have hd := u5 (a := 4611686018427387903) (b := b) (by omega) hb.1
  rw [if_neg (fun e => hz (ag.1 e)), if_neg (fun h => by have := ag.1 h; omega), if_neg (fun h => by have := ag.1 h; omega), cf (by omega), dA (e := 4611686018427387903 / b) (by omega) (by omega), if_neg (fun e => NM ha hb (aD e)), dA (by omega) (by omega)]
def lF (r : Row) (w p : Int) : Int := (ip (w + r.2.2.2.2.1) r.2.2.1 + if r.2.2.2.2.2 = p then 1 else 0) * r.1
theorem Co {r : Row} (hr : RowB r) {w p : Int} (hw : 0 ≤ w ∧ w ≤ 2000000) : 0 ≤ ip (w + r.2.2.2.2.1) r.2.2.1 + (if r.2.2.2.2.2 = p then 1 else 0) ∧ ip (w + r.2.2.2.2.1) r.2.2.1 + (if r.2.2.2.2.2 = p then 1 else 0) ≤ 10000000 := by
 have := MK (a := w + r.2.2.2.2.1) (b := r.2.2.1) (by have := hr.j; omega) hr.t.1
 have h2 : w + r.2.2.2.2.1 ≤ 4000000 := by have := hr.j; omega
 split <;> omega
theorem EY {r : Row} (hr : RowB r) {w p : Int} (hw : 0 ≤ w ∧ w ≤ 2000000) : 0 ≤ lF r w p ∧ lF r w p ≤ 20000000000000 := by
 have h1 := Co hr (p := p) hw
 refine ⟨cv h1.1 (by have := hr.c; omega), ?_⟩
 have h2 : lF r w p ≤ 10000000 * r.1 := Int.mul_le_mul_of_nonneg_right h1.2 (by have := hr.c; omega)
 have := hr.c
 omega
theorem NN (n : Nat) (hn0 : 10 < n) (hn : n < 1000000) {r : Row} (hr : RowB r) {w p : Int} (hw : 0 ≤ w ∧ w ≤ 2000000) : gX n r w p = some (lF r w p, 0) := by
 have hj := hr.j
 have hf := Co hr (p := p) hw
 unfold gX
 have hs : small (w + r.2.2.2.2.1) := ⟨by omega, by omega⟩
 rw [A3 n hn0 hn w r.2.2.2.2.1 ⟨hw.1, by omega⟩ ⟨hj.1, by omega⟩, ae, if_neg (P8 _), NL n _ _ hs hr.t, ae]
 unfold lF
 by_cases hp : r.2.2.2.2.2 = p
 ·rw [if_pos hp] at hf
  rw [if_pos (ag.2 hp), if_pos hp]
  show (jg n (wrap .i64 (ip (w + r.2.2.2.2.1) r.2.2.1 + 1)) r.1).bind _ = _
  rw [dA (by omega) (by omega), Kz n _ _ ⟨hf.1, by omega⟩ hr.c]
  rfl
 ·rw [if_neg hp, cy] at hf
  rw [if_neg (fun e => hp (ag.1 e)), if_neg hp, cy]
  show (jg n (ip (w + r.2.2.2.2.1) r.2.2.1) r.1).bind _ = _
  rw [Kz n _ _ ⟨hf.1, by omega⟩ hr.c]
  rfl
theorem EZ (n : Nat) (hn0 : 10 < n) (hn : n < 1000000) {r : Row} (hr : RowB r) : gq n r = some true := by
 have hc := hr.c
 have hb := hr.b
 have ht := hr.t
 have hj := hr.j
 have hd := hr.d
 have hp := hr.p
 unfold gq jd
 rw [dA (e := r.1 - 1) (by omega) (by omega), dA (e := r.2.2.1 - 1) (by omega) (by omega)]
 generalize hL : [r.1 - 1, r.2.2.1 - 1, r.1, r.2.2.1, r.2.1, r.2.2.2.2.1] = L
 have hlen : L.length = 6 := by rw [← hL]; rfl
 have hs : ∀ a ∈ L, small a := by
  intro a ha
  rw [← hL] at ha
  unfold small
  simp only [aA, List.not_mem_nil, or_false] at ha
  rcases ha with rfl | rfl | rfl | rfl | rfl | rfl <;> omega
 have := d5 (S := fun F => (dI (dm q_)) (fZ n F)) (fun f x q => ∃ i : Nat, x = (L, (i : Int), r.1, r.2.1, r.2.2.1, r.2.2.2.1, r.2.2.2.2.1, r.2.2.2.2.2) ∧ i ≤ 6 ∧ 6 < f + i ∧ q = .inr ((), ((r.1, r.2.1, r.2.2.1, r.2.2.2.1, r.2.2.2.2.1, r.2.2.2.2.2, ()), ()))) (fun x r ⟨i, _, h1, h2, _⟩ => by omega) (fun f x F hF q => ?_) n (L, 0, r.1, r.2.1, r.2.2.1, r.2.2.2.1, r.2.2.2.2.1, r.2.2.2.2.2) _ ⟨0, rfl, ao _, by omega, rfl⟩
 ·rw [this]
  show (if decide (r.2.2.2.1 ≥ 1) = true then _ else _) = _
  rw [if_pos (af (by omega))]
  show (if decide (r.2.2.2.1 ≤ 1048576) = true then _ else _) = _
  rw [if_pos (af (by omega))]
  show (if decide (r.2.2.2.2.2 ≥ 1) = true then some (decide (r.2.2.2.2.2 ≤ 100)) else _) = _
  rw [if_pos (af (by omega)), af (by omega)]
 ·rintro ⟨i, rfl, h1, h2, rfl⟩
  show fZ n F L (i : Int) _ _ _ _ _ _ = _
  unfold fZ
  rcases am i 6 with hlt | hge
  ·have hm : L.getD i 0 ∈ L := by rw [aq, au (by omega)]; exact aU (by omega)
   have h3 := hs _ hm
   unfold small at h3
   rw [if_pos (af (by omega)), if_pos (show (decide (0 ≤ (i : Int)) && decide ((i : Int) < 6)) = true by simp; omega), ai, fF n _ h3.1 (by omega), ae, if_neg (by decide), di (by omega)]
   exact hF _ _ ⟨i + 1, rfl, by omega, by omega, rfl⟩
  ·have : i = 6 := by omega
   subst this
   rw [if_neg (by simp)]
theorem u6 (n : Nat) (hn0 : 10 < n) (hn : n < 1000000) {l : List Row} (h : RowsB l) : jO n l = some true := by
 have h8 := h.len
 unfold jO l6
 have := d5 (S := fun F => (dm q_) (jf n F)) (fun f x r => ∃ i : Nat, x = (l, l, (l.length : Int), (i : Int)) ∧ i ≤ l.length ∧ l.length < f + i ∧ r = .inr ((l, ()), ())) (fun x r ⟨i, _, h1, h2, _⟩ => by omega) (fun f x F hF r => ?_) n (l, l, (l.length : Int), 0) _ ⟨0, rfl, ao _, by omega, rfl⟩
 ·rw [this]
  show some (decide ((l.length : Int) ≤ 8)) = _
  rw [af (by omega)]
 ·rintro ⟨i, rfl, h1, h2, rfl⟩
  show jf n F l l (l.length : Int) (i : Int) = _
  unfold jf
  rcases am i l.length with hlt | hge
  ·rw [if_pos (af (by omega)), if_pos (dc hlt), ai]
   show ((gq n (l.getD i du)).bind _) = _
   rw [EZ n hn0 hn (h.get hlt), ae, if_neg (by decide), di (by omega)]
   exact hF _ _ ⟨i + 1, rfl, by omega, by omega, rfl⟩
  ·have : i = l.length := by omega
   subst this
   rw [if_neg (by simp)]
theorem E0 (n : Nat) (hn0 : 10 < n) (hn : n < 1000000) {l : List Row} (h : RowsB l) {i : Nat} (hi : i < l.length) : jP n l (i : Int) = some true := by
 unfold jP
 rw [u6 n hn0 hn h, ae, if_pos rfl, if_pos (af (by omega)), af (by omega)]
def iq (i : Nat) (w p : Int) : List Row → Nat → Int
 | [], _ => 0
 | r :: t, k => (if k = i ∨ r.2.2.2.2.2 < p then 0 else lF r w p) + iq i w p t (k + 1)
theorem x0 (i : Nat) {w p : Int} (hw : 0 ≤ w ∧ w ≤ 2000000) : ∀ (l : List Row) (k : Nat), (∀ r ∈ l, RowB r) → 0 ≤ iq i w p l k ∧ iq i w p l k ≤ 20000000000000 * (l.length : Int)
 | [], _, _ => by unfold iq; simp
 | r :: t, k, hr => by
  unfold iq
  have h1 := x0 i (p := p) hw t (k + 1) (fun r h => hr r (ax _ h))
  have h2 := EY (hr r (aB ..)) (p := p) hw
  rw [aF]
  split <;> omega
def d6 (l : List Row) (i : Nat) (w : Int) : Int := (l.getD i du).1 + (l.getD i du).2.1 + iq i w (l.getD i du).2.2.2.2.2 l 0
theorem GB (n : Nat) (hn0 : 10 < n) (hn : n < 1000000) {l : List Row} (h : RowsB l) {i : Nat} (hi : i < l.length) {w : Int} (hw : 0 ≤ w ∧ w ≤ 2000000) : lr n l (i : Int) w = some (d6 l i w, 0) := by
 have h8 := h.len
 have hr := h.get hi
 have hc := hr.c
 have hb := hr.b
 unfold lr
 rw [E0 n hn0 hn h hi, ae, if_neg (by decide), fF n w hw.1 (by omega), ae, if_neg (by decide), if_pos (dc hi), ai]
 show ((gt n [(l.getD i du).1, (l.getD i du).2.1]).bind _) = _
 unfold d6
 generalize l.getD i du = q at *
 rw [A3 n hn0 hn _ _ ⟨by omega, by omega⟩ ⟨hb.1, by omega⟩, ae]
 show ((j6 n ((i : Int), w, q.1 + q.2.1, 0, l, (l.length : Int), 0, q.1, q.2.1, q.2.2.1, q.2.2.2.1, q.2.2.2.2.1, q.2.2.2.2.2)).bind _) = _
 unfold j6
 have := d5 (S := fun F => (eS (dm (C_ q_))) (jQ n F)) (fun f x r => ∃ (j : Nat) (s : Int), x = ((i : Int), w, s, 0, l, (l.length : Int), (j : Int), q.1, q.2.1, q.2.2.1, q.2.2.2.1, q.2.2.2.2.1, q.2.2.2.2.2) ∧ j ≤ l.length ∧ l.length < f + j ∧ (0 ≤ s ∧ s ≤ 4000000 + 20000000000000 * (j : Int)) ∧ r = (s + iq i w q.2.2.2.2.2 (l.drop j) j, 0, q.1, q.2.1, q.2.2.1, q.2.2.2.1, q.2.2.2.2.1, q.2.2.2.2.2)) (fun x r ⟨j, s, _, h1, h2, _⟩ => by omega) (fun f x F hF r => ?_) n ((i : Int), w, q.1 + q.2.1, 0, l, (l.length : Int), 0, q.1, q.2.1, q.2.2.1, q.2.2.2.1, q.2.2.2.2.1, q.2.2.2.2.2) _ ⟨0, q.1 + q.2.1, rfl, ao _, by omega, by omega, rfl⟩
 ·rw [this, bi, ae, if_neg (by simp)]
 ·rintro ⟨j, s, rfl, h1, h2, h3, rfl⟩
  show jQ n F (i : Int) w s 0 l (l.length : Int) (j : Int) _ _ _ _ _ _ = _
  unfold jQ
  rcases am j l.length with hlt | hge
  ·rw [if_pos (af (by omega)), if_pos (dc hlt), if_neg (by decide), di (by omega), ai, dK (d := du) hlt]
   have hrj := h.get hlt
   have hin := EY hrj (p := q.2.2.2.2.2) hw
   unfold iq
   by_cases hji : j = i
   ·rw [if_pos (by rw [hji]; exact bg _), if_pos (.inl hji), Int.zero_add]
    exact hF _ _ ⟨j + 1, s, rfl, by omega, by omega, by omega, rfl⟩
   ·rw [if_neg (fun e => hji (by have := ag.1 e; omega))]
    by_cases hp : (l.getD j du).2.2.2.2.2 < q.2.2.2.2.2
    ·rw [if_pos (af hp), if_pos (.inr hp), Int.zero_add]
     exact hF _ _ ⟨j + 1, s, rfl, by omega, by omega, by omega, rfl⟩
    ·rw [if_neg (fun e => hp (aD e)), if_neg (by omega)]
     show ((gX n (l.getD j du) w q.2.2.2.2.2).bind _) = _
     rw [NN n hn0 hn hrj hw, ae, if_pos (Sp _)]
     show ((gt n [s, lF (l.getD j du) w q.2.2.2.2.2]).bind _) = _
     rw [A3 n hn0 hn _ _ ⟨h3.1, by omega⟩ ⟨hin.1, by omega⟩, ae]
     refine hF _ _ ⟨j + 1, s + lF (l.getD j du) w q.2.2.2.2.2, rfl, by omega, by omega, by omega, ?_⟩
     rw [Int.add_assoc]
  ·have : j = l.length := by omega
   subst this
   rw [if_neg (by simp), aR]
   unfold iq
   rw [cy]
end Go.Proofs.Dk
