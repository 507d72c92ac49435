/- A part of the proofs: Plain: what instructions take and give. -/
import Derived.Test.YtofeifhecboinaaGreatMB5
set_option linter.unusedVariables false
set_option linter.unusedSimpArgs false
noncomputable section
namespace Go.Proofs.Dk
open Go Go.IntKind
set_option maxRecDepth 100000
def ic (a b : ByteArray) (k : Nat) : Bool := bt b (k : Int) == 32 || bt b (k : Int) == bt a (k : Int)
def np (a b : ByteArray) : Bool := a.size == b.size && ed (ic a b) b.size 0
theorem HH (n : Nat) {a b : ByteArray} (hs : a.size = b.size) (hb : b.size < 1000000) : ∀ (f k : Nat), k ≤ b.size → b.size < f + k →
  it (fun F => (dk q_) (pP n F)) f (a, b, (b.size : Int), (k : Int)) = some (if ed (ic a b) (b.size - k) k = true then .inr ((), ()) else .inl ((false, ()), ()))
 | 0, k, hk, hf => by omega
 | f + 1, k, hk, hf => by
  have ih := HH n hs hb f (k + 1)
  show pP n (it _ f) a b (b.size : Int) (k : Int) = _
  generalize it (fun F => (dk q_) (pP n F)) f = F at ih ⊢
  unfold pP
  rcases aj k b.size with hlt | hge
  ·rw [if_pos (af (by omega)), if_pos (cZ hlt), if_pos (by decide), show b.size - k = (b.size - (k + 1)) + 1 by omega]
   rw [show ed (ic a b) (b.size - (k + 1) + 1) k = (ic a b k && ed (ic a b) (b.size - (k + 1)) (k + 1)) from rfl, dd (by omega)]
   have e32 : bt (ByteArray.mk #[32]) 0 = 32 := by rfl
   rw [e32]
   by_cases h1 : bt b (k : Int) = 32
   ·have : ic a b k = true := by unfold ic; rw [h1]; rfl
    rw [if_neg (fun h => (ak.1 h) h1), ih (by omega) (by omega), this, az]
   ·rw [if_pos (ak.2 h1), if_pos (cZ hlt), if_pos (cZ (by omega))]
    by_cases h2 : bt b (k : Int) = bt a (k : Int)
    ·have : ic a b k = true := by unfold ic; rw [h2]; simp
     rw [if_neg (fun h => (ak.1 h) h2), ih (by omega) (by omega), this, az]
    ·have : ic a b k = false := by
      unfold ic
      rw [bE, aH, aH]
      exact ⟨h1, h2⟩
     rw [if_pos (ak.2 h2), this, aZ, if_neg (by simp)]
  ·have : k = b.size := by omega
   subst this
   rw [if_neg (by simp), aU]
   simp [ed]
theorem Nq (n : Nat) (a b : ByteArray) (hb : b.size < n) (hn : n < 1000000) : ee n a b = some (np a b) := by
 unfold ee xj np
 by_cases hs : a.size = b.size
 ·rw [if_neg (fun h => (ak.1 h) (by rw [hs]))]
  have h0 := HH n hs (by omega) n 0 (ai _) (by omega)
  rw [show ((0 : Nat) : Int) = 0 from rfl] at h0
  rw [h0, ab, aV]
  have e : (a.size == b.size) = true := by simpa using hs
  rw [e, az]
  rcases aP (ed (ic a b) b.size 0) with hb | hb <;> rw [hb] <;> rfl
 ·rw [if_pos (ak.2 (by omega))]
  have e : (a.size == b.size) = false := by simpa using hs
  rw [e, aZ]
theorem Ab (n : Nat) {a b : ByteArray} (hs : a.size = b.size) (hb : b.size < 1000000) : ∀ (f k : Nat), k ≤ b.size → b.size < f + k →
  it (fun F => (C_ q_) (pV n F)) f (a, b, (k : Int)) = some (if ed (ic a b) (b.size - k) k = true then .inr ((), ()) else .inl ((false, ()), ()))
 | 0, k, hk, hf => by omega
 | f + 1, k, hk, hf => by
  have ih := Ab n hs hb f (k + 1)
  show pV n (it _ f) a b (k : Int) = _
  generalize it (fun F => (C_ q_) (pV n F)) f = F at ih ⊢
  unfold pV
  rcases aj k b.size with hlt | hge
  ·rw [if_pos (af (by omega)), if_pos (cZ hlt), show b.size - k = (b.size - (k + 1)) + 1 by omega]
   rw [show ed (ic a b) (b.size - (k + 1) + 1) k = (ic a b k && ed (ic a b) (b.size - (k + 1)) (k + 1)) from rfl, dd (by omega)]
   by_cases h1 : bt b (k : Int) = 32
   ·have : ic a b k = true := by unfold ic; rw [h1]; rfl
    rw [if_neg (fun h => (ak.1 h) h1), ih (by omega) (by omega), this, az]
   ·rw [if_pos (ak.2 h1), if_pos (cZ hlt), if_pos (cZ (by omega))]
    by_cases h2 : bt b (k : Int) = bt a (k : Int)
    ·have : ic a b k = true := by unfold ic; rw [h2]; simp
     rw [if_neg (fun h => (ak.1 h) h2), ih (by omega) (by omega), this, az]
    ·have : ic a b k = false := by
      unfold ic
      rw [bE, aH, aH]
      exact ⟨h1, h2⟩
     rw [if_pos (ak.2 h2), this, aZ, if_neg (by simp)]
  ·have : k = b.size := by omega
   subst this
   rw [if_neg (by simp), aU]
   simp [ed]
theorem ET (n : Nat) (a b : ByteArray) (hb : b.size < n) (hn : n < 1000000) : tx n a b = some (np a b) := by
 unfold tx ze np
 by_cases hs : a.size = b.size
 ·rw [if_neg (fun h => (ak.1 h) (by rw [hs]))]
  have h0 := Ab n hs (by omega) n 0 (ai _) (by omega)
  rw [show ((0 : Nat) : Int) = 0 from rfl] at h0
  rw [h0, ab, aV]
  have e : (a.size == b.size) = true := by simpa using hs
  rw [e, az]
  rcases aP (ed (ic a b) b.size 0) with hb | hb <;> rw [hb] <;> rfl
 ·rw [if_pos (ak.2 (by omega))]
  have e : (a.size == b.size) = false := by simpa using hs
  rw [e, aZ]
theorem ky {o A B : Int} (h : dz (o, A, B) = true) : 1 ≤ o ∧ o ≤ 25 := by
 have h1 := (eM 0 (o, A, B)).symm
 rw [h] at h1
 by_cases hc : o < 1 ∨ o > 25
 ·rw [F1 0 o A B hc] at h1
  cases h1
 ·omega
theorem aaQ {A B : Int} (h : dz (5, A, B) = true) : 1 ≤ A ∧ A ≤ 12 := by
 have h1 := (eM 0 (5, A, B)).symm.trans (VC 0 A B)
 rw [h] at h1
 by_cases h2 : 1 ≤ A
 ·by_cases h3 : A ≤ 12
  ·exact ⟨h2, h3⟩
  ·rw [if_pos (af h2), if_neg (by simpa using h3)] at h1
   cases h1
 ·rw [if_neg (by simpa using h2)] at h1
  cases h1
def dP (o : Int) : ByteArray := [(ByteArray.mk #[]), (ByteArray.mk #[32]), (ByteArray.mk #[32]), (ByteArray.mk #[32, 32]), (ByteArray.mk #[105, 105]), (ByteArray.mk #[105]), (ByteArray.mk #[98]), (ByteArray.mk #[98, 98]), (ByteArray.mk #[98, 98]), (ByteArray.mk #[98]), (ByteArray.mk #[]), (ByteArray.mk #[105]), (ByteArray.mk #[]), (ByteArray.mk #[105]), (ByteArray.mk #[]), (ByteArray.mk #[105]), (ByteArray.mk #[]), (ByteArray.mk #[105]), (ByteArray.mk #[]), (ByteArray.mk #[98]), (ByteArray.mk #[]), (ByteArray.mk #[]), (ByteArray.mk #[]), (ByteArray.mk #[]), (ByteArray.mk #[])].getD (o - 1).toNat ByteArray.empty
def lA (o A : Int) (t : ByteArray) : ByteArray :=
 if o = 1 ∨ o = 6 ∨ o = 10 ∨ o = 11 ∨ o = 13 ∨ o = 15 ∨ o = 17 then ByteArray.mk #[105]
 else if o = 3 then t ++ t
 else if o = 4 then t.extract 1 t.size ++ t.extract 0 1
 else if o = 5 then (if A ≥ 11 then ByteArray.mk #[98] else ByteArray.mk #[105])
 else if o = 7 ∨ o = 8 ∨ o = 9 then ByteArray.mk #[98]
 else ByteArray.mk #[]
theorem qN {o : Int} (h : 1 ≤ o ∧ o ≤ 25) : o = 1 ∨ o = 2 ∨ o = 3 ∨ o = 4 ∨ o = 5 ∨ o = 6 ∨ o = 7 ∨ o = 8 ∨ o = 9 ∨ o = 10 ∨ o = 11 ∨ o = 12 ∨ o = 13 ∨ o = 14 ∨ o = 15 ∨ o = 16 ∨ o = 17 ∨ o = 18 ∨ o = 19 ∨ o = 20 ∨ o = 21 ∨ o = 22 ∨ o = 23 ∨ o = 24 ∨ o = 25 := by omega
theorem pF {o : Int} (h : 1 ≤ o ∧ o ≤ 25) : (dP o).size ≤ 2 := by
 rcases qN h with rfl | rfl | rfl | rfl | rfl | rfl | rfl | rfl | rfl | rfl | rfl | rfl | rfl | rfl | rfl | rfl | rfl | rfl | rfl | rfl | rfl | rfl | rfl | rfl | rfl <;> decide
theorem VL (n : Nat) {o A B : Int} (h : dz (o, A, B) = true) : jD n (o, A, B) = some (dP o) := by
 unfold jD
 rw [eM, h, ab, if_neg (by decide)]
 rcases qN (ky h) with rfl | rfl | rfl | rfl | rfl | rfl | rfl | rfl | rfl | rfl | rfl | rfl | rfl | rfl | rfl | rfl | rfl | rfl | rfl | rfl | rfl | rfl | rfl | rfl | rfl <;> rfl
theorem Ac (n : Nat) {o A B : Int} (h : dz (o, A, B) = true) (hA : -9223372036854775808 ≤ A ∧ A ≤ 9223372036854775807) : em n (o, A, B) = some (dP o) := by
 unfold em
 rw [vc n _ hA, eM, h, ab, if_neg (by decide)]
 rcases qN (ky h) with rfl | rfl | rfl | rfl | rfl | rfl | rfl | rfl | rfl | rfl | rfl | rfl | rfl | rfl | rfl | rfl | rfl | rfl | rfl | rfl | rfl | rfl | rfl | rfl | rfl <;> rfl
theorem HI {a b : ByteArray} (h : np a b = true) : a.size = b.size := by
 unfold np at h
 rw [aq] at h
 simpa using h.1
theorem VM (n : Nat) (hn : 3 < n) (hn2 : n < 1000000) {o A B : Int} (h : dz (o, A, B) = true) {t : ByteArray} (ht : np t (dP o) = true) : lG n (o, A, B) t = some (lA o A t) := by
 have hs := pF (ky h)
 have ht2 := HI ht
 have hf := Nq n t (dP o) (by omega) hn2
 rw [ht] at hf
 have hdup : gN n (o, A, B) t = some (t ++ t) := by
  unfold gN
  rw [if_pos (by simp; omega)]
 have hswp : t.size = 2 → gO n (o, A, B) t = some (t.extract 1 t.size ++ t.extract 0 1) := fun h2 => by
  unfold gO
  rw [if_pos (by simp; omega), if_pos (by simp; omega)]
  simp only [b7]
  rw [if_pos (by simp; omega)]
 have htwo : 1 ≤ A ∧ A ≤ 12 → li n (o, A, B) t = some (if A ≥ 11 then ByteArray.mk #[98] else ByteArray.mk #[105]) := fun h2 => by
  unfold li
  by_cases c1 : A = 11
  ·subst c1; rfl
  ·by_cases c2 : A = 12
   ·subst c2; rfl
   ·rw [if_neg (by simpa using c1), if_neg (by simpa using c2), if_neg (by omega)]
 unfold lG
 rw [eM, h]
 rcases qN (ky h) with rfl | rfl | rfl | rfl | rfl | rfl | rfl | rfl | rfl | rfl | rfl | rfl | rfl | rfl | rfl | rfl | rfl | rfl | rfl | rfl | rfl | rfl | rfl | rfl | rfl
 ·refine aK (b := Option.bind (ee n t (dP 1)) _) rfl ?_
  rw [hf]
  rfl
 ·refine aK (b := Option.bind (ee n t (dP 2)) _) rfl ?_
  rw [hf]
  rfl
 ·refine aK (b := Option.bind (ee n t (dP 3)) _) rfl ?_
  rw [hf]
  refine aK (b := Option.bind (gN n (3, A, B) t) some) rfl ?_
  rw [hdup]
  rfl
 ·refine aK (b := Option.bind (ee n t (dP 4)) _) rfl ?_
  rw [hf]
  refine aK (b := Option.bind (gO n (4, A, B) t) some) rfl ?_
  rw [hswp ht2]
  rfl
 ·refine aK (b := Option.bind (ee n t (dP 5)) _) rfl ?_
  rw [hf]
  refine aK (b := Option.bind (li n (5, A, B) t) some) rfl ?_
  rw [htwo (aaQ h)]
  rfl
 ·refine aK (b := Option.bind (ee n t (dP 6)) _) rfl ?_
  rw [hf]
  rfl
 ·refine aK (b := Option.bind (ee n t (dP 7)) _) rfl ?_
  rw [hf]
  rfl
 ·refine aK (b := Option.bind (ee n t (dP 8)) _) rfl ?_
  rw [hf]
  rfl
 ·refine aK (b := Option.bind (ee n t (dP 9)) _) rfl ?_
  rw [hf]
  rfl
 ·refine aK (b := Option.bind (ee n t (dP 10)) _) rfl ?_
  rw [hf]
  rfl
 ·refine aK (b := Option.bind (ee n t (dP 11)) _) rfl ?_
  rw [hf]
  rfl
 ·refine aK (b := Option.bind (ee n t (dP 12)) _) rfl ?_
  rw [hf]
  rfl
 ·refine aK (b := Option.bind (ee n t (dP 13)) _) rfl ?_
  rw [hf]
  rfl
 ·refine aK (b := Option.bind (ee n t (dP 14)) _) rfl ?_
  rw [hf]
  rfl
 ·refine aK (b := Option.bind (ee n t (dP 15)) _) rfl ?_
  rw [hf]
  rfl
 ·refine aK (b := Option.bind (ee n t (dP 16)) _) rfl ?_
  rw [hf]
  rfl
 ·refine aK (b := Option.bind (ee n t (dP 17)) _) rfl ?_
  rw [hf]
  rfl
 ·refine aK (b := Option.bind (ee n t (dP 18)) _) rfl ?_
  rw [hf]
  rfl
 ·rfl
 ·refine aK (b := Option.bind (ee n t (dP 20)) _) rfl ?_
  rw [hf]
  rfl
 ·rfl
 ·rfl
 ·rfl
 ·rfl
 ·rfl
theorem KQ (n : Nat) (hn : 3 < n) (hn2 : n < 1000000) {o A B : Int} (h : dz (o, A, B) = true) (hA : -9223372036854775808 ≤ A ∧ A ≤ 9223372036854775807) {t : ByteArray} (ht : np t (dP o) = true) : fC n (o, A, B) t = some (lA o A t) := by
 have hs := pF (ky h)
 have ht2 := HI ht
 have hf := ET n t (dP o) (by omega) hn2
 rw [ht] at hf
 unfold fC
 rw [vc n _ hA, eM, h, ab, if_neg (by decide), Ac n h hA, ab, hf, ab, if_neg (by decide)]
 rcases qN (ky h) with rfl | rfl | rfl | rfl | rfl | rfl | rfl | rfl | rfl | rfl | rfl | rfl | rfl | rfl | rfl | rfl | rfl | rfl | rfl | rfl | rfl | rfl | rfl | rfl | rfl
 ·rfl
 ·rfl
 ·refine aK (b := if decide (t.size + t.size ≤ 140737488351232) = true then some (t ++ t) else none) rfl ?_
  rw [if_pos (by simp; omega)]
  rfl
 ·have h2 : t.size = 2 := ht2
  refine aK (b := if (decide ((0 : Int) ≤ 1) && decide ((1 : Int) ≤ (t.size : Int))) = true then (if (decide ((0 : Int) ≤ 1) && decide ((1 : Int) ≤ (t.size : Int))) = true then (if decide ((t.extract 1 t.size).size + (t.extract 0 1).size ≤ 140737488351232) = true then (some ((t.extract 1 t.size) ++ (t.extract 0 1))) else none) else none) else none) rfl ?_
  rw [if_pos (by simp; omega), if_pos (by simp; omega), if_pos (by simp only [b7]; simp; omega)]
  rfl
 ·refine aK (b := if decide (A ≥ 11) = true then some (ByteArray.mk #[98]) else some (ByteArray.mk #[105])) rfl ?_
  by_cases c : A ≥ 11
  ·rw [if_pos (af c)]
   unfold lA
   rw [if_neg (by decide), if_neg (by decide), if_neg (by decide), if_pos rfl, if_pos c]
  ·rw [if_neg (by simpa using c)]
   unfold lA
   rw [if_neg (by decide), if_neg (by decide), if_neg (by decide), if_pos rfl, if_neg c]
 ·rfl
 ·rfl
 ·rfl
 ·rfl
 ·rfl
 ·rfl
 ·rfl
 ·rfl
 ·rfl
 ·rfl
 ·rfl
 ·rfl
 ·rfl
 ·rfl
 ·rfl
 ·rfl
 ·rfl
 ·rfl
 ·rfl
 ·rfl
theorem Nr (x : dc) : (ends x).1 = 22 ∨ (ends x).1 = 24 := by
 unfold ends
 split
 ·exact .inl rfl
 ·exact .inr rfl
theorem isOpen_iff {l : List dc} {k : Nat} : dw l k = true ↔ de l k = 21 ∨ de l k = 23 := by
 unfold dw
 rw [aM, ag, ag]
theorem HJ {l : List dc} {j k : Nat} (h : l.getD j (0, 0, 0) = ends (l.getD k (0, 0, 0))) : dw l j = false := by
 rw [Bool.eq_false_iff]
 intro h2
 rw [isOpen_iff] at h2
 have := Nr (l.getD k (0, 0, 0))
 unfold de at h2
 rw [h] at h2
 omega
structure ScanK (l : List dc) (i : Nat) (m : List Int) (op : List (Int × dc)) : Prop where
 cl : ∀ j, j < i → de l j = 22 ∨ de l j = 24 → ∃ k : Nat, m.getD j 0 = (k : Int) ∧ k < j ∧ dw l k = true ∧ et op k = false ∧ m.getD k 0 = (j : Int) ∧ l.getD j (0, 0, 0) = ends (l.getD k (0, 0, 0))
 op_ : ∀ k, k < i → dw l k = true → et op k = true ∨ ∃ j : Nat, m.getD k 0 = (j : Int) ∧ k < j ∧ j < i ∧ l.getD j (0, 0, 0) = ends (l.getD k (0, 0, 0)) ∧ m.getD j 0 = (k : Int)
theorem inOp_false {op : List (Int × dc)} {k : Nat} : et op k = false ↔ ∀ e ∈ op, e.1 ≠ (k : Int) := by
 unfold et
 rw [List.any_eq_false]
 simp
theorem inOp_true {op : List (Int × dc)} {k : Nat} : et op k = true ↔ ∃ e ∈ op, e.1 = (k : Int) := by
 unfold et
 rw [List.any_eq_true]
 simp
theorem SA {α : Type} {l : List α} {d : α} (h : 0 < l.length) : l = l.take (l.length - 1) ++ [l.getD (l.length - 1) d] := by
 have h1 : l.getD (l.length - 1) d = l[l.length - 1] := by
  rw [ao, au (by omega)]
  rfl
 rw [h1]
 have h2 := List.take_append_getElem (l := l) (i := l.length - 1) (by omega)
 rw [h2, bg (by omega)]
theorem ScanK.step {l : List dc} {i : Nat} {m h m' h' : List Int} {op op' : List (Int × dc)} (hI : ScanI l i m h op) (hJ : ScanJ l i m h op) (hK : ScanK l i m op) (hi : i < l.length) (hs : fX (l.getD i (0, 0, 0)) i m h op = some (m', h', op')) : ScanK l (i + 1) m' op' := by
 have him : i < m.length := by rw [hI.hm]; exact hi
 have m1 : ∀ k, k ≠ i → (m.set i (-1)).getD k 0 = m.getD k 0 := fun k hk => by rw [eu him, if_neg hk]
 unfold fX at hs
 simp only at hs
 by_cases ho : (l.getD i (0, 0, 0)).1 = 21 ∨ (l.getD i (0, 0, 0)).1 = 23
 ·rw [if_pos ho] at hs
  simp only [ae, am] at hs
  obtain ⟨rfl, rfl, rfl⟩ := hs
  refine ⟨fun j hj hc => ?_, fun k hk hk2 => ?_⟩
  ·have : j ≠ i := fun e => by subst e; unfold de at hc; omega
   obtain ⟨k, k1, k2, k3, k4, k5, k6⟩ := hK.cl j (by omega) hc
   refine ⟨k, ?_, k2, k3, ?_, ?_, k6⟩
   ·rw [m1 j this, k1]
   ·rw [oh, k4, inOp_false.2 (fun e he => ?_)]
    ·rfl
    ·rw [aE] at he
     subst he
     simp only
     omega
   ·rw [m1 k (by omega), k5]
  ·by_cases e : k = i
   ·subst e
    exact .inl (inOp_true.2 ⟨_, bY _ (aE.2 rfl), rfl⟩)
   ·rcases hK.op_ k (by omega) hk2 with h1 | ⟨j, j1, j2, j3, j4, j5⟩
    ·exact .inl (by rw [oh, h1, cv])
    ·exact .inr ⟨j, by rw [m1 k e, j1], j2, by omega, j4, by rw [m1 j (by omega), j5]⟩
 ·rw [if_neg ho] at hs
  by_cases hc : (l.getD i (0, 0, 0)).1 = 22 ∨ (l.getD i (0, 0, 0)).1 = 24
  ·rw [if_pos hc] at hs
   by_cases h0 : op.length = 0
   ·rw [if_pos h0] at hs
    cases hs
   ·rw [if_neg h0] at hs
    by_cases he : (op.getD (op.length - 1) (0, 0, 0, 0)).2 = l.getD i (0, 0, 0)
    ·rw [if_pos he] at hs
     simp only [ae, am] at hs
     obtain ⟨rfl, rfl, rfl⟩ := hs
     have hmem : op.getD (op.length - 1) (0, 0, 0, 0) ∈ op := qJ (by omega)
     have htl := SA (l := op) (d := (0, 0, 0, 0)) (by omega)
     obtain ⟨t, t1, t2, t3, t4, t5⟩ := hI.at_ _ hmem
     have hinc := hJ.inc
     generalize op.getD (op.length - 1) (0, 0, 0, 0) = top at *
     rw [t2, ah]
     have htin : et op t = true := inOp_true.2 ⟨_, hmem, t2⟩
     have hto : dw l t = true := isOpen_iff.2 t5
     have htm : t < ((m.set i (-1)).set i ((t : Nat) : Int)).length := by simp; omega
     have mt : ∀ k, k ≠ i → k ≠ t → (((m.set i (-1)).set i ((t : Nat) : Int)).set t (i : Int)).getD k 0 = m.getD k 0 := fun k h1 h2 => by
      rw [eu htm, if_neg h2, eu (by simpa using him), if_neg h1, m1 k h1]
     have mi : (((m.set i (-1)).set i ((t : Nat) : Int)).set t (i : Int)).getD i 0 = (t : Int) := by
      rw [eu htm, if_neg (by omega), eu (by simpa using him), if_pos rfl]
     have mtt : (((m.set i (-1)).set i ((t : Nat) : Int)).set t (i : Int)).getD t 0 = (i : Int) := by
      rw [eu htm, if_pos rfl]
     have hend : l.getD i (0, 0, 0) = ends (l.getD t (0, 0, 0)) := he.symm.trans t4
     have hlast : ∀ e ∈ op.take (op.length - 1), e.1 < top.1 := fun e he2 => by
      rw [htl] at hinc
      exact (List.pairwise_append.1 hinc).2.2 e he2 top (aE.2 rfl)
     have hnot : et (op.take (op.length - 1)) t = false := inOp_false.2 fun e he2 => by
      have := hlast e he2
      omega
     refine ⟨fun j hj hcj => ?_, fun k hk hk2 => ?_⟩
     ·by_cases e : j = i
      ·subst e
       exact ⟨t, mi, t1, hto, hnot, mtt, hend⟩
      ·obtain ⟨k, k1, k2, k3, k4, k5, k6⟩ := hK.cl j (by omega) hcj
       have hkt : k ≠ t := fun e2 => by subst e2; rw [htin] at k4; cases k4
       have hjt : j ≠ t := fun e2 => by
        subst e2
        unfold de at hcj
        omega
       refine ⟨k, by rw [mt j e hjt, k1], k2, k3, ?_, by rw [mt k (by omega) hkt, k5], k6⟩
       exact inOp_false.2 fun e2 he2 => inOp_false.1 k4 e2 (List.mem_of_mem_take he2)
     ·have hki : k ≠ i := fun e => by
       subst e
       rw [isOpen_iff] at hk2
       unfold de at hk2
       omega
      by_cases e : k = t
      ·subst e
       exact .inr ⟨i, mtt, t1, by omega, hend, mi⟩
      ·rcases hK.op_ k (by omega) hk2 with h1 | ⟨j, j1, j2, j3, j4, j5⟩
       ·rw [inOp_true] at h1
        obtain ⟨e1, e2, e3⟩ := h1
        rw [htl] at e2
        rcases aA.1 e2 with h4 | h4
        ·exact .inl (inOp_true.2 ⟨e1, h4, e3⟩)
        ·rw [aE] at h4
         subst h4
         omega
       ·have hjt : j ≠ t := fun e2 => by
         subst e2
         rw [HJ j4] at hto
         cases hto
        exact .inr ⟨j, by rw [mt k hki e, j1], j2, by omega, j4, by rw [mt j (by omega) hjt, j5]⟩
    ·rw [if_neg he] at hs
     cases hs
  ·rw [if_neg hc] at hs
   simp only [ae, am] at hs
   obtain ⟨rfl, rfl, rfl⟩ := hs
   refine ⟨fun j hj hcj => ?_, fun k hk hk2 => ?_⟩
   ·have : j ≠ i := fun e => by subst e; exact hc hcj
    obtain ⟨k, k1, k2, k3, k4, k5, k6⟩ := hK.cl j (by omega) hcj
    exact ⟨k, by rw [m1 j this, k1], k2, k3, k4, by rw [m1 k (by omega), k5], k6⟩
   ·have : k ≠ i := fun e => by subst e; exact ho (isOpen_iff.1 hk2)
    rcases hK.op_ k (by omega) hk2 with h1 | ⟨j, j1, j2, j3, j4, j5⟩
    ·exact .inl h1
    ·exact .inr ⟨j, by rw [m1 k this, j1], j2, by omega, j4, by rw [m1 j (by omega), j5]⟩
theorem HK {l : List dc} : ∀ (r i : Nat) {m h m' h' : List Int} {op op' : List (Int × dc)}, ScanI l i m h op → ScanJ l i m h op → ScanK l i m op → r + i = l.length → iY l r i m h op = some (m', h', op') → ScanK l l.length m' op'
 | 0, i, m, h, m', h', op, op', hI, hJ, hK, hr, hs => by
  simp only [iY, ae, am] at hs
  obtain ⟨rfl, rfl, rfl⟩ := hs
  have : i = l.length := by omega
  subst this
  exact hK
 | r + 1, i, m, h, m', h', op, op', hI, hJ, hK, hr, hs => by
  simp only [iY] at hs
  cases hstep : fX (l.getD i (0, 0, 0)) i m h op with
  | none => rw [hstep] at hs; cases hs
  | some y =>
   obtain ⟨m1, h1, op1⟩ := y
   rw [hstep] at hs
   exact HK r (i + 1) (hI.step (by omega) hstep) (hJ.step hI (by omega) hstep) (hK.step hI hJ (by omega) hstep) (by omega) hs
structure Closed (l : List dc) (m : List Int) : Prop where
 cl : ∀ j, j < l.length → de l j = 22 ∨ de l j = 24 → ∃ k : Nat, m.getD j 0 = (k : Int) ∧ k < j ∧ dw l k = true ∧ m.getD k 0 = (j : Int) ∧ l.getD j (0, 0, 0) = ends (l.getD k (0, 0, 0))
 op_ : ∀ k, k < l.length → dw l k = true → ∃ j : Nat, m.getD k 0 = (j : Int) ∧ k < j ∧ j < l.length ∧ l.getD j (0, 0, 0) = ends (l.getD k (0, 0, 0)) ∧ m.getD j 0 = (k : Int)
theorem nq {l : List dc} (h : (du l).2.2 = 0) : Closed l (du l).1 := by
 unfold du at h ⊢
 split at h
 ·rename_i hr
  rw [if_pos hr]
  split at h
  ·rename_i m' h' op hs
   split at h
   ·cases h
   ·rename_i h0
    simp only [if_neg h0]
    have hK := HK l.length 0 (ScanI.start l) (ScanJ.start l) ⟨fun j hj => by omega, fun k hk => by omega⟩ (by omega) hs
    have : op = [] := bA (by omega)
    subst this
    refine ⟨fun j hj hc => ?_, fun k hk ho => ?_⟩
    ·obtain ⟨k, k1, k2, k3, k4, k5, k6⟩ := hK.cl j hj hc
     exact ⟨k, k1, k2, k3, k5, k6⟩
    ·rcases hK.op_ k hk ho with h1 | h1
     ·simp [et] at h1
     ·exact h1
  ·cases h
 ·cases h
def pq (a b : ByteArray) : Bool := !(a.toList == b.toList)
def fk (x : dc) (s : ByteArray) : ByteArray × Int :=
 if s.size < (dP x.1).size then (ByteArray.mk #[], 9)
 else if np (s.extract (s.size - (dP x.1).size) s.size) (dP x.1) = true then
  (if (s.extract 0 (s.size - (dP x.1).size) ++ lA x.1 x.2.1 (s.extract (s.size - (dP x.1).size) s.size)).size > 16 then (ByteArray.mk #[], 9)
  else (s.extract 0 (s.size - (dP x.1).size) ++ lA x.1 x.2.1 (s.extract (s.size - (dP x.1).size) s.size), 0))
 else (ByteArray.mk #[], 10)
theorem ve (x : dc) (s : ByteArray) : (fk x s).1.size ≤ 16 := by
 unfold fk
 split
 ·exact ai _
 ·split
  ·split
   ·exact ai _
   ·simp only; omega
  ·exact ai _
theorem SB (x : dc) (s : ByteArray) : (fk x s).2 = 0 ∨ (fk x s).2 = 9 ∨ (fk x s).2 = 10 := by
 unfold fk
 split
 ·exact .inr (.inl rfl)
 ·split
  ·split
   ·exact .inr (.inl rfl)
   ·exact .inl rfl
  ·exact .inr (.inr rfl)
theorem EU {o A : Int} {t : ByteArray} (h : t.size ≤ 2) : (lA o A t).size ≤ 4 := by
 unfold lA
 split
 ·decide
 ·split
  ·rw [bS]; omega
  ·split
   ·rw [bS, b7, b7]; omega
   ·split
    ·split <;> decide
    ·split <;> decide
theorem f0 {a b : Nat} (h : b ≤ a) (ha : a < 1000000) : wrap .i64 ((a : Int) - (b : Int)) = ((a - b : Nat) : Int) := by
 rw [dn (by omega) (by omega)]
 omega
theorem VN (n : Nat) (hn : 3 < n) (hn2 : n < 1000000) {o A B : Int} (h : dz (o, A, B) = true) {s : ByteArray} (hs : s.size ≤ 16) : jE n (o, A, B) s = some (fk (o, A, B) s) := by
 have ht := pF (ky h)
 unfold jE fk
 simp only [VL n h, ab]
 by_cases hlt : s.size < (dP o).size
 ·rw [if_pos hlt, if_pos]
  rw [dn (by omega) (by omega)]
  simp; omega
 ·rw [if_neg hlt, f0 (by omega) (by omega), if_neg (by simp), if_pos (by simp), ah, Nq n _ _ (by omega) hn2, ab]
  rcases aP (np (s.extract (s.size - (dP o).size) s.size) (dP o)) with hf | hf
  ·rw [hf, if_neg (by decide), if_pos rfl, if_pos (by simp), VM n hn hn2 h hf, ab]
   have hg := EU (o := o) (A := A) (t := s.extract (s.size - (dP o).size) s.size) (by rw [b7]; omega)
   have hx : (s.extract 0 (s.size - (dP o).size)).size ≤ 16 := by rw [b7]; omega
   rw [if_pos (af (by omega))]
   generalize s.extract 0 (s.size - (dP o).size) ++ lA o A (s.extract (s.size - (dP o).size) s.size) = out
   by_cases hb : out.size > 16
   ·rw [if_pos hb, if_pos (show decide ((out.size : Int) > 16) = true from af (by omega)), if_pos (by simp)]
   ·rw [if_neg hb, if_neg (show ¬ decide ((out.size : Int) > 16) = true by simp only [aw]; omega), if_pos (by simp)]
  ·rw [hf, if_pos (by decide), if_neg (by decide)]
abbrev gm := List ByteArray × List Bool × List Bool
def gJ (q : Nat) (t : ByteArray) (f : gm) : gm := (f.1.set q t, f.2.1.set q true, if (f.2.1.getD q false && pq (f.1.getD q ByteArray.empty) t) = true then f.2.2.set q true else f.2.2)
def eX (l : List dc) (i : Nat) : List Nat := if de l i = 19 then [dp l i] else if de l i = 20 then [i + 1, dp l i] else if de l i = 25 then [] else [i + 1]
def f4 (l : List dc) (m : List Int) (i : Nat) (f : gm) : Int ⊕ gm :=
 if f.2.1.getD i false = false then .inl 8
 else if f.2.2.getD i false = true then .inl 10
 else if de l i = 22 ∧ pq (f.1.getD (m.getD i 0).toNat ByteArray.empty) (f.1.getD i ByteArray.empty) = true then .inl 10
 else if (fk (l.getD i (0, 0, 0)) (f.1.getD i ByteArray.empty)).2 ≠ 0 then .inl (fk (l.getD i (0, 0, 0)) (f.1.getD i ByteArray.empty)).2
 else .inr ((eX l i).foldl (fun g k => gJ k (fk (l.getD i (0, 0, 0)) (f.1.getD i ByteArray.empty)).1 g) f)
structure FlowI (l : List dc) (f : gm) : Prop where
 a : f.1.length = l.length
 b : f.2.1.length = l.length
 c : f.2.2.length = l.length
 s : ∀ k, (f.1.getD k ByteArray.empty).size ≤ 16
theorem Dj {l : List dc} {f : gm} (h : FlowI l f) (q : Nat) {t : ByteArray} (ht : t.size ≤ 16) : FlowI l (gJ q t f) := by
 refine ⟨by simp [gJ, h.a], by simp [gJ, h.b], ?_, fun k => ?_⟩
 ·unfold gJ
  simp only
  split
  ·simp [h.c]
  ·exact h.c
 ·unfold gJ
  simp only
  rcases aj q f.1.length with hlt | hge
  ·rw [eu hlt]
   split
   ·exact ht
   ·exact h.s k
  ·rw [List.set_eq_of_length_le hge]
   exact h.s k
theorem SC (n : Nat) {l : List dc} {f : gm} (h : FlowI l f) {q : Nat} (hto : q < l.length) (t : ByteArray) :
  jP n (q : Int) t f.1 f.2.1 f.2.2 = some ((q : Int), t, f.1, f.2.1, (gJ q t f).2.2) := by
 obtain ⟨st, so, cl⟩ := f
 have ha : st.length = l.length := h.a
 have hb : so.length = l.length := h.b
 have hc : cl.length = l.length := h.c
 unfold jP gJ pq
 simp only [ah]
 rw [if_pos (cZ (by omega))]
 rcases aP (so.getD q false) with h1 | h1
 ·rw [h1, if_pos rfl, if_pos (cZ (by omega)), az]
  rcases aP (!((st.getD q ByteArray.empty).toList == t.toList)) with h2 | h2
  ·rw [h2, if_pos rfl, if_pos (cZ (by omega)), if_pos rfl]
  ·rw [h2, if_neg (by decide), if_neg (by decide)]
 ·rw [h1, if_neg (by decide), aZ, if_neg (by decide)]
theorem oi (n : Nat) {l : List dc} {f : gm} (h : FlowI l f) {q : Nat} (hto : q < l.length) (t : ByteArray) {R : Type} (K : Int → ByteArray → List ByteArray → List Bool → List Bool → Option R) :
  ((jP n (q : Int) t f.1 f.2.1 f.2.2).bind fun y => (if (decide (0 ≤ y.1) && decide (y.1 < (y.2.2.2.1.length : Int))) then (if (decide (0 ≤ y.1) && decide (y.1 < (y.2.2.1.length : Int))) then K y.1 y.2.1 (y.2.2.1.set y.1.toNat y.2.1) (y.2.2.2.1.set y.1.toNat true) y.2.2.2.2 else none) else none)) = K (q : Int) t (gJ q t f).1 (gJ q t f).2.1 (gJ q t f).2.2 := by
 rw [SC n h hto t, ab]
 simp only
 rw [if_pos (cZ (by rw [h.b]; exact hto)), if_pos (cZ (by rw [h.a]; exact hto)), ah]
 rfl
structure Fine (l : List dc) (m h : List Int) : Prop where
 nest : Nest l m h
 closed : Closed l m
 ends : ∀ j, j < l.length → pf l j = true
 jumps : ∀ j, j < l.length → fZ l h j = true
theorem js {l : List dc} (h : eK l = 0) : Fine l (du l).1 (du l).2.1 := by
 have hs := iI h
 unfold eK at h
 rw [if_neg (by simpa using hs)] at h
 split at h
 ·rename_i h1
  split at h
  ·rename_i h2
   exact ⟨kJ hs, nq hs, fun j hj => allF_iff.1 h1 j (ai _) (by omega), fun j hj => allF_iff.1 h2 j (ai _) (by omega)⟩
  ·cases h
 ·cases h
theorem Fine.len {l : List dc} {m h : List Int} (hF : Fine l m h) : 0 < l.length ∧ l.length ≤ 200 := ⟨(iN hF.nest.row).1, (iN hF.nest.row).2.1⟩
theorem Fine.right {l : List dc} {m h : List Int} (hF : Fine l m h) {i : Nat} (hi : i < l.length) : dz (l.getD i (0, 0, 0)) = true := (iN hF.nest.row).2.2 i hi
theorem Fine.succ {l : List dc} {m h : List Int} (hF : Fine l m h) {i : Nat} (hi : i < l.length) (h : de l i ≠ 25) : i + 1 < l.length := by
 have h1 := hF.ends i hi
 unfold pf at h1
 have h2 : ((l.getD i (0, 0, 0)).1 == 25) = false := by rw [aH]; exact h
 rw [h2] at h1
 have h3 : ((i : Int) == ((l.length - 1 : Nat) : Int)) = false := by
  cases h4 : ((i : Int) == ((l.length - 1 : Nat) : Int))
  ·rfl
  ·rw [h4] at h1; cases h1
 rw [aH] at h3
 omega
theorem Fine.last {l : List dc} {m h : List Int} (hF : Fine l m h) : de l (l.length - 1) = 25 := by
 have h1 := hF.ends (l.length - 1) (by have := hF.len; omega)
 unfold pf at h1
 have h3 : (((l.length - 1 : Nat) : Int) == ((l.length - 1 : Nat) : Int)) = true := by simp
 rw [h3] at h1
 cases h4 : ((l.getD (l.length - 1) (0, 0, 0)).1 == 25)
 ·rw [h4] at h1; cases h1
 ·exact eq_of_beq h4
theorem Fine.jump {l : List dc} {m h : List Int} (hF : Fine l m h) {i : Nat} (hi : i < l.length) (hj : de l i = 19 ∨ de l i = 20) : dp l i < l.length ∧ gP l m (dp l i) = gP l m i := by
 have h1 := hF.jumps i hi
 unfold fZ at h1
 rw [if_pos hj] at h1
 rw [aq, aw, ag] at h1
 refine ⟨h1.1, ?_⟩
 rw [← hF.nest.home i hi, ← hF.nest.home _ h1.1]
 exact h1.2
theorem Fine.next {l : List dc} {m h : List Int} (hF : Fine l m h) {i : Nat} (hi : i < l.length) : ∀ k ∈ eX l i, k < l.length := by
 intro k hk
 unfold eX at hk
 split at hk
 ·rename_i h1
  rw [aE] at hk
  subst hk
  exact (hF.jump hi (.inl h1)).1
 ·split at hk
  ·rename_i h1 h2
   rw [aB, aE] at hk
   rcases hk with rfl | rfl
   ·exact hF.succ hi (by omega)
   ·exact (hF.jump hi (.inr h2)).1
  ·split at hk
   ·cases hk
   ·rename_i h3
    rw [aE] at hk
    subst hk
    exact hF.succ hi h3
theorem KR {l : List dc} {t : ByteArray} (ht : t.size ≤ 16) : ∀ (ks : List Nat) {f : gm}, FlowI l f → FlowI l (ks.foldl (fun f k => gJ k t f) f)
 | [], f, h => h
 | k :: ks, f, h => KR ht ks (Dj h k ht)
theorem BU {l : List dc} {m : List Int} {i : Nat} {f f' : gm} (h : FlowI l f) (hs : f4 l m i f = .inr f') : FlowI l f' := by
 unfold f4 at hs
 split at hs
 ·cases hs
 ·split at hs
  ·cases hs
  ·split at hs
   ·cases hs
   ·split at hs
    ·cases hs
    ·cases hs
     exact KR (ve _ _) _ h
theorem LU (n : Nat) (hn : 3 < n) (hn2 : n < 1000000) {l : List dc} {m h : List Int} (hF : Fine l m h) (F : ((List Int) × (List (Int × (Int × Int))) × Int × Int × (List ByteArray) × (List Bool) × (List Bool)) → Option (((((List ByteArray) × Int × Unit) × (((List ByteArray) × (List Bool) × (List Bool) × Unit) × Unit)) ⊕ (Unit × (((List ByteArray) × (List Bool) × (List Bool) × Unit) × Unit))))) {f : gm} (hf : FlowI l f) {i : Nat} (hi : i < l.length) :
  mb n F m l (l.length : Int) (i : Int) f.1 f.2.1 f.2.2 = match f4 l m i f with
   | .inl e => some (.inl (([], e, ()), ((f.1, f.2.1, f.2.2, ()), ())))
   | .inr f' => F (m, l, (l.length : Int), ((i + 1 : Nat) : Int), f'.1, f'.2.1, f'.2.2) := by
 obtain ⟨l1, l2⟩ := hF.len
 have ha := hf.a
 have hb := hf.b
 have hc := hf.c
 have hr := hF.right hi
 have hm : de l i = 22 → ∃ j : Nat, m.getD i 0 = (j : Int) ∧ j < l.length := fun h22 => by
  obtain ⟨k, k1, k2, _⟩ := hF.closed.cl i hi (.inl h22)
  exact ⟨k, k1, by omega⟩
 have hnx := hF.next hi
 have hjx := fun hj => (hF.jump hi hj).1
 have hjw := fun hj => jQ (by omega) hi hr hj
 unfold mb FH f4
 simp only [ah]
 rw [if_pos (af (by omega)), if_pos (cZ hi), if_pos (cZ (by omega)), if_pos (cZ (by omega)), dd (by omega)]
 rcases aP (f.2.1.getD i false) with h1 | h1
 ·rw [h1, if_neg (show ¬ (!true) = true by decide), if_neg (show ¬ true = false by decide), if_pos (cZ (by omega))]
  rcases aP (f.2.2.getD i false) with h2 | h2
  ·rw [h2, if_pos rfl, if_pos rfl]
   rfl
  ·rw [h2, if_neg (show ¬ false = true by decide), if_neg (show ¬ false = true by decide)]
   have key : (fk (l.getD i (0, 0, 0)) (f.1.getD i ByteArray.empty)).1.size ≤ 16 := ve _ _
   have tail : ((jE n ((l.getD i (0, 0, 0)).1, ((l.getD i (0, 0, 0)).2.1, (l.getD i (0, 0, 0)).2.2)) (f.1.getD i ByteArray.empty)).bind fun y19 => (if (y19.2 != 0) then (if (y19.2 != 0) then (some (.inl (([], y19.2, ()), ((f.1, f.2.1, f.2.2, ()), ())))) else (F (m, l, (l.length : Int), ((i + 1 : Nat) : Int), f.1, f.2.1, f.2.2))) else ((AT n (i : Int) y19.1 f.1 f.2.1 f.2.2 (l.getD i (0, 0, 0)).1 (l.getD i (0, 0, 0)).2.1 (l.getD i (0, 0, 0)).2.2).bind fun y20 => (if (y20.2.2.2.2.2.1 == 19) then ((jP n (wrap .i64 ((wrap .i64 (y20.1 + 1)) + y20.2.2.2.2.2.2.1)) y20.2.1 y20.2.2.1 y20.2.2.2.1 y20.2.2.2.2.1).bind fun y21 => (if (decide (0 ≤ y21.1) && decide (y21.1 < (y21.2.2.2.1.length : Int))) then (if (decide (0 ≤ y21.1) && decide (y21.1 < (y21.2.2.1.length : Int))) then (F (m, l, (l.length : Int), ((i + 1 : Nat) : Int), (y21.2.2.1.set y21.1.toNat y21.2.1), (y21.2.2.2.1.set y21.1.toNat true), y21.2.2.2.2)) else none) else none)) else (if (y20.2.2.2.2.2.1 == 20) then ((jP n (wrap .i64 ((wrap .i64 (y20.1 + 1)) + y20.2.2.2.2.2.2.1)) y20.2.1 y20.2.2.1 y20.2.2.2.1 y20.2.2.2.2.1).bind fun y22 => (if (decide (0 ≤ y22.1) && decide (y22.1 < (y22.2.2.2.1.length : Int))) then (if (decide (0 ≤ y22.1) && decide (y22.1 < (y22.2.2.1.length : Int))) then (F (m, l, (l.length : Int), ((i + 1 : Nat) : Int), (y22.2.2.1.set y22.1.toNat y22.2.1), (y22.2.2.2.1.set y22.1.toNat true), y22.2.2.2.2)) else none) else none)) else (F (m, l, (l.length : Int), ((i + 1 : Nat) : Int), y20.2.2.1, y20.2.2.2.1, y20.2.2.2.2.1))))))) = match (if (fk (l.getD i (0, 0, 0)) (f.1.getD i ByteArray.empty)).2 ≠ 0 then Sum.inl (fk (l.getD i (0, 0, 0)) (f.1.getD i ByteArray.empty)).2
     else Sum.inr ((eX l i).foldl (fun g k => gJ k (fk (l.getD i (0, 0, 0)) (f.1.getD i ByteArray.empty)).1 g) f) : Int ⊕ gm) with
    | .inl e => some (.inl (([], e, ()), ((f.1, f.2.1, f.2.2, ()), ())))
    | .inr f' => F (m, l, (l.length : Int), ((i + 1 : Nat) : Int), f'.1, f'.2.1, f'.2.2) := by
    have hA := VN n hn hn2 (o := (l.getD i (0, 0, 0)).1) (A := (l.getD i (0, 0, 0)).2.1) (B := (l.getD i (0, 0, 0)).2.2) hr (hf.s i)
    rw [hA, ab]
    have e0 : ((l.getD i (0, 0, 0)).1, (l.getD i (0, 0, 0)).2.1, (l.getD i (0, 0, 0)).2.2) = l.getD i (0, 0, 0) := rfl
    rw [e0]
    generalize fk (l.getD i (0, 0, 0)) (f.1.getD i ByteArray.empty) = te at key ⊢
    obtain ⟨t, e⟩ := te
    simp only
    by_cases he : e = 0
    ·subst he
     rw [if_neg (by decide), if_neg (by decide)]
     unfold AT
     rw [dd (by omega)]
     by_cases h19 : (l.getD i (0, 0, 0)).1 = 19
     ·have hj := hjw (.inl h19)
      have nx : eX l i = [dp l i] := by unfold eX; rw [if_pos h19]
      rw [nx, h19, if_neg (by decide), ab]
      simp only
      rw [dd (by omega), hj, if_pos (show ((19 : Int) == 19) = true from rfl)]
      exact oi n hf (hjx (.inl h19)) t fun a b c d e => F (m, l, (l.length : Int), ((i + 1 : Nat) : Int), c, d, e)
     ·rw [if_pos (ak.2 h19)]
      have b19 : ¬ ((l.getD i (0, 0, 0)).1 == 19) = true := by simpa only [ag] using h19
      by_cases h25 : (l.getD i (0, 0, 0)).1 = 25
      ·have nx : eX l i = [] := by unfold eX de; rw [h25]; rfl
       rw [nx, h25, if_neg (by decide), ab]
       rfl
      ·have hs1 := hF.succ hi h25
       rw [if_pos (ak.2 h25), oi n hf hs1 t fun a b c d e => some ((i : Int), t, c, d, e, (l.getD i (0, 0, 0)).1, (l.getD i (0, 0, 0)).2.1, (l.getD i (0, 0, 0)).2.2), ab]
       simp only
       rw [dd (by omega), if_neg b19]
       have hf1 := Dj hf (i + 1) key
       by_cases h20 : (l.getD i (0, 0, 0)).1 = 20
       ·have nx : eX l i = [i + 1, dp l i] := by unfold eX; rw [if_neg h19, if_pos h20]
        rw [nx, hjw (.inr h20), h20, if_pos (show ((20 : Int) == 20) = true from rfl)]
        exact oi n hf1 (hjx (.inr h20)) t fun a b c d e => F (m, l, (l.length : Int), ((i + 1 : Nat) : Int), c, d, e)
       ·have nx : eX l i = [i + 1] := by unfold eX; rw [if_neg h19, if_neg h20, if_neg h25]
        rw [nx, if_neg (show ¬ ((l.getD i (0, 0, 0)).1 == 20) = true by simpa only [ag] using h20)]
        rfl
    ·rw [if_pos (ak.2 he), if_pos (ak.2 he), if_pos he]
   by_cases h22 : (l.getD i (0, 0, 0)).1 = 22
   ·obtain ⟨j, j1, j2⟩ := hm h22
    rw [if_pos (show ((l.getD i (0, 0, 0)).1 == 22) = true by simpa only [ag] using h22), if_pos (cZ (by rw [hF.nest.hm]; exact hi))]
    simp only [j1, ah]
    rw [if_pos (cZ (show j < f.1.length by omega))]
    rcases aP (pq (f.1.getD j ByteArray.empty) (f.1.getD i ByteArray.empty)) with h3 | h3
    ·rw [if_pos (show de l i = 22 ∧ pq (f.1.getD j ByteArray.empty) (f.1.getD i ByteArray.empty) = true from ⟨h22, h3⟩)]
     unfold pq at h3
     rw [h3, if_pos rfl]
     rfl
    ·rw [if_neg (show ¬ (de l i = 22 ∧ pq (f.1.getD j ByteArray.empty) (f.1.getD i ByteArray.empty) = true) from fun h => by rw [h3] at h; cases h.2)]
     unfold pq at h3
     rw [h3, if_neg (by decide)]
     exact tail
   ·rw [if_neg (show ¬ ((l.getD i (0, 0, 0)).1 == 22) = true by simpa only [ag] using h22), if_neg (fun h => h22 h.1)]
    exact tail
 ·rw [h1, if_pos (show (!false) = true from rfl), if_pos rfl]
  rfl
def gY (l : List dc) (m : List Int) : Nat → Nat → gm → Int ⊕ gm
 | 0, _, f => .inr f
 | r + 1, i, f => match f4 l m i f with
  | .inl e => .inl e
  | .inr f => gY l m r (i + 1) f
theorem BV (n : Nat) (hn : 3 < n) (hn2 : n < 1000000) {l : List dc} {m h : List Int} (hF : Fine l m h) : ∀ (f i : Nat) {s : gm}, FlowI l s → i ≤ l.length → l.length < f + i → ∃ a b c d e,
  it (fun F => (dy (C_ q_)) (mb n F)) f (m, l, (l.length : Int), (i : Int), s.1, s.2.1, s.2.2) = match gY l m (l.length - i) i s with
   | .inl z => some (.inl (([], z, ()), ((a, b, c, ()), ())))
   | .inr s' => some (.inr ((), ((s'.1, d, e, ()), ())))
 | 0, i, s, hs, hi, hf => by omega
 | f + 1, i, s, hs, hi, hf => by
  have ih := fun {s : gm} => BV n hn hn2 hF f (i + 1) (s := s)
  show ∃ a b c d e, mb n (it _ f) m l (l.length : Int) (i : Int) s.1 s.2.1 s.2.2 = _
  generalize it (fun F => (dy (C_ q_)) (mb n F)) f = F at ih ⊢
  rcases aj i l.length with hlt | hge
  ·rw [LU n hn hn2 hF F hs hlt, show l.length - i = (l.length - (i + 1)) + 1 by omega]
   simp only [gY]
   cases hq : f4 l m i s with
   | inl e => exact ⟨s.1, s.2.1, s.2.2, [], [], rfl⟩
   | inr s' => exact ih (BU hs hq) (by omega) (by omega)
  ·have : i = l.length := by omega
   subst this
   unfold mb
   rw [if_neg (by simp), aU]
   exact ⟨[], [], [], s.2.1, s.2.2, rfl⟩
def kK (l : List dc) : gm := (List.replicate l.length ByteArray.empty, (List.replicate l.length false).set 0 true, List.replicate l.length false)
theorem KS (l : List dc) : FlowI l (kK l) := ⟨by simp [kK], by simp [kK], by simp [kK], fun k => by
 unfold kK
 simp only [ao, bV]
 split <;> exact ai _⟩
def fe (l : List dc) : Int := if eK l ≠ 0 then eK l else match gY l (du l).1 l.length 0 (kK l) with
 | .inl e => e
 | .inr _ => 0
theorem Dl (n : Nat) (l : List dc) (hl : l.length < n) (hn : n < 1000000) : jd n l = some ((du l).1, (du l).2.2) := by
 unfold jd
 rw [A3 n l hl hn]
 rfl
theorem HL (n : Nat) (l : List dc) (hl : l.length < n) (hn3 : 3 < n) (hn : n < 1000000) : ∃ o, xp n l = some (o, fe l) := by
 unfold xp fe
 rw [KJ n l hl hn, ab]
 by_cases hw : eK l = 0
 ·have hF := js hw
  have hI := KS l
  obtain ⟨l1, l2⟩ := hF.len
  obtain ⟨a, b, c, d, e, h⟩ := BV n hn3 hn hF n 0 hI (ai _) (by omega)
  have c1 : (decide (0 ≤ (l.length : Int)) && ((l.length : Int) == (l.length : Int)) && decide ((l.length : Int) * (16 : Int) ≤ 140737488355328) && decide (1 ≤ 16)) = true := by simp; omega
  have c2 : (decide (0 ≤ (l.length : Int)) && ((l.length : Int) == (l.length : Int)) && decide ((l.length : Int) * (1 : Int) ≤ 140737488355328) && decide (1 ≤ 1)) = true := by simp; omega
  rw [if_neg (fun h => (ak.1 h) hw), Dl n l hl hn, ab, if_pos c1, if_pos c2, if_pos c2, if_neg (show ¬ (eK l ≠ 0) from fun h => h hw), ah]
  have hX : FlowI l (List.replicate l.length ByteArray.empty, List.replicate l.length false, List.replicate l.length false) := ⟨by simp, by simp, by simp, hI.s⟩
  have e0 : gJ 0 (ByteArray.mk #[]) (List.replicate l.length ByteArray.empty, List.replicate l.length false, List.replicate l.length false) = kK l := by
   unfold gJ kK
   have e1 : (ByteArray.mk #[]) = ByteArray.empty := rfl
   have e2 : (List.replicate l.length false).getD 0 false = false := by
    simp only [ao, bV]
    split <;> rfl
   simp only [e1, List.set_replicate_self, e2]
   rfl
  have h0 := oi n hX l1 (ByteArray.mk #[]) fun a b c d e => (rt n ((du l).1, l, (l.length : Int), 0, c, d, e)).bind fun y4 => ((Sum.elim (fun (z5 : (((List ByteArray) × Int × Unit) × (((List ByteArray) × (List Bool) × (List Bool) × Unit) × Unit))) => (some (z5.1.1, z5.1.2.1))) (fun (z6 : (Unit × (((List ByteArray) × (List Bool) × (List Bool) × Unit) × Unit))) => (some (z6.2.1.1, (0 : Int))))) y4)
  rw [e0] at h0
  unfold rt at h0 ⊢
  rw [aV] at h
  refine Exists.imp (fun o ho => h0.trans ho) ?_
  rw [show ((0 : Nat) : Int) = 0 from rfl] at h
  rw [h]
  cases hq : gY l (du l).1 l.length 0 (kK l) with
  | inl z => exact ⟨[], rfl⟩
  | inr s' => exact ⟨s'.1, rfl⟩
 ·rw [if_pos (by simp only [ak, ne_eq]; exact hw), if_pos hw]
  exact ⟨_, rfl⟩
theorem set_same {c : List Bool} {q : Nat} {b : Bool} (h : c.getD q false = b) (hq : q < c.length) : c.set q b = c := by
 rw [ao, au hq, bu] at h
 subst h
 exact List.set_getElem_self hq
theorem Ad (n : Nat) {l : List dc} (hl : l.length < 1000000) {m : List Int} {t : ByteArray} (ht : t.size ≤ 16) {ks : List Nat} (hks : ∀ q ∈ ks, q < l.length) (hk9 : ks.length < 1000) (i : Int) : ∀ (fu k : Nat) {f : gm}, FlowI l f → k ≤ ks.length → ks.length < fu + k →
  it (fun F => (dy (dk (C_ q_))) (tB n F)) fu (l, m, f.1, f.2.1, f.2.2, i, t, ks.map (fun (q : Nat) => (q : Int)), (k : Int)) = some (l, m, ((ks.drop k).foldl (fun g q => gJ q t g) f).1, ((ks.drop k).foldl (fun g q => gJ q t g) f).2.1, ((ks.drop k).foldl (fun g q => gJ q t g) f).2.2, i)
 | 0, k, f, hf, hk, hfu => by omega
 | fu + 1, k, f, hf, hk, hfu => by
  have ih := fun {f : gm} => Ad n hl (m := m) ht hks hk9 i fu (k + 1) (f := f)
  show tB n (it _ fu) l m f.1 f.2.1 f.2.2 i t (ks.map (fun (q : Nat) => (q : Int))) (k : Int) = _
  generalize it (fun F => (dy (dk (C_ q_))) (tB n F)) fu = F at ih ⊢
  have ha := hf.a
  have hb := hf.b
  have hc := hf.c
  unfold tB
  rcases aj k ks.length with hlt | hge
  ·have hd : ks.drop k = ks[k] :: ks.drop (k + 1) := bO hlt
   have hg : (ks.map (fun (q : Nat) => (q : Int))).getD k 0 = ((ks[k] : Nat) : Int) := by
    rw [ao, bs, au hlt]
    rfl
   have hq : ks[k] < l.length := hks _ (aL _)
   rw [hd, List.foldl_cons]
   generalize ks[k] = q at hg hq ⊢
   have ih2 := ih (Dj hf q ht) (by omega) (by omega)
   rw [← ih2]
   simp only [aO, ah, hg, dd (show k < 1000000 by omega)]
   rw [if_pos (af (by omega))]
   simp only [if_pos (cZ hlt), if_pos (cZ (show q < f.1.length by omega)), if_pos (cZ (show q < f.2.1.length by omega)), if_pos (cZ (show q < f.2.2.length by omega))]
   unfold gJ pq
   simp only
   rcases aP (f.2.2.getD q false) with h1 | h1
   ·rw [h1, if_pos rfl, set_same h1 (by omega)]
    simp only [ite_self]
   ·rw [h1, if_neg (by decide)]
    rcases aP (f.2.1.getD q false) with h2 | h2
    ·rw [h2, if_pos rfl, az]
     rcases aP (!((f.1.getD q ByteArray.empty).toList == t.toList)) with h3 | h3
     ·rw [h3, if_pos rfl]
     ·rw [h3, if_neg (by decide), set_same h1 (by omega)]
    ·rw [h2, if_neg (by decide), aZ, if_neg (by decide), set_same h1 (by omega)]
  ·have : k = ks.length := by omega
   subst this
   rw [if_neg (by simp), aD]
   rfl
theorem VO (n : Nat) {l : List dc} {m h : List Int} (hF : Fine l m h) {i : Nat} (hi : i < l.length) : fD n l (i : Int) = some ((eX l i).map (fun (q : Nat) => (q : Int))) := by
 obtain ⟨l1, l2⟩ := hF.len
 have hjw := fun hj => jQ (by omega) hi (hF.right hi) hj
 unfold fD eX
 simp only [if_pos (cZ hi), ah, dd (show i < 1000000 by omega)]
 unfold de
 by_cases h19 : (l.getD i (0, 0, 0)).1 = 19
 ·rw [if_pos (show ((l.getD i (0, 0, 0)).1 == 19) = true by simpa only [ag] using h19), if_pos h19, hjw (.inl h19)]
  rfl
 ·rw [if_neg (show ¬ ((l.getD i (0, 0, 0)).1 == 19) = true by simpa only [ag] using h19), if_neg h19]
  by_cases h20 : (l.getD i (0, 0, 0)).1 = 20
  ·rw [if_pos (show ((l.getD i (0, 0, 0)).1 == 20) = true by simpa only [ag] using h20), if_pos h20, hjw (.inr h20)]
   rfl
  ·rw [if_neg (show ¬ ((l.getD i (0, 0, 0)).1 == 20) = true by simpa only [ag] using h20), if_neg h20]
   by_cases h25 : (l.getD i (0, 0, 0)).1 = 25
   ·rw [if_pos (show ((l.getD i (0, 0, 0)).1 == 25) = true by simpa only [ag] using h25), if_pos h25]
    rfl
   ·rw [if_neg (show ¬ ((l.getD i (0, 0, 0)).1 == 25) = true by simpa only [ag] using h25), if_neg h25]
    rfl
theorem HM (l : List dc) (i : Nat) : (eX l i).length ≤ 2 := by
 unfold eX
 split
 ·simp
 ·split
  ·simp
  ·split <;> simp
theorem LV (a b : ByteArray) : (a.toList == b.toList) = (b.toList == a.toList) := by
 rw [cu, ag, ag]
 exact eq_comm
theorem KT (n : Nat) {l : List dc} {m h : List Int} (hF : Fine l m h) {f : gm} (hf : FlowI l f) {i : Nat} (hi : i < l.length) :
  EL n l m f.1 f.2.1 f.2.2 (i : Int) = some (if f.2.2.getD i false = true ∨ (de l i = 22 ∧ pq (f.1.getD (m.getD i 0).toNat ByteArray.empty) (f.1.getD i ByteArray.empty) = true) then .inl (([], 10, ()), ()) else .inr ((l, m, f.1, f.2.1, f.2.2, (i : Int), ()), ())) := by
 have ha := hf.a
 have hb := hf.b
 have hc := hf.c
 have hm : de l i = 22 → ∃ j : Nat, m.getD i 0 = (j : Int) ∧ j < l.length := fun h22 => by
  obtain ⟨k, k1, k2, _⟩ := hF.closed.cl i hi (.inl h22)
  exact ⟨k, k1, by omega⟩
 unfold EL de
 simp only [ah]
 rw [if_pos (cZ (by omega)), if_pos (cZ hi)]
 rcases aP (f.2.2.getD i false) with h2 | h2
 ·rw [if_pos h2, if_pos (.inl h2)]
 ·rw [if_neg (by rw [h2]; decide)]
  by_cases h22 : (l.getD i (0, 0, 0)).1 = 22
  ·obtain ⟨j, j1, j2⟩ := hm h22
   rw [if_pos (show ((l.getD i (0, 0, 0)).1 == 22) = true by simpa only [ag] using h22), if_pos (cZ (by omega)), if_pos (cZ (by rw [hF.nest.hm]; exact hi))]
   simp only [j1, ah]
   rw [if_pos (cZ (show j < f.1.length by omega)), LV]
   rcases aP (pq (f.1.getD j ByteArray.empty) (f.1.getD i ByteArray.empty)) with h3 | h3
   ·rw [if_pos (show f.2.2.getD i false = true ∨ ((l.getD i (0, 0, 0)).1 = 22 ∧ pq (f.1.getD j ByteArray.empty) (f.1.getD i ByteArray.empty) = true) from .inr ⟨h22, h3⟩)]
    unfold pq at h3
    rw [if_pos h3]
   ·rw [if_neg (show ¬ (f.2.2.getD i false = true ∨ ((l.getD i (0, 0, 0)).1 = 22 ∧ pq (f.1.getD j ByteArray.empty) (f.1.getD i ByteArray.empty) = true)) from fun h => by
     rcases h with h | h
     ·rw [h2] at h; cases h
     ·rw [h3] at h; cases h.2)]
    unfold pq at h3
    rw [if_neg (by rw [h3]; decide)]
  ·rw [if_neg (show ¬ ((l.getD i (0, 0, 0)).1 == 22) = true by simpa only [ag] using h22), if_neg (fun h => h.elim (fun h => by rw [h2] at h; cases h) (fun h => h22 h.1))]
theorem SD (n : Nat) (hn : 3 < n) (hn2 : n < 1000000) {o A B : Int} (hr : dz (o, A, B) = true) (hA : -9223372036854775808 ≤ A ∧ A ≤ 9223372036854775807) {s : ByteArray} (hs : s.size ≤ 16) {R : Type} (e9 e10 : Option R) (K : ByteArray → Option R) :
  ((em n (o, A, B)).bind fun y17 => if decide (wrap .i64 ((s.size : Int) - (y17.size : Int)) < 0) = true then e9 else if (decide (0 ≤ wrap .i64 ((s.size : Int) - (y17.size : Int))) && decide (wrap .i64 ((s.size : Int) - (y17.size : Int)) ≤ (s.size : Int))) = true then
   (em n (o, A, B)).bind fun y18 => (tx n (s.extract (wrap .i64 ((s.size : Int) - (y17.size : Int))).toNat s.size) y18).bind fun y19 => if (!y19) = true then e10 else
    if (decide (0 ≤ wrap .i64 ((s.size : Int) - (y17.size : Int))) && decide (wrap .i64 ((s.size : Int) - (y17.size : Int)) ≤ (s.size : Int))) = true then
     (fC n (o, A, B) (s.extract (wrap .i64 ((s.size : Int) - (y17.size : Int))).toNat s.size)).bind fun y20 =>
      if decide ((s.extract 0 (wrap .i64 ((s.size : Int) - (y17.size : Int))).toNat).size + y20.size ≤ 140737488351232) = true then
       (if decide ((((s.extract 0 (wrap .i64 ((s.size : Int) - (y17.size : Int))).toNat ++ y20).size : Nat) : Int) > 16) = true then e9 else K (s.extract 0 (wrap .i64 ((s.size : Int) - (y17.size : Int))).toNat ++ y20)) else none
    else none
   else none) = if (fk (o, A, B) s).2 = 9 then e9 else if (fk (o, A, B) s).2 = 10 then e10 else K (fk (o, A, B) s).1 := by
 have ht := pF (ky hr)
 unfold fk
 simp only [Ac n hr hA, ab]
 by_cases hlt : s.size < (dP o).size
 ·rw [if_pos hlt, if_pos, if_pos rfl]
  rw [dn (by omega) (by omega)]
  simp; omega
 ·rw [if_neg hlt, f0 (by omega) (by omega), if_neg (by simp), if_pos (by simp), ah, ET n _ _ (by omega) hn2, ab]
  rcases aP (np (s.extract (s.size - (dP o).size) s.size) (dP o)) with hf | hf
  ·rw [hf, if_neg (by decide), if_pos rfl, if_pos (by simp), KQ n hn hn2 hr hA hf, ab]
   have hg := EU (o := o) (A := A) (t := s.extract (s.size - (dP o).size) s.size) (by rw [b7]; omega)
   have hx : (s.extract 0 (s.size - (dP o).size)).size ≤ 16 := by rw [b7]; omega
   rw [if_pos (af (by omega))]
   generalize s.extract 0 (s.size - (dP o).size) ++ lA o A (s.extract (s.size - (dP o).size) s.size) = out
   by_cases hb : out.size > 16
   ·rw [if_pos hb, if_pos (show decide ((out.size : Int) > 16) = true from af (by omega)), if_pos rfl]
   ·rw [if_neg hb, if_neg (show ¬ decide ((out.size : Int) > 16) = true by simp only [aw]; omega)]
    rfl
  ·rw [hf, if_pos (by decide)]
   rfl
theorem F3 (n : Nat) (hn : 3 < n) (hn2 : n < 1000000) {l : List dc} (hi0 : InR l) {m h : List Int} (hF : Fine l m h) (F : ((List (Int × (Int × Int))) × (List Int) × (List ByteArray) × (List Bool) × (List Bool) × Int) → Option (((((List ByteArray) × Int × Unit) × Unit) ⊕ (((List ByteArray) × Unit) × Unit)))) {f : gm} (hf : FlowI l f) {i : Nat} (hi : i < l.length) :
  oP n F l m f.1 f.2.1 f.2.2 (i : Int) = match f4 l m i f with
   | .inl e => some (.inl (([], e, ()), ()))
   | .inr f' => F (l, m, f'.1, f'.2.1, f'.2.2, ((i + 1 : Nat) : Int)) := by
 obtain ⟨l1, l2⟩ := hF.len
 have ha := hf.a
 have hb := hf.b
 have hc := hf.c
 have hr := hF.right hi
 have hrA : -9223372036854775808 ≤ (l.getD i (0, 0, 0)).2.1 ∧ (l.getD i (0, 0, 0)).2.1 ≤ 9223372036854775807 := by
  rw [pX hi]
  exact hi0 _ (aL _)
 unfold oP
 simp only [ah]
 rw [if_pos (af (by omega)), if_pos (cZ (by omega)), KT n hF hf hi, ab]
 unfold f4
 rcases aP (f.2.1.getD i false) with h1 | h1
 ·rw [if_neg (show ¬ (!f.2.1.getD i false) = true by rw [h1]; decide), if_neg (show ¬ f.2.1.getD i false = false by rw [h1]; decide)]
  by_cases h2 : f.2.2.getD i false = true
  ·rw [if_pos (.inl h2), if_pos h2]
   rfl
  ·rw [if_neg h2]
   by_cases h3 : de l i = 22 ∧ pq (f.1.getD (m.getD i 0).toNat ByteArray.empty) (f.1.getD i ByteArray.empty) = true
   ·rw [if_pos (.inr h3), if_pos h3]
    rfl
   ·rw [if_neg (fun h => h.elim h2 h3), if_neg h3]
    simp only [bb]
    have hs := hf.s i
    have key : (fk (l.getD i (0, 0, 0)) (f.1.getD i ByteArray.empty)).1.size ≤ 16 := ve _ _
    have kerr := SB (l.getD i (0, 0, 0)) (f.1.getD i ByteArray.empty)
    have hx : ∃ o A B, l.getD i (0, 0, 0) = (o, A, B) := ⟨_, _, _, rfl⟩
    obtain ⟨o, A, B, hx⟩ := hx
    rw [hx] at hr hrA key kerr
    simp only [hx, ah, if_pos (cZ (show i < f.1.length by omega)), if_pos (cZ hi)]
    refine (SD n hn hn2 hr hrA hs (some (.inl (([], 9, ()), ()))) (some (.inl (([], 10, ()), ()))) (fun z => (fD n l (i : Int)).bind fun y21 => ((uZ n (l, m, f.1, f.2.1, f.2.2, (i : Int), z, y21, 0)).bind fun y22 => (F (y22.1, y22.2.1, y22.2.2.1, y22.2.2.2.1, y22.2.2.2.2.1, (wrap .i64 (y22.2.2.2.2.2 + 1))))))).trans ?_
    generalize fk (o, A, B) (f.1.getD i ByteArray.empty) = te at key kerr ⊢
    obtain ⟨t, e⟩ := te
    simp only at key kerr ⊢
    rcases kerr with rfl | rfl | rfl
    ·rw [if_neg (by decide), if_neg (by decide), if_neg (by decide), VO n hF hi, ab]
     have hb1 := Ad n (l := l) (by omega) (m := m) key (ks := eX l i) (hF.next hi) (by have := HM l i; omega) (i : Int) n 0 hf (ai _) (by have := HM l i; omega)
     rw [show ((0 : Nat) : Int) = 0 from rfl] at hb1
     unfold uZ
     rw [hb1, ab]
     simp only [aT]
     rw [dd (by omega)]
    ·rfl
    ·rfl
 ·rw [if_pos (show (!f.2.1.getD i false) = true by rw [h1]; rfl), if_pos h1]
theorem tZ (n : Nat) (hn : 3 < n) (hn2 : n < 1000000) {l : List dc} (hi0 : InR l) {m h : List Int} (hF : Fine l m h) : ∀ (f i : Nat) {s : gm}, FlowI l s → i ≤ l.length → l.length < f + i →
  it (fun F => (dy q_) (oP n F)) f (l, m, s.1, s.2.1, s.2.2, (i : Int)) = match gY l m (l.length - i) i s with
   | .inl z => some (.inl (([], z, ()), ()))
   | .inr s' => some (.inr ((s'.1, ()), ()))
 | 0, i, s, hs, hi, hf => by omega
 | f + 1, i, s, hs, hi, hf => by
  have ih := fun {s : gm} => tZ n hn hn2 hi0 hF f (i + 1) (s := s)
  show oP n (it _ f) l m s.1 s.2.1 s.2.2 (i : Int) = _
  generalize it (fun F => (dy q_) (oP n F)) f = F at ih ⊢
  rcases aj i l.length with hlt | hge
  ·rw [F3 n hn hn2 hi0 hF F hs hlt, show l.length - i = (l.length - (i + 1)) + 1 by omega]
   simp only [gY]
   cases hq : f4 l m i s with
   | inl e => rfl
   | inr s' => exact ih (BU hs hq) (by omega) (by omega)
  ·have : i = l.length := by omega
   subst this
   unfold oP
   rw [if_neg (by simp), aU]
   rfl
theorem IB (n : Nat) (l : List dc) (hi : InR l) (hl : l.length < n) (hn3 : 3 < n) (hn : n < 1000000) : ∃ o, IZ n l = some (o, fe l) := by
 unfold IZ fe
 rw [zZ n l hi hl hn, ab]
 by_cases hw : eK l = 0
 ·have hF := js hw
  have hI := KS l
  obtain ⟨l1, l2⟩ := hF.len
  have h := tZ n hn3 hn hi hF n 0 hI (ai _) (by omega)
  have c1 : (decide (0 ≤ (l.length : Int)) && ((l.length : Int) == (l.length : Int)) && decide ((l.length : Int) * (16 : Int) ≤ 140737488355328) && decide (1 ≤ 16)) = true := by simp; omega
  have c2 : (decide (0 ≤ (l.length : Int)) && ((l.length : Int) == (l.length : Int)) && decide ((l.length : Int) * (1 : Int) ≤ 140737488355328) && decide (1 ≤ 1)) = true := by simp; omega
  rw [if_neg (fun h => (ak.1 h) hw), kw n l hi hl hn, ab, if_pos c1, if_pos c2, if_pos c2, if_neg (show ¬ (eK l ≠ 0) from fun h => h hw), ah, if_pos (by simp; omega)]
  unfold CZ
  rw [aV, show ((0 : Nat) : Int) = 0 from rfl] at h
  refine Exists.imp (fun o ho => (congrArg (fun x => Option.bind x _) h).trans ho) ?_
  cases hq : gY l (du l).1 l.length 0 (kK l) with
  | inl z => exact ⟨[], rfl⟩
  | inr s' => exact ⟨s'.1, rfl⟩
 ·rw [if_pos (by simp only [ak, ne_eq]; exact hw), if_pos hw]
  exact ⟨_, rfl⟩
theorem t0 {A B : Int} (h : dz (21, A, B) = true) : 1 ≤ A ∧ A ≤ 1000 := by
 have h1 := (eM 0 (21, A, B)).symm.trans (ON 0 A B)
 rw [h] at h1
 by_cases h2 : 1 ≤ A
 ·by_cases h3 : A ≤ 1000
  ·exact ⟨h2, h3⟩
  ·rw [if_pos (af h2), if_neg (by simpa using h3)] at h1
   cases h1
 ·rw [if_neg (by simpa using h2)] at h1
  cases h1
def dt (a b : Int) : Int := if 1048577 < a + b then 1048577 else a + b
def gR (w A : Int) : Int := if dt w 1 = 1048577 then 1048577 else dt 1 (A * dt w 1)
def mN (m : List Int) (i : Nat) : Nat := (m.getD i 0).toNat
def eB (W : Nat → Nat → Int) (l : List dc) (m : List Int) (i : Nat) : Int := if de l i = 21 then gR (W (i + 1) (mN m i)) (dB l i) else 1
def eS (l : List dc) (m : List Int) (i : Nat) : List Nat := if de l i = 21 then [mN m i + 1] else if de l i = 19 then [dp l i] else if de l i = 20 then [dp l i, i + 1] else [i + 1]
def ef (b : Int → Int → Int) (D : Nat → Int) (k : Nat) (v : Int) : Nat → Int := fun j => if j = k then (if D k = -1 then v else b (D k) v) else D j
def er (b : Int → Int → Int) (W : Nat → Nat → Int) (l : List dc) (m : List Int) (i : Nat) (D : Nat → Int) : Nat → Int :=
 if D i = -1 then D else (eS l m i).foldl (fun g k => ef b g k (dt (D i) (eB W l m i))) D
def eI (b : Int → Int → Int) (W : Nat → Nat → Int) (l : List dc) (m : List Int) : Nat → Nat → (Nat → Int) → Nat → Int
 | 0, _, D => D
 | r + 1, i, D => eI b W l m r (i + 1) (er b W l m i D)
def eY (a : Nat) : Nat → Int := fun j => if j = a then 0 else -1
def d7 (b : Int → Int → Int) (l : List dc) (m : List Int) : Nat → Nat → Nat → Int
 | 0, _, _ => 0
 | f + 1, a, z => eI b (d7 b l m f) l m (z - a) a (eY a) z
structure Reg (l : List dc) (m : List Int) (a z : Nat) : Prop where
 le : a ≤ z
 lt : z < l.length
 loop : ∀ i, a ≤ i → i < z → dw l i = true → ∃ j : Nat, m.getD i 0 = (j : Int) ∧ i < j ∧ j < z
 jump : ∀ i, a ≤ i → i < z → de l i = 19 ∨ de l i = 20 → dp l i ≤ z
theorem Fine.reg {l : List dc} {m h : List Int} (hF : Fine l m h) {p : Nat} (hp : p < l.length) (ho : dw l p = true) : Reg l m (p + 1) (mN m p) := by
 obtain ⟨j, j1, j2, j3⟩ := hF.nest.open_ p hp ho
 have hj : mN m p = j := by unfold mN; rw [j1]; rfl
 rw [hj]
 refine ⟨by omega, j3, fun i h1 h2 h3 => ?_, fun i h1 h2 h3 => ?_⟩
 ·obtain ⟨q, q1, q2, q3⟩ := hF.nest.open_ i (by omega) h3
  obtain ⟨q', e1, e2⟩ := hF.nest.cross p i j (by omega) h2 hp ho h3 j1
  exact ⟨q, q1, q2, by omega⟩
 ·obtain ⟨k1, k2⟩ := hF.jump (show i < l.length by omega) h3
  rcases aj j (dp l i) with hlt | hge
  ·exfalso
   have e1 : enc l m p i = true := by
    unfold enc
    rw [ho, j1]
    simp; omega
   have e2 : enc l m p (dp l i) = false := by
    unfold enc
    rw [ho, j1]
    simp; omega
   rcases pE l m i with hh | ⟨q, hh⟩
   ·rw [qK hh p] at e1; cases e1
   ·obtain ⟨_, _, x3⟩ := kx hF.nest (show i < l.length by omega) hh
    obtain ⟨_, _, y3⟩ := kx hF.nest k1 (k2.trans hh)
    rw [y3 p, ← x3 p, e1] at e2
    cases e2
  ·exact hge
theorem Fine.all {l : List dc} {m h : List Int} (hF : Fine l m h) : Reg l m 0 (l.length - 1) := by
 obtain ⟨l1, l2⟩ := hF.len
 refine ⟨ai _, by omega, fun i h1 h2 h3 => ?_, fun i h1 h2 h3 => ?_⟩
 ·obtain ⟨j, j1, j2, j3, j4, j5⟩ := hF.closed.op_ i (by omega) h3
  refine ⟨j, j1, j2, ?_⟩
  have : j ≠ l.length - 1 := fun e => by
   subst e
   have h5 := hF.last
   have h6 := Nr (l.getD i (0, 0, 0))
   unfold de at h5
   rw [j4] at h5
   omega
  omega
 ·have := (hF.jump (show i < l.length by omega) h3).1
  omega
def StepsI (v : Int) : Prop := v = -1 ∨ (0 ≤ v ∧ v ≤ 1048577)
theorem fF {a b : Int} (h1 : 0 ≤ a) (h2 : 0 ≤ b) : 0 ≤ dt a b ∧ dt a b ≤ 1048577 := by
 unfold dt
 split <;> omega
theorem Dm {w A : Int} (hw : StepsI w) (hA : 1 ≤ A ∧ A ≤ 1000) : 0 ≤ gR w A ∧ gR w A ≤ 1048577 := by
 have h1 : 0 ≤ dt w 1 ∧ dt w 1 ≤ 1048577 := by
  rcases hw with rfl | h
  ·decide
  ·exact fF h.1 (by decide)
 unfold gR
 split
 ·omega
 ·exact fF (by decide) (cw (by omega) h1.1)
def Ae (b : Int → Int → Int) : Prop := ∀ x y, b x y = x ∨ b x y = y
theorem pZ {b : Int → Int → Int} (hb : Ae b) {D : Nat → Int} (hD : ∀ k, StepsI (D k)) (k : Nat) {v : Int} (hv : 0 ≤ v ∧ v ≤ 1048577) : ∀ j, StepsI (ef b D k v j) := by
 intro j
 unfold ef
 split
 ·split
  ·exact .inr hv
  ·rcases hb (D k) v with h | h
   ·rw [h]; exact hD k
   ·rw [h]; exact .inr hv
 ·exact hD j
theorem Ns {b : Int → Int → Int} (hb : Ae b) {v : Int} (hv : 0 ≤ v ∧ v ≤ 1048577) : ∀ (ks : List Nat) {D : Nat → Int}, (∀ k, StepsI (D k)) → ∀ k, StepsI (ks.foldl (fun g k => ef b g k v) D k)
 | [], D, hD => hD
 | k :: ks, D, hD => Ns hb hv ks (pZ hb hD k hv)
theorem iQ {W : Nat → Nat → Int} {l : List dc} {m : List Int} {i : Nat} (hr : dz (l.getD i (0, 0, 0)) = true) (hW : de l i = 21 → StepsI (W (i + 1) (mN m i))) : 0 ≤ eB W l m i ∧ eB W l m i ≤ 1048577 := by
 unfold eB
 split
 ·rename_i h
  refine Dm (hW h) ?_
  unfold dB
  unfold de at h
  generalize l.getD i (0, 0, 0) = x at *
  obtain ⟨o, A, B⟩ := x
  simp only at h
  subst h
  exact t0 hr
 ·omega
theorem gn {b : Int → Int → Int} (hb : Ae b) {W : Nat → Nat → Int} {l : List dc} {m : List Int} {i : Nat} {D : Nat → Int} (hD : ∀ k, StepsI (D k)) (hr : dz (l.getD i (0, 0, 0)) = true) (hW : de l i = 21 → StepsI (W (i + 1) (mN m i))) : ∀ k, StepsI (er b W l m i D k) := by
 unfold er
 split
 ·exact hD
 ·rename_i h
  have hi : 0 ≤ D i := by
   rcases hD i with h1 | h1
   ·exact absurd h1 h
   ·exact h1.1
  exact Ns hb (fF hi (iQ hr hW).1) _ hD
theorem A4 {b : Int → Int → Int} (hb : Ae b) {W : Nat → Nat → Int} {l : List dc} {m : List Int} (hr : ∀ i, i < l.length → dz (l.getD i (0, 0, 0)) = true) : ∀ (r i : Nat) {D : Nat → Int}, (∀ k, StepsI (D k)) → r + i ≤ l.length → (∀ k, i ≤ k → k < r + i → de l k = 21 → StepsI (W (k + 1) (mN m k))) → ∀ k, StepsI (eI b W l m r i D k)
 | 0, i, D, hD, hi, hW => hD
 | r + 1, i, D, hD, hi, hW => A4 hb hr r (i + 1) (gn hb hD (hr i (by omega)) (hW i (ar _) (by omega))) (by omega) fun k h1 h2 => hW k (by omega) (by omega)
theorem gV (a : Nat) : ∀ k, StepsI (eY a k) := fun k => by
 unfold eY
 split
 ·exact .inr (by decide)
 ·exact .inl rfl
theorem kL {b : Int → Int → Int} (hb : Ae b) {l : List dc} {m h : List Int} (hF : Fine l m h) : ∀ (f : Nat) {a z : Nat}, Reg l m a z → StepsI (d7 b l m f a z)
 | 0, a, z, hR => .inr (by show 0 ≤ (0 : Int) ∧ (0 : Int) ≤ 1048577; decide)
 | f + 1, a, z, hR => by
  have h1 := hR.le
  have h2 := hR.lt
  exact A4 hb (fun i hi => hF.right hi) (z - a) a (gV a) (by omega) (fun k k1 k2 k3 => kL hb hF f (hF.reg (by omega) (isOpen_iff.2 (.inl k3)))) z
def bM (x y : Int) : Int := if y > x then y else x
def bL (x y : Int) : Int := if y < x then y else x
theorem eQ : Ae bM := fun x y => by
 unfold bM
 split
 ·exact .inr rfl
 ·exact .inl rfl
theorem t7 : Ae bL := fun x y => by
 unfold bL
 split
 ·exact .inr rfl
 ·exact .inl rfl
theorem jt (n : Nat) {a b : Int} (h1 : -1 ≤ a) (h2 : a ≤ 1048577) (h3 : -1 ≤ b) (h4 : b ≤ 1048577) : ej n a b = some (dt a b) := by
 unfold ej dt
 rw [dn (by omega) (by omega)]
structure LD (d : List Int) (D : Nat → Int) (a z : Nat) : Prop where
 len : d.length = z - a + 1
 at_ : ∀ k, a ≤ k → k ≤ z → d.getD (k - a) 0 = D k
theorem LD.put {d : List Int} {D : Nat → Int} {a z : Nat} (h : LD d D a z) (b : Int → Int → Int) {k : Nat} (hk : a ≤ k) (hk2 : k ≤ z) (v : Int) : LD (d.set (k - a) (if d.getD (k - a) 0 = -1 then v else b (d.getD (k - a) 0) v)) (ef b D k v) a z := by
 have hl := h.len
 refine ⟨by rw [aS, hl], fun j h1 h2 => ?_⟩
 rw [eu (by omega), h.at_ k hk hk2]
 unfold ef
 by_cases e : j = k
 ·subst e
  rw [if_pos rfl, if_pos rfl]
 ·rw [if_neg (by omega), if_neg e, h.at_ j h1 h2]
theorem KU (n : Nat) (x y : Int) : fM n x y = some (bM x y) := rfl
theorem oS (n : Nat) {d : List Int} {k : Nat} (hk : k < d.length) (v : Int) {R : Type} (K : List Int → Option R) :
  (if (decide (0 ≤ (k : Int)) && decide ((k : Int) < (d.length : Int))) = true then (if (d.getD k 0 != (-1)) = true then ((fM n (d.getD k 0) v).bind fun y => if (decide (0 ≤ (k : Int)) && decide ((k : Int) < (d.length : Int))) = true then K (d.set k y) else none) else (if (decide (0 ≤ (k : Int)) && decide ((k : Int) < (d.length : Int))) = true then K (d.set k v) else none)) else none) = K (d.set k (if d.getD k 0 = -1 then v else bM (d.getD k 0) v)) := by
 simp only [if_pos (cZ hk), KU, ab]
 by_cases h : d.getD k 0 = -1
 ·rw [if_neg (fun h2 => (ak.1 h2) h), if_pos h]
 ·rw [if_pos (ak.2 h), if_neg h]
theorem pG (n : Nat) (W : ((((List (Int × (Int × Int))) × (List Int)) × Int × Int × Unit) × Unit) → Option Int) {l : List dc} {m : List Int} (hl : l.length < 1000000) (hm : m.length = l.length) {i : Nat} (hi : i < l.length) {w : Int} (hj : m.getD i 0 = ((mN m i : Nat) : Int)) (hW : W (((l, m), ((i + 1 : Nat) : Int), ((mN m i : Nat) : Int), ()), ()) = some w) (hw : StepsI w) (hA : 1 ≤ dB l i ∧ dB l i ≤ 1000) : fR n W (l, m) (i : Int) = some (gR w (dB l i)) := by
 unfold fR gR
 simp only [ah, dd (show i < 1000000 by omega), if_pos (cZ hi), if_pos (cZ (show i < m.length by omega)), hj, hW, ab]
 have hw2 : -1 ≤ w ∧ w ≤ 1048577 := by rcases hw with rfl | h <;> omega
 rw [jt n hw2.1 hw2.2 (by decide) (by decide), ab]
 have h1 : 0 ≤ dt w 1 ∧ dt w 1 ≤ 1048577 := by
  rcases hw with rfl | h
  ·decide
  ·exact fF h.1 (by decide)
 generalize dt w 1 = x at h1 ⊢
 by_cases hx : x = 1048577
 ·rw [if_pos (by simpa only [ag] using hx), if_pos hx]
 ·rw [if_neg (by simpa only [ag] using hx), if_neg hx]
  unfold dB at hA ⊢
  generalize (l.getD i (0, 0, 0)).2.1 = A at hA ⊢
  have hb : 0 ≤ A * x ∧ A * x ≤ 1000 * 1048577 := ⟨cw (by omega) h1.1, Int.mul_le_mul hA.2 h1.2 h1.1 (by decide)⟩
  rw [dn (e := A * x) (by omega) (by omega), dn (by omega) (by omega)]
  rfl
theorem WT (n : Nat) (W : ((((List (Int × (Int × Int))) × (List Int)) × Int × Int × Unit) × Unit) → Option Int) {l : List dc} {m h : List Int} (hF : Fine l m h) {Wp : Nat → Nat → Int} {a z : Nat} (hR : Reg l m a z) {i : Nat} (hi : a ≤ i) (hi2 : i < z) (hW : de l i = 21 → W (((l, m), ((i + 1 : Nat) : Int), ((mN m i : Nat) : Int), ()), ()) = some (Wp (i + 1) (mN m i)) ∧ StepsI (Wp (i + 1) (mN m i))) {d : List Int} {D : Nat → Int} (hL : LD d D a z) (hD : ∀ k, StepsI (D k)) (zz : Int) :
  ∃ d', LD d' (er bM Wp l m i D) a z ∧ Ee n W zz (i : Int) l m (a : Int) d = some (zz, (i : Int), l, m, (a : Int), d') := by
 obtain ⟨l1, l2⟩ := hF.len
 have hlt := hR.lt
 have hdl := hL.len
 have hat := hL.at_ i hi (by omega)
 have hr := hF.right (show i < l.length by omega)
 have hm := hF.nest.hm
 unfold Ee
 simp only [f0 hi (show i < 1000000 by omega), ah, dd (show i < 1000000 by omega), if_pos (cZ (show i < l.length by omega)), if_pos (cZ (show i < m.length by omega)), if_pos (cZ (show i - a < d.length by omega)), f0 (show a ≤ i + 1 by omega) (show i + 1 < 1000000 by omega), hat]
 by_cases hn : D i = -1
 ·refine ⟨d, ?_, ?_⟩
  ·unfold er
   rw [if_pos hn]
   exact hL
  ·rw [if_pos (by simpa only [ag] using hn)]
 ·rw [if_neg (by simpa only [ag] using hn)]
  have hDi : 0 ≤ D i ∧ D i ≤ 1048577 := by
   rcases hD i with h1 | h1
   ·exact absurd h1 hn
   ·exact h1
  by_cases h21 : (l.getD i (0, 0, 0)).1 = 21
  ·rw [if_pos (show ((l.getD i (0, 0, 0)).1 == 21) = true by simpa only [ag] using h21)]
   obtain ⟨j, j1, j2, j3⟩ := hR.loop i hi hi2 (isOpen_iff.2 (.inl h21))
   have hj : mN m i = j := by unfold mN; rw [j1]; rfl
   have hA : 1 ≤ dB l i ∧ dB l i ≤ 1000 := by
    unfold dB
    generalize l.getD i (0, 0, 0) = x at *
    obtain ⟨o, A, B⟩ := x
    simp only at h21
    subst h21
    exact t0 hr
   obtain ⟨w1, w2⟩ := hW h21
   have hc : eB Wp l m i = gR (Wp (i + 1) (mN m i)) (dB l i) := by unfold eB; rw [if_pos h21]
   have hlo := Dm w2 hA
   rw [pG n W (by omega) hm (by omega) (by rw [hj]; exact j1) w1 w2 hA, ab, ← hc]
   rw [← hc] at hlo
   rw [jt n (by omega) hDi.2 (by omega) hlo.2, ab]
   simp only [j1, dd (show j < 1000000 by omega), f0 (show a ≤ j + 1 by omega) (show j + 1 < 1000000 by omega), ah]
   refine ⟨_, ?_, oS n (show j + 1 - a < d.length by omega) (dt (D i) (eB Wp l m i)) fun d' => some (zz, (i : Int), l, m, (a : Int), d')⟩
   have := hL.put bM (show a ≤ j + 1 by omega) (show j + 1 ≤ z by omega) (dt (D i) (eB Wp l m i))
   unfold er eS
   rw [if_neg hn, if_pos h21, hj]
   exact this
  ·rw [if_neg (show ¬ ((l.getD i (0, 0, 0)).1 == 21) = true by simpa only [ag] using h21)]
   have hc : eB Wp l m i = 1 := by unfold eB; rw [if_neg h21]
   rw [jt n (by omega) hDi.2 (by decide) (by decide)]
   simp only [ab]
   by_cases h19 : (l.getD i (0, 0, 0)).1 = 19
   ·rw [if_pos (show ((l.getD i (0, 0, 0)).1 == 19) = true by simpa only [ag] using h19)]
    have hjt := hR.jump i hi hi2 (.inl h19)
    have hji : i < dp l i := by unfold dp; omega
    simp only [jQ (show l.length < 1000000 by omega) (show i < l.length by omega) hr (.inl h19), f0 (show a ≤ dp l i by omega) (show dp l i < 1000000 by omega), ah]
    refine ⟨_, ?_, oS n (show dp l i - a < d.length by omega) (dt (D i) 1) fun d' => some (zz, (i : Int), l, m, (a : Int), d')⟩
    have := hL.put bM (show a ≤ dp l i by omega) hjt (dt (D i) 1)
    unfold er eS
    rw [if_neg hn, if_neg h21, if_pos h19, hc]
    exact this
   ·rw [if_neg (show ¬ ((l.getD i (0, 0, 0)).1 == 19) = true by simpa only [ag] using h19)]
    by_cases h20 : (l.getD i (0, 0, 0)).1 = 20
    ·rw [if_pos (show ((l.getD i (0, 0, 0)).1 == 20) = true by simpa only [ag] using h20)]
     have hjt := hR.jump i hi hi2 (.inr h20)
     have hji : i < dp l i := by unfold dp; omega
     simp only [jQ (show l.length < 1000000 by omega) (show i < l.length by omega) hr (.inr h20), f0 (show a ≤ dp l i by omega) (show dp l i < 1000000 by omega), ah]
     have h1 := hL.put bM (show a ≤ dp l i by omega) hjt (dt (D i) 1)
     have h2 := h1.put bM (show a ≤ i + 1 by omega) (show i + 1 ≤ z by omega) (dt (D i) 1)
     refine ⟨_, ?_, (oS n (show dp l i - a < d.length by omega) (dt (D i) 1) fun d1 => (if (decide (0 ≤ ((i + 1 - a : Nat) : Int)) && decide (((i + 1 - a : Nat) : Int) < (d1.length : Int))) = true then (if (d1.getD (i + 1 - a) 0 != (-1)) = true then ((fM n (d1.getD (i + 1 - a) 0) (dt (D i) 1)).bind fun y => if (decide (0 ≤ ((i + 1 - a : Nat) : Int)) && decide (((i + 1 - a : Nat) : Int) < (d1.length : Int))) = true then some (zz, (i : Int), l, m, (a : Int), d1.set (i + 1 - a) y) else none) else (if (decide (0 ≤ ((i + 1 - a : Nat) : Int)) && decide (((i + 1 - a : Nat) : Int) < (d1.length : Int))) = true then some (zz, (i : Int), l, m, (a : Int), d1.set (i + 1 - a) (dt (D i) 1)) else none)) else none)).trans (oS n (by rw [aS]; omega) (dt (D i) 1) fun d' => some (zz, (i : Int), l, m, (a : Int), d'))⟩
     unfold er eS
     rw [if_neg hn, if_neg h21, if_neg h19, if_pos h20, hc]
     exact h2
    ·rw [if_neg (show ¬ ((l.getD i (0, 0, 0)).1 == 20) = true by simpa only [ag] using h20)]
     refine ⟨_, ?_, oS n (show i + 1 - a < d.length by omega) (dt (D i) 1) fun d' => some (zz, (i : Int), l, m, (a : Int), d')⟩
     have := hL.put bM (show a ≤ i + 1 by omega) (show i + 1 ≤ z by omega) (dt (D i) 1)
     unfold er eS
     rw [if_neg hn, if_neg h21, if_neg h19, if_neg h20, hc]
     exact this
theorem Af (n : Nat) (x y : Int) : ep n x y = some (bM x y) := rfl
theorem oT (n : Nat) {d : List Int} {k : Nat} (hk : k < d.length) (v : Int) {R : Type} (K : List Int → Option R) :
  (if (decide (0 ≤ (k : Int)) && decide ((k : Int) < (d.length : Int))) = true then (if (d.getD k 0 != (-1)) = true then ((ep n (d.getD k 0) v).bind fun y => if (decide (0 ≤ (k : Int)) && decide ((k : Int) < (d.length : Int))) = true then K (d.set k y) else none) else (if (decide (0 ≤ (k : Int)) && decide ((k : Int) < (d.length : Int))) = true then K (d.set k v) else none)) else none) = K (d.set k (if d.getD k 0 = -1 then v else bM (d.getD k 0) v)) := by
 simp only [if_pos (cZ hk), Af, ab]
 by_cases h : d.getD k 0 = -1
 ·rw [if_neg (fun h2 => (ak.1 h2) h), if_pos h]
 ·rw [if_pos (ak.2 h), if_neg h]
theorem sn (n : Nat) (W : ((((List (Int × (Int × Int))) × (List Int)) × Int × Int × Unit) × Unit) → Option Int) {l : List dc} {m : List Int} (hl : l.length < 1000000) (hm : m.length = l.length) {i : Nat} (hi : i < l.length) {w : Int} (hj : m.getD i 0 = ((mN m i : Nat) : Int)) (hW : W (((l, m), ((i + 1 : Nat) : Int), ((mN m i : Nat) : Int), ()), ()) = some w) (hw : StepsI w) (hA : 1 ≤ dB l i ∧ dB l i ≤ 1000) : gG n W (l, m) (i : Int) = some (gR w (dB l i)) := by
 unfold gG gR
 simp only [ah, dd (show i < 1000000 by omega), if_pos (cZ hi), if_pos (cZ (show i < m.length by omega)), hj, hW, ab]
 have hw2 : -1 ≤ w ∧ w ≤ 1048577 := by rcases hw with rfl | h <;> omega
 rw [jt n hw2.1 hw2.2 (by decide) (by decide), ab]
 have h1 : 0 ≤ dt w 1 ∧ dt w 1 ≤ 1048577 := by
  rcases hw with rfl | h
  ·decide
  ·exact fF h.1 (by decide)
 generalize dt w 1 = x at h1 ⊢
 by_cases hx : x = 1048577
 ·rw [if_pos (by simpa only [ag] using hx), if_pos hx]
 ·rw [if_neg (by simpa only [ag] using hx), if_neg hx]
  unfold dB at hA ⊢
  generalize (l.getD i (0, 0, 0)).2.1 = A at hA ⊢
  have hb : 0 ≤ A * x ∧ A * x ≤ 1000 * 1048577 := ⟨cw (by omega) h1.1, Int.mul_le_mul hA.2 h1.2 h1.1 (by decide)⟩
  rw [dn (e := A * x) (by omega) (by omega), dn (by omega) (by omega)]
  rfl
theorem WU (n : Nat) (W : ((((List (Int × (Int × Int))) × (List Int)) × Int × Int × Unit) × Unit) → Option Int) {l : List dc} {m h : List Int} (hF : Fine l m h) {Wp : Nat → Nat → Int} {a z : Nat} (hR : Reg l m a z) {i : Nat} (hi : a ≤ i) (hi2 : i < z) (hW : de l i = 21 → W (((l, m), ((i + 1 : Nat) : Int), ((mN m i : Nat) : Int), ()), ()) = some (Wp (i + 1) (mN m i)) ∧ StepsI (Wp (i + 1) (mN m i))) {d : List Int} {D : Nat → Int} (hL : LD d D a z) (hD : ∀ k, StepsI (D k)) (zz : Int) :
  ∃ d', LD d' (er bM Wp l m i D) a z ∧ Eg n W zz (i : Int) l m (a : Int) d = some (zz, (i : Int), l, m, (a : Int), d') := by
 obtain ⟨l1, l2⟩ := hF.len
 have hlt := hR.lt
 have hdl := hL.len
 have hat := hL.at_ i hi (by omega)
 have hr := hF.right (show i < l.length by omega)
 have hm := hF.nest.hm
 unfold Eg
 simp only [f0 hi (show i < 1000000 by omega), ah, dd (show i < 1000000 by omega), if_pos (cZ (show i < l.length by omega)), if_pos (cZ (show i < m.length by omega)), if_pos (cZ (show i - a < d.length by omega)), f0 (show a ≤ i + 1 by omega) (show i + 1 < 1000000 by omega), hat]
 by_cases hn : D i = -1
 ·refine ⟨d, ?_, ?_⟩
  ·unfold er
   rw [if_pos hn]
   exact hL
  ·rw [if_pos (by simpa only [ag] using hn)]
 ·rw [if_neg (by simpa only [ag] using hn)]
  have hDi : 0 ≤ D i ∧ D i ≤ 1048577 := by
   rcases hD i with h1 | h1
   ·exact absurd h1 hn
   ·exact h1
  by_cases h21 : (l.getD i (0, 0, 0)).1 = 21
  ·rw [if_pos (show ((l.getD i (0, 0, 0)).1 == 21) = true by simpa only [ag] using h21)]
   obtain ⟨j, j1, j2, j3⟩ := hR.loop i hi hi2 (isOpen_iff.2 (.inl h21))
   have hj : mN m i = j := by unfold mN; rw [j1]; rfl
   have hA : 1 ≤ dB l i ∧ dB l i ≤ 1000 := by
    unfold dB
    generalize l.getD i (0, 0, 0) = x at *
    obtain ⟨o, A, B⟩ := x
    simp only at h21
    subst h21
    exact t0 hr
   obtain ⟨w1, w2⟩ := hW h21
   have hc : eB Wp l m i = gR (Wp (i + 1) (mN m i)) (dB l i) := by unfold eB; rw [if_pos h21]
   have hlo := Dm w2 hA
   rw [sn n W (by omega) hm (by omega) (by rw [hj]; exact j1) w1 w2 hA, ab, ← hc]
   rw [← hc] at hlo
   rw [jt n (by omega) hDi.2 (by omega) hlo.2, ab]
   simp only [j1, dd (show j < 1000000 by omega), f0 (show a ≤ j + 1 by omega) (show j + 1 < 1000000 by omega), ah]
   refine ⟨_, ?_, oT n (show j + 1 - a < d.length by omega) (dt (D i) (eB Wp l m i)) fun d' => some (zz, (i : Int), l, m, (a : Int), d')⟩
   have := hL.put bM (show a ≤ j + 1 by omega) (show j + 1 ≤ z by omega) (dt (D i) (eB Wp l m i))
   unfold er eS
   rw [if_neg hn, if_pos h21, hj]
   exact this
  ·rw [if_neg (show ¬ ((l.getD i (0, 0, 0)).1 == 21) = true by simpa only [ag] using h21)]
   have hc : eB Wp l m i = 1 := by unfold eB; rw [if_neg h21]
   rw [jt n (by omega) hDi.2 (by decide) (by decide)]
   simp only [ab]
   by_cases h19 : (l.getD i (0, 0, 0)).1 = 19
   ·rw [if_pos (show ((l.getD i (0, 0, 0)).1 == 19) = true by simpa only [ag] using h19)]
    have hjt := hR.jump i hi hi2 (.inl h19)
    have hji : i < dp l i := by unfold dp; omega
    simp only [jQ (show l.length < 1000000 by omega) (show i < l.length by omega) hr (.inl h19), f0 (show a ≤ dp l i by omega) (show dp l i < 1000000 by omega), ah]
    refine ⟨_, ?_, oT n (show dp l i - a < d.length by omega) (dt (D i) 1) fun d' => some (zz, (i : Int), l, m, (a : Int), d')⟩
    have := hL.put bM (show a ≤ dp l i by omega) hjt (dt (D i) 1)
    unfold er eS
    rw [if_neg hn, if_neg h21, if_pos h19, hc]
    exact this
   ·rw [if_neg (show ¬ ((l.getD i (0, 0, 0)).1 == 19) = true by simpa only [ag] using h19)]
    by_cases h20 : (l.getD i (0, 0, 0)).1 = 20
    ·rw [if_pos (show ((l.getD i (0, 0, 0)).1 == 20) = true by simpa only [ag] using h20)]
     have hjt := hR.jump i hi hi2 (.inr h20)
     have hji : i < dp l i := by unfold dp; omega
     simp only [jQ (show l.length < 1000000 by omega) (show i < l.length by omega) hr (.inr h20), f0 (show a ≤ dp l i by omega) (show dp l i < 1000000 by omega), ah]
     have h1 := hL.put bM (show a ≤ dp l i by omega) hjt (dt (D i) 1)
     have h2 := h1.put bM (show a ≤ i + 1 by omega) (show i + 1 ≤ z by omega) (dt (D i) 1)
     refine ⟨_, ?_, (oT n (show dp l i - a < d.length by omega) (dt (D i) 1) fun d1 => (if (decide (0 ≤ ((i + 1 - a : Nat) : Int)) && decide (((i + 1 - a : Nat) : Int) < (d1.length : Int))) = true then (if (d1.getD (i + 1 - a) 0 != (-1)) = true then ((ep n (d1.getD (i + 1 - a) 0) (dt (D i) 1)).bind fun y => if (decide (0 ≤ ((i + 1 - a : Nat) : Int)) && decide (((i + 1 - a : Nat) : Int) < (d1.length : Int))) = true then some (zz, (i : Int), l, m, (a : Int), d1.set (i + 1 - a) y) else none) else (if (decide (0 ≤ ((i + 1 - a : Nat) : Int)) && decide (((i + 1 - a : Nat) : Int) < (d1.length : Int))) = true then some (zz, (i : Int), l, m, (a : Int), d1.set (i + 1 - a) (dt (D i) 1)) else none)) else none)).trans (oT n (by rw [aS]; omega) (dt (D i) 1) fun d' => some (zz, (i : Int), l, m, (a : Int), d'))⟩
     unfold er eS
     rw [if_neg hn, if_neg h21, if_neg h19, if_pos h20, hc]
     exact h2
    ·rw [if_neg (show ¬ ((l.getD i (0, 0, 0)).1 == 20) = true by simpa only [ag] using h20)]
     refine ⟨_, ?_, oT n (show i + 1 - a < d.length by omega) (dt (D i) 1) fun d' => some (zz, (i : Int), l, m, (a : Int), d')⟩
     have := hL.put bM (show a ≤ i + 1 by omega) (show i + 1 ≤ z by omega) (dt (D i) 1)
     unfold er eS
     rw [if_neg hn, if_neg h21, if_neg h19, if_neg h20, hc]
     exact this
def rR (d : List Int) : Nat → Nat → List Int
 | 0, _ => d
 | r + 1, k => rR (d.set (k + 1) (-1)) r (k + 1)
theorem KV : ∀ (r k : Nat) {d : List Int}, (rR d r k).length = d.length
 | 0, k, d => rfl
 | r + 1, k, d => (KV r (k + 1)).trans (aS ..)
theorem Nt : ∀ (r k : Nat) {d : List Int} (j : Nat), k + r < d.length → (rR d r k).getD j 0 = if k < j ∧ j ≤ k + r then -1 else d.getD j 0
 | 0, k, d, j, h => by rw [if_neg (by omega)]; rfl
 | r + 1, k, d, j, h => by
  rw [show rR d (r + 1) k = rR (d.set (k + 1) (-1)) r (k + 1) from rfl, Nt r (k + 1) j (by rw [aS]; omega), eu (by omega)]
  by_cases h1 : k + 1 < j ∧ j ≤ k + 1 + r
  ·rw [if_pos h1, if_pos (by omega)]
  ·rw [if_neg h1]
   by_cases h2 : j = k + 1
   ·rw [if_pos h2, if_pos (by omega)]
   ·rw [if_neg h2, if_neg (by omega)]
theorem EV {a z : Nat} (h : a ≤ z) : LD (rR (List.replicate (z - a + 1) 0) (z - a) 0) (eY a) a z := by
 refine ⟨by rw [KV, bp], fun k h1 h2 => ?_⟩
 rw [Nt _ _ _ (by rw [bp]; omega)]
 unfold eY
 by_cases e : k = a
 ·subst e
  rw [if_neg (by omega), if_pos rfl, aU]
  rfl
 ·rw [if_pos (by omega), if_neg e]
theorem F4 {a z : Nat} (h : a ≤ z) (hz : z < 1000000) : wrap .i64 (wrap .i64 ((z : Int) - (a : Int)) + 1) = ((z - a + 1 : Nat) : Int) := by
 rw [f0 h hz, dd (by omega)]
theorem HN (n : Nat) (W : ((((List (Int × (Int × Int))) × (List Int)) × Int × Int × Unit) × Unit) → Option Int) {l : List dc} {m : List Int} {zz aa : Int} {c : Nat} (hc : c < 1000000) : ∀ (f k : Nat) {d : List Int}, d.length = c + 1 → k ≤ c → c < f + k →
  it (fun F (x : Int × Int × Int × (List (Int × (Int × Int))) × (List Int) × Int × (List Int)) => sM n W F x.1 x.2.1 x.2.2.1 x.2.2.2.1 x.2.2.2.2.1 x.2.2.2.2.2.1 x.2.2.2.2.2.2) f (zz, (c : Int), (k : Int), l, m, aa, d) = some (zz, l, m, aa, rR d (c - k) k)
 | 0, k, d, hd, hk, hf => by omega
 | f + 1, k, d, hd, hk, hf => by
  have ih := fun {d : List Int} => HN n W (l := l) (m := m) (zz := zz) (aa := aa) hc f (k + 1) (d := d)
  show sM n W (it _ f) zz (c : Int) (k : Int) l m aa d = _
  generalize it (fun F (x : Int × Int × Int × (List (Int × (Int × Int))) × (List Int) × Int × (List Int)) => sM n W F x.1 x.2.1 x.2.2.1 x.2.2.2.1 x.2.2.2.2.1 x.2.2.2.2.2.1 x.2.2.2.2.2.2) f = F at ih ⊢
  unfold sM
  rcases aj k c with hlt | hge
  ·rw [if_pos (af (by omega)), dd (by omega), if_pos (cZ (by omega)), ah, ih (by rw [aS, hd]) (by omega) (by omega), show c - k = (c - (k + 1)) + 1 by omega]
   rfl
  ·have : k = c := by omega
   subst this
   rw [if_neg (by simp), aU]
   rfl
theorem KW (n : Nat) (W : ((((List (Int × (Int × Int))) × (List Int)) × Int × Int × Unit) × Unit) → Option Int) {l : List dc} {m h : List Int} (hF : Fine l m h) {Wp : Nat → Nat → Int} {a z : Nat} (hR : Reg l m a z) (hW : ∀ i, a ≤ i → i < z → de l i = 21 → W (((l, m), ((i + 1 : Nat) : Int), ((mN m i : Nat) : Int), ()), ()) = some (Wp (i + 1) (mN m i)) ∧ StepsI (Wp (i + 1) (mN m i))) : ∀ (f i : Nat) {d : List Int} {D : Nat → Int}, LD d D a z → (∀ k, StepsI (D k)) → a ≤ i → i ≤ z → z < f + i → ∃ d', LD d' (eI bM Wp l m (z - i) i D) a z ∧
  it (fun F (x : Int × Int × (List (Int × (Int × Int))) × (List Int) × Int × (List Int)) => sN n W F x.1 x.2.1 x.2.2.1 x.2.2.2.1 x.2.2.2.2.1 x.2.2.2.2.2) f ((z : Int), (i : Int), l, m, (a : Int), d) = some ((z : Int), l, m, (a : Int), d')
 | 0, i, d, D, hL, hD, h1, h2, hf => by omega
 | f + 1, i, d, D, hL, hD, h1, h2, hf => by
  have ih := fun {d : List Int} {D : Nat → Int} => KW n W hF hR hW f (i + 1) (d := d) (D := D)
  show ∃ d', _ ∧ sN n W (it _ f) (z : Int) (i : Int) l m (a : Int) d = _
  generalize it (fun F (x : Int × Int × (List (Int × (Int × Int))) × (List Int) × Int × (List Int)) => sN n W F x.1 x.2.1 x.2.2.1 x.2.2.2.1 x.2.2.2.2.1 x.2.2.2.2.2) f = F at ih ⊢
  obtain ⟨l1, l2⟩ := hF.len
  have hlt := hR.lt
  unfold sN
  rcases aj i z with hiz | hge
  ·obtain ⟨d1, k1, k2⟩ := WT n W hF hR h1 hiz (hW i h1 hiz) hL hD (z : Int)
   rw [if_pos (af (by omega)), k2, ab]
   simp only
   rw [dd (by omega), show z - i = (z - (i + 1)) + 1 by omega]
   exact ih k1 (gn eQ hD (hF.right (by omega)) fun h => (hW i h1 hiz h).2) (by omega) (by omega) (by omega)
  ·have : i = z := by omega
   subst this
   rw [if_neg (by simp), aU]
   exact ⟨d, hL, rfl⟩
theorem aaR (n : Nat) (W : ((((List (Int × (Int × Int))) × (List Int)) × Int × Int × Unit) × Unit) → Option Int) {l : List dc} {m h : List Int} (hF : Fine l m h) (hn : l.length < n) {Wp : Nat → Nat → Int} {a z : Nat} (hR : Reg l m a z) (hW : ∀ i, a ≤ i → i < z → de l i = 21 → W (((l, m), ((i + 1 : Nat) : Int), ((mN m i : Nat) : Int), ()), ()) = some (Wp (i + 1) (mN m i)) ∧ StepsI (Wp (i + 1) (mN m i))) :
  uR n W (l, m) (a : Int) (z : Int) = some (eI bM Wp l m (z - a) a (eY a) z) := by
 obtain ⟨l1, l2⟩ := hF.len
 have hle := hR.le
 have hlt := hR.lt
 unfold uR Ct Cv
 have c1 : (decide (0 ≤ ((z - a + 1 : Nat) : Int)) && (((z - a + 1 : Nat) : Int) == ((z - a + 1 : Nat) : Int)) && decide (((z - a + 1 : Nat) : Int) * (8 : Int) ≤ 140737488355328) && decide (1 ≤ 8)) = true := by simp; omega
 have c2 : (decide (0 ≤ 1) && decide (1 ≤ ((z - a + 1 : Nat) : Int))) = true := by simp; omega
 simp only [F4 hle (show z < 1000000 by omega), ah, bp, cJ]
 have h0 := HN n W (l := l) (m := m) (zz := (z : Int)) (aa := (a : Int)) (c := z - a) (by omega) n 0 (d := List.replicate (z - a + 1) 0) (by rw [bp]) (ai _) (by omega)
 rw [show ((0 : Nat) : Int) = 0 from rfl, aV] at h0
 obtain ⟨d', k1, k2⟩ := KW n W hF hR hW n a (EV hle) (gV a) (ar _) hle (by omega)
 rw [if_pos c1, if_pos c2, h0, ab]
 simp only
 rw [k2, ab]
 simp only [f0 hle (show z < 1000000 by omega), ah]
 rw [if_pos (cZ (by rw [k1.len]; omega)), k1.at_ z hle (ar _)]
theorem Nu (n : Nat) {l : List dc} {m h : List Int} (hF : Fine l m h) (hn : l.length < n) : ∀ (g : Nat) {a z : Nat}, Reg l m a z → z - a < g →
  it (fun (W : ((((List (Int × (Int × Int))) × (List Int)) × Int × Int × Unit) × Unit) → Option Int) x => uR n W x.1.1 x.1.2.1 x.1.2.2.1) g (((l, m), (a : Int), (z : Int), ()), ()) = some (d7 bM l m g a z)
 | 0, a, z, hR, hg => by omega
 | g + 1, a, z, hR, hg => by
  have hlt := hR.lt
  have ih := fun {a z : Nat} => Nu n hF hn g (a := a) (z := z)
  show uR n (it _ g) (l, m) (a : Int) (z : Int) = _
  refine aaR n _ hF hn hR fun i h1 h2 h3 => ?_
  have ho := isOpen_iff.2 (Or.inl (b := de l i = 23) h3)
  have hRi := hF.reg (show i < l.length by omega) ho
  obtain ⟨j, j1, j2, j3⟩ := hR.loop i h1 h2 ho
  have hj : mN m i = j := by unfold mN; rw [j1]; rfl
  exact ⟨ih hRi (by omega), kL eQ hF g hRi⟩
theorem WV (n : Nat) {l : List dc} {m h : List Int} (hF : Fine l m h) (hn : l.length < n) {a z : Nat} (hR : Reg l m a z) : OD n (l, m) (a : Int) (z : Int) = some (d7 bM l m n a z) := by
 have := hR.lt
 exact Nu n hF hn n hR (by omega)
theorem HO (n : Nat) (W : ((((List (Int × (Int × Int))) × (List Int)) × Int × Int × Unit) × Unit) → Option Int) {l : List dc} {m : List Int} {zz aa : Int} {c : Nat} (hc : c < 1000000) : ∀ (f k : Nat) {d : List Int}, d.length = c + 1 → k ≤ c → c < f + k →
  it (fun F (x : Int × Int × Int × (List (Int × (Int × Int))) × (List Int) × Int × (List Int)) => sU n W F x.1 x.2.1 x.2.2.1 x.2.2.2.1 x.2.2.2.2.1 x.2.2.2.2.2.1 x.2.2.2.2.2.2) f (zz, (c : Int), (k : Int), l, m, aa, d) = some (zz, l, m, aa, rR d (c - k) k)
 | 0, k, d, hd, hk, hf => by omega
 | f + 1, k, d, hd, hk, hf => by
  have ih := fun {d : List Int} => HO n W (l := l) (m := m) (zz := zz) (aa := aa) hc f (k + 1) (d := d)
  show sU n W (it _ f) zz (c : Int) (k : Int) l m aa d = _
  generalize it (fun F (x : Int × Int × Int × (List (Int × (Int × Int))) × (List Int) × Int × (List Int)) => sU n W F x.1 x.2.1 x.2.2.1 x.2.2.2.1 x.2.2.2.2.1 x.2.2.2.2.2.1 x.2.2.2.2.2.2) f = F at ih ⊢
  unfold sU
  rcases aj k c with hlt | hge
  ·rw [if_pos (af (by omega)), dd (by omega), if_pos (cZ (by omega)), ah, ih (by rw [aS, hd]) (by omega) (by omega), show c - k = (c - (k + 1)) + 1 by omega]
   rfl
  ·have : k = c := by omega
   subst this
   rw [if_neg (by simp), aU]
   rfl
theorem KX (n : Nat) (W : ((((List (Int × (Int × Int))) × (List Int)) × Int × Int × Unit) × Unit) → Option Int) {l : List dc} {m h : List Int} (hF : Fine l m h) {Wp : Nat → Nat → Int} {a z : Nat} (hR : Reg l m a z) (hW : ∀ i, a ≤ i → i < z → de l i = 21 → W (((l, m), ((i + 1 : Nat) : Int), ((mN m i : Nat) : Int), ()), ()) = some (Wp (i + 1) (mN m i)) ∧ StepsI (Wp (i + 1) (mN m i))) : ∀ (f i : Nat) {d : List Int} {D : Nat → Int}, LD d D a z → (∀ k, StepsI (D k)) → a ≤ i → i ≤ z → z < f + i → ∃ d', LD d' (eI bM Wp l m (z - i) i D) a z ∧
  it (fun F (x : Int × Int × (List (Int × (Int × Int))) × (List Int) × Int × (List Int)) => sV n W F x.1 x.2.1 x.2.2.1 x.2.2.2.1 x.2.2.2.2.1 x.2.2.2.2.2) f ((z : Int), (i : Int), l, m, (a : Int), d) = some ((z : Int), l, m, (a : Int), d')
 | 0, i, d, D, hL, hD, h1, h2, hf => by omega
 | f + 1, i, d, D, hL, hD, h1, h2, hf => by
  have ih := fun {d : List Int} {D : Nat → Int} => KX n W hF hR hW f (i + 1) (d := d) (D := D)
  show ∃ d', _ ∧ sV n W (it _ f) (z : Int) (i : Int) l m (a : Int) d = _
  generalize it (fun F (x : Int × Int × (List (Int × (Int × Int))) × (List Int) × Int × (List Int)) => sV n W F x.1 x.2.1 x.2.2.1 x.2.2.2.1 x.2.2.2.2.1 x.2.2.2.2.2) f = F at ih ⊢
  obtain ⟨l1, l2⟩ := hF.len
  have hlt := hR.lt
  unfold sV
  rcases aj i z with hiz | hge
  ·obtain ⟨d1, k1, k2⟩ := WU n W hF hR h1 hiz (hW i h1 hiz) hL hD (z : Int)
   rw [if_pos (af (by omega)), k2, ab]
   simp only
   rw [dd (by omega), show z - i = (z - (i + 1)) + 1 by omega]
   exact ih k1 (gn eQ hD (hF.right (by omega)) fun h => (hW i h1 hiz h).2) (by omega) (by omega) (by omega)
  ·have : i = z := by omega
   subst this
   rw [if_neg (by simp), aU]
   exact ⟨d, hL, rfl⟩
theorem aaS (n : Nat) (W : ((((List (Int × (Int × Int))) × (List Int)) × Int × Int × Unit) × Unit) → Option Int) {l : List dc} {m h : List Int} (hF : Fine l m h) (hn : l.length < n) {Wp : Nat → Nat → Int} {a z : Nat} (hR : Reg l m a z) (hW : ∀ i, a ≤ i → i < z → de l i = 21 → W (((l, m), ((i + 1 : Nat) : Int), ((mN m i : Nat) : Int), ()), ()) = some (Wp (i + 1) (mN m i)) ∧ StepsI (Wp (i + 1) (mN m i))) :
  uS n W (l, m) (a : Int) (z : Int) = some (eI bM Wp l m (z - a) a (eY a) z) := by
 obtain ⟨l1, l2⟩ := hF.len
 have hle := hR.le
 have hlt := hR.lt
 unfold uS CA CC
 have c1 : (decide (0 ≤ ((z - a + 1 : Nat) : Int)) && (((z - a + 1 : Nat) : Int) == ((z - a + 1 : Nat) : Int)) && decide (((z - a + 1 : Nat) : Int) * (8 : Int) ≤ 140737488355328) && decide (1 ≤ 8)) = true := by simp; omega
 have c2 : (decide (0 ≤ 1) && decide (1 ≤ ((z - a + 1 : Nat) : Int))) = true := by simp; omega
 simp only [F4 hle (show z < 1000000 by omega), ah, bp, cJ]
 have h0 := HO n W (l := l) (m := m) (zz := (z : Int)) (aa := (a : Int)) (c := z - a) (by omega) n 0 (d := List.replicate (z - a + 1) 0) (by rw [bp]) (ai _) (by omega)
 rw [show ((0 : Nat) : Int) = 0 from rfl, aV] at h0
 obtain ⟨d', k1, k2⟩ := KX n W hF hR hW n a (EV hle) (gV a) (ar _) hle (by omega)
 rw [if_pos c1, if_pos c2, h0, ab]
 simp only
 rw [k2, ab]
 simp only [f0 hle (show z < 1000000 by omega), ah]
 rw [if_pos (cZ (by rw [k1.len]; omega)), k1.at_ z hle (ar _)]
theorem Nv (n : Nat) {l : List dc} {m h : List Int} (hF : Fine l m h) (hn : l.length < n) : ∀ (g : Nat) {a z : Nat}, Reg l m a z → z - a < g →
  it (fun (W : ((((List (Int × (Int × Int))) × (List Int)) × Int × Int × Unit) × Unit) → Option Int) x => uS n W x.1.1 x.1.2.1 x.1.2.2.1) g (((l, m), (a : Int), (z : Int), ()), ()) = some (d7 bM l m g a z)
 | 0, a, z, hR, hg => by omega
 | g + 1, a, z, hR, hg => by
  have hlt := hR.lt
  have ih := fun {a z : Nat} => Nv n hF hn g (a := a) (z := z)
  show uS n (it _ g) (l, m) (a : Int) (z : Int) = _
  refine aaS n _ hF hn hR fun i h1 h2 h3 => ?_
  have ho := isOpen_iff.2 (Or.inl (b := de l i = 23) h3)
  have hRi := hF.reg (show i < l.length by omega) ho
  obtain ⟨j, j1, j2, j3⟩ := hR.loop i h1 h2 ho
  have hj : mN m i = j := by unfold mN; rw [j1]; rfl
  exact ⟨ih hRi (by omega), kL eQ hF g hRi⟩
theorem WW (n : Nat) {l : List dc} {m h : List Int} (hF : Fine l m h) (hn : l.length < n) {a z : Nat} (hR : Reg l m a z) : OE n (l, m) (a : Int) (z : Int) = some (d7 bM l m n a z) := by
 have := hR.lt
 exact Nv n hF hn n hR (by omega)
theorem VP {P : Nat → Prop} : ∀ {n : Nat}, P n → ∃ k, k ≤ n ∧ P k ∧ ∀ j, j < k → ¬ P j := by
 intro n
 induction n using Nat.strongRecOn with
 | _ n ih =>
  intro hn
  by_cases h : ∃ j, j < n ∧ P j
  ·obtain ⟨j, j1, j2⟩ := h
   obtain ⟨k, k1, k2, k3⟩ := ih j j1 j2
   exact ⟨k, by omega, k2, k3⟩
  ·exact ⟨n, ar _, hn, fun j hj hp => h ⟨j, hj, hp⟩⟩
theorem KY {s : List Bool} {q k : Nat} (h : (s.set q true).getD k false = true) : s.getD k false = true ∨ k = q := by
 by_cases e : k = q
 ·exact .inr e
 ·refine .inl ?_
  rw [ao, List.getElem?_set_ne (fun h => e h.symm)] at h
  rw [ao]
  exact h
theorem EW {t : ByteArray} : ∀ (ks : List Nat) {f : gm} {k : Nat}, (ks.foldl (fun g q => gJ q t g) f).2.1.getD k false = true → f.2.1.getD k false = true ∨ k ∈ ks
 | [], f, k, h => .inl h
 | q :: ks, f, k, h => by
  rcases EW ks h with h1 | h1
  ·rcases KY h1 with h2 | h2
   ·exact .inl h2
   ·exact .inr (by rw [h2]; exact aF)
  ·exact .inr (aC _ h1)
theorem IC {l : List dc} {m : List Int} {i : Nat} {f f' : gm} (hs : f4 l m i f = .inr f') : f.2.1.getD i false = true ∧ ∀ k, f'.2.1.getD k false = true → f.2.1.getD k false = true ∨ k ∈ eX l i := by
 unfold f4 at hs
 split at hs
 ·cases hs
 ·rename_i h1
  refine ⟨by simpa using h1, fun k hk => ?_⟩
  split at hs
  ·cases hs
  ·split at hs
   ·cases hs
   ·split at hs
    ·cases hs
    ·cases hs
     exact EW _ hk
theorem Ag {l : List dc} {m : List Int} : ∀ (r i : Nat) {f f' : gm}, gY l m r i f = .inr f' → (∀ k, f.2.1.getD k false = true → k = 0 ∨ ∃ p, p < i ∧ k ∈ eX l p) → ∀ k, i ≤ k → k < i + r → k = 0 ∨ ∃ p, p < k ∧ k ∈ eX l p
 | 0, i, f, f', hs, hI, k, h1, h2 => by omega
 | r + 1, i, f, f', hs, hI, k, h1, h2 => by
  simp only [gY] at hs
  cases hq : f4 l m i f with
  | inl e => rw [hq] at hs; cases hs
  | inr f1 =>
   rw [hq] at hs
   obtain ⟨a1, a2⟩ := IC hq
   by_cases e : k = i
   ·subst e
    exact hI k a1
   ·refine Ag r (i + 1) hs (fun k hk => ?_) k (by omega) (by omega)
    rcases a2 k hk with h3 | h3
    ·rcases hI k h3 with h4 | ⟨p, p1, p2⟩
     ·exact .inl h4
     ·exact .inr ⟨p, by omega, p2⟩
    ·exact .inr ⟨i, by omega, h3⟩
def sq (l : List dc) : Prop := ∀ k, 0 < k → k < l.length → ∃ p, p < k ∧ k ∈ eX l p
theorem t8 {l : List dc} (h : fe l = 0) : eK l = 0 ∧ sq l := by
 unfold fe at h
 split at h
 ·rename_i hw
  exact absurd h hw
 ·rename_i hw
  have hw0 : eK l = 0 := by
   by_cases e : eK l = 0
   ·exact e
   ·exact absurd e hw
  refine ⟨hw0, fun k k1 k2 => ?_⟩
  cases hq : gY l (du l).1 l.length 0 (kK l) with
  | inl e =>
   rw [hq] at h
   simp only at h
   subst h
   exfalso
   have key : ∀ (r i : Nat) {f : gm}, gY l (du l).1 r i f ≠ .inl 0 := by
    intro r
    induction r with
    | zero => intro i f h; cases h
    | succ r ih =>
     intro i f h
     simp only [gY] at h
     cases hq : f4 l (du l).1 i f with
     | inr f1 => rw [hq] at h; exact ih (i + 1) h
     | inl e =>
      rw [hq] at h
      cases h
      unfold f4 at hq
      split at hq
      ·cases hq
      ·split at hq
       ·cases hq
       ·split at hq
        ·cases hq
        ·split at hq
         ·rename_i h5
          exact h5 (Sum.inl.inj hq)
         ·cases hq
   exact key _ _ hq
  | inr f' =>
   have hI : ∀ k, (kK l).2.1.getD k false = true → k = 0 ∨ ∃ p, p < 0 ∧ k ∈ eX l p := fun k hk => by
    left
    unfold kK at hk
    rcases KY hk with h2 | h2
    ·rw [ao, bV] at h2
     split at h2 <;> cases h2
    ·exact h2
   rcases Ag l.length 0 hq hI k (ai _) (by omega) with h1 | h1
   ·omega
   ·exact h1
theorem Fine.jump_enc {l : List dc} {m h : List Int} (hF : Fine l m h) {i : Nat} (hi : i < l.length) (hj : de l i = 19 ∨ de l i = 20) (q : Nat) : enc l m q (dp l i) = enc l m q i := by
 obtain ⟨k1, k2⟩ := hF.jump hi hj
 rcases pE l m i with hh | ⟨p, hh⟩
 ·rw [qK hh q, qK (k2.trans hh) q]
 ·obtain ⟨_, _, x3⟩ := kx hF.nest hi hh
  obtain ⟨_, _, y3⟩ := kx hF.nest k1 (k2.trans hh)
  rw [x3 q, y3 q]
theorem p5 {l : List dc} {m : List Int} {q k j : Nat} (ho : dw l q = true) (hj : m.getD q 0 = (j : Int)) : enc l m q k = true ↔ q < k ∧ k ≤ j := by
 unfold enc
 rw [ho, hj]
 simp
def t9 (l : List dc) (m : List Int) (a z k : Nat) : Prop := a ≤ k ∧ k ≤ z ∧ ∀ q, a ≤ q → q < k → de l q = 21 → mN m q < k
structure Way (l : List dc) (m : List Int) (a z : Nat) : Prop where
 reg : Reg l m a z
 out : a = 0 ∨ ∃ p, a = p + 1 ∧ dw l p = true ∧ m.getD p 0 = (z : Int)
theorem Fine.way {l : List dc} {m h : List Int} (hF : Fine l m h) {p : Nat} (hp : p < l.length) (ho : dw l p = true) : Way l m (p + 1) (mN m p) := by
 refine ⟨hF.reg hp ho, .inr ⟨p, rfl, ho, ?_⟩⟩
 obtain ⟨j, j1, _⟩ := hF.nest.open_ p hp ho
 unfold mN
 rw [j1]
 rfl
theorem Fine.wayAll {l : List dc} {m h : List Int} (hF : Fine l m h) : Way l m 0 (l.length - 1) := ⟨hF.all, .inl rfl⟩
theorem A5 {l : List dc} {m h : List Int} (hF : Fine l m h) (hS : sq l) {a z : Nat} (hR : Way l m a z) {k : Nat} (hk : t9 l m a z k) (hak : a < k) : ∃ p, t9 l m a z p ∧ p < k ∧ k ∈ eS l m p := by
 obtain ⟨k1, k2, k3⟩ := hk
 have hlt := hR.reg.lt
 obtain ⟨p, p1, p2⟩ := hS k (by omega) (by omega)
 have hpl : p < l.length := by omega
 have hcase : k = p + 1 ∨ ((de l p = 19 ∨ de l p = 20) ∧ k = dp l p) := by
  unfold eX at p2
  split at p2
  ·rename_i h1
   rw [aE] at p2
   exact .inr ⟨.inl h1, p2⟩
  ·split at p2
   ·rename_i h1 h2
    rw [aB, aE] at p2
    rcases p2 with h3 | h3
    ·exact .inl h3
    ·exact .inr ⟨.inr h2, h3⟩
   ·split at p2
    ·cases p2
    ·rw [aE] at p2
     exact .inl p2
 have hap : a ≤ p := by
  rcases hcase with h1 | ⟨h1, h2⟩
  ·omega
  ·rcases hR.out with h3 | ⟨o, o1, o2, o3⟩
   ·omega
   ·rcases aj p a with h4 | h4
    ·exfalso
     have e1 : enc l m o k = true := (p5 o2 o3).2 ⟨by omega, k2⟩
     rw [h2, hF.jump_enc hpl h1, p5 o2 o3] at e1
     omega
    ·exact h4
 by_cases hin : t9 l m a z p
 ·refine ⟨p, hin, p1, ?_⟩
  unfold eX at p2
  unfold eS
  by_cases h21 : de l p = 21
  ·exfalso
   have hkp : k = p + 1 := by
    rcases hcase with h1 | ⟨h1, _⟩
    ·exact h1
    ·omega
   have := k3 p hap (by omega) h21
   obtain ⟨j, j1, j2, j3⟩ := hF.nest.open_ p hpl (isOpen_iff.2 (.inl h21))
   unfold mN at this
   rw [j1] at this
   have e : ((j : Int)).toNat = j := rfl
   omega
  ·rw [if_neg h21]
   by_cases h19 : de l p = 19
   ·rw [if_pos h19] at p2 ⊢
    exact p2
   ·rw [if_neg h19] at p2 ⊢
    by_cases h20 : de l p = 20
    ·rw [if_pos h20] at p2 ⊢
     rw [aB, aE] at p2 ⊢
     exact p2.symm
    ·rw [if_neg h20] at p2 ⊢
     split at p2
     ·cases p2
     ·exact p2
 ·have : ∃ q, a ≤ q ∧ q < p ∧ de l q = 21 ∧ p ≤ mN m q := by
   apply cR
   intro hno
   refine hin ⟨hap, by omega, fun q q1 q2 q3 => ?_⟩
   rcases aj (mN m q) p with h1 | h1
   ·exact h1
   ·exact absurd ⟨q, q1, q2, q3, h1⟩ hno
  obtain ⟨q0, hq0⟩ := this
  obtain ⟨q, q1, ⟨q2, q3, q4, q5⟩, q6⟩ := VP (P := fun q => a ≤ q ∧ q < p ∧ de l q = 21 ∧ p ≤ mN m q) hq0
  have hqo : dw l q = true := isOpen_iff.2 (.inl q4)
  obtain ⟨j, j1, j2, j3⟩ := hF.nest.open_ q (by omega) hqo
  have hj : mN m q = j := by unfold mN; rw [j1]; rfl
  rw [hj] at q5
  have hqk := k3 q q2 (by omega) q4
  rw [hj] at hqk
  refine ⟨q, ⟨q2, by omega, fun q' a1 a2 a3 => ?_⟩, by omega, ?_⟩
  ·rcases aj (mN m q') q with h1 | h1
   ·exact h1
   ·exfalso
    have ho' : dw l q' = true := isOpen_iff.2 (.inl a3)
    obtain ⟨j', e1, e2, e3, e4, e5⟩ := hF.closed.op_ q' (by omega) ho'
    have hj' : mN m q' = j' := by unfold mN; rw [e1]; rfl
    rw [hj'] at h1
    have hne : j' ≠ q := fun e => by
     subst e
     rw [HJ e4] at hqo
     cases hqo
    obtain ⟨x, x1, x2⟩ := hF.nest.cross q' q j' a2 (by omega) (by omega) ho' hqo e1
    have : (x : Int) = (j : Int) := x1.symm.trans j1
    exact q6 q' a2 ⟨a1, by omega, a3, by rw [hj']; omega⟩
  ·rcases hcase with h1 | ⟨h1, h2⟩
   ·unfold eS
    rw [if_pos q4, hj, aE]
    omega
   ·exfalso
    have e1 : enc l m q p = true := (p5 hqo j1).2 ⟨q3, q5⟩
    rw [← hF.jump_enc hpl h1, ← h2, p5 hqo j1] at e1
    omega
theorem Ah {b : Int → Int → Int} (hb : Ae b) {v : Int} (hv : v ≠ -1) : ∀ (ks : List Nat) {D : Nat → Int} {k : Nat}, D k ≠ -1 ∨ k ∈ ks → ks.foldl (fun g k => ef b g k v) D k ≠ -1
 | [], D, k, h => h.elim id fun h => by cases h
 | q :: ks, D, k, h => by
  refine Ah hb hv ks (D := ef b D q v) ?_
  unfold ef
  by_cases e : k = q
  ·left
   rw [if_pos e]
   split
   ·exact hv
   ·rename_i h1
    rcases hb (D q) v with h2 | h2 <;> rw [h2]
    ·exact h1
    ·exact hv
  ·rw [if_neg e]
   rcases h with h | h
   ·exact .inl h
   ·rcases aB.1 h with h | h
    ·exact absurd h e
    ·exact .inr h
theorem HP {b : Int → Int → Int} (hb : Ae b) {W : Nat → Nat → Int} {l : List dc} {m h : List Int} (hF : Fine l m h) (hS : sq l) {a z : Nat} (hR : Way l m a z) (hW : ∀ i, a ≤ i → i < z → de l i = 21 → StepsI (W (i + 1) (mN m i))) : ∀ (r i : Nat) {D : Nat → Int}, (∀ k, StepsI (D k)) → a ≤ i → i + r = z → (∀ k, t9 l m a z k → k = a ∨ (∃ p, t9 l m a z p ∧ p < i ∧ k ∈ eS l m p) → D k ≠ -1) → ∀ k, t9 l m a z k → eI b W l m r i D k ≠ -1
 | 0, i, D, hD, hi, hz, hI, k, hk => by
  refine hI k hk ?_
  by_cases e : k = a
  ·exact .inl e
  ·obtain ⟨p, p1, p2, p3⟩ := A5 hF hS hR hk (by have := hk.1; omega)
   exact .inr ⟨p, p1, by have := hk.2.1; omega, p3⟩
 | r + 1, i, D, hD, hi, hz, hI, k, hk => by
  have hlt := hR.reg.lt
  have hWi := hW i hi (by omega)
  have hr := hF.right (show i < l.length by omega)
  refine HP hb hF hS hR hW r (i + 1) (gn hb hD hr hWi) (by omega) (by omega) (fun j hj hp => ?_) k hk
  have old : D j ≠ -1 → er b W l m i D j ≠ -1 := fun h => by
   unfold er
   split
   ·exact h
   ·rename_i h1
    have hDi : 0 ≤ D i := by
     rcases hD i with h2 | h2
     ·exact absurd h2 h1
     ·exact h2.1
    have := fF hDi (iQ hr hWi).1
    exact Ah hb (by omega) _ (.inl h)
  rcases hp with h1 | ⟨p, p1, p2, p3⟩
  ·exact old (hI j hj (.inl h1))
  ·by_cases e : p = i
   ·subst e
    have hDp : D p ≠ -1 := by
     refine hI p p1 ?_
     by_cases e : p = a
     ·exact .inl e
     ·obtain ⟨p', a1, a2, a3⟩ := A5 hF hS hR p1 (by omega)
      exact .inr ⟨p', a1, a2, a3⟩
    have hDp0 : 0 ≤ D p := by
     rcases hD p with h2 | h2
     ·exact absurd h2 hDp
     ·exact h2.1
    unfold er
    rw [if_neg hDp]
    have := fF hDp0 (iQ hr hWi).1
    exact Ah hb (by omega) _ (.inr p3)
   ·exact old (hI j hj (.inr ⟨p, p1, by omega, p3⟩))
theorem OU {l : List dc} {m h : List Int} {a z : Nat} (hR : Way l m a z) : t9 l m a z z := by
 refine ⟨hR.reg.le, ar _, fun q h1 h2 h3 => ?_⟩
 obtain ⟨j, j1, j2, j3⟩ := hR.reg.loop q h1 h2 (isOpen_iff.2 (.inl h3))
 unfold mN
 rw [j1]
 exact j3
theorem gW {b : Int → Int → Int} (hb : Ae b) {l : List dc} {m h : List Int} (hF : Fine l m h) (hS : sq l) (f : Nat) {a z : Nat} (hR : Way l m a z) : 0 ≤ d7 b l m f a z ∧ d7 b l m f a z ≤ 1048577 := by
 have h0 := kL hb hF f hR.reg
 have hlt := hR.reg.lt
 have hle := hR.reg.le
 cases f with
 | zero => exact ⟨bm _, by show (0 : Int) ≤ 1048577; decide⟩
 | succ f =>
  have h1 : d7 b l m (f + 1) a z ≠ -1 := by
   refine HP hb hF hS hR (fun i i1 i2 i3 => kL hb hF f (hF.reg (by omega) (isOpen_iff.2 (.inl i3)))) (z - a) a (gV a) (ar _) (by omega) (fun k hk hp => ?_) z (OU (h := h) hR)
   rcases hp with e | ⟨p, p1, p2, _⟩
   ·subst e
    unfold eY
    rw [if_pos rfl]
    decide
   ·have := p1.1
    omega
  rcases h0 with h2 | h2
  ·exact absurd h2 h1
  ·exact h2
def bI (most : Bool) : Int → Int → Int := if most then bM else bL
theorem Ai (most : Bool) : Ae (bI most) := by
 unfold bI
 cases most
 ·exact t7
 ·exact eQ
theorem SE (b : Int → Int → Int) (D : Nat → Int) (q k : Nat) (v : Int) : ef b (ef b D q v) k v = ef b (ef b D k v) q v := by
 by_cases e : q = k
 ·subst e; rfl
 ·have e2 : ¬ k = q := fun h => e h.symm
  funext j
  unfold ef
  by_cases h1 : j = k
  ·subst h1
   simp only [if_true, e2, e, ax]
  ·by_cases h2 : j = q
   ·subst h2
    simp only [h1, if_true, ax]
   ·simp only [h1, h2, ax]
def rS (l : List dc) (m : List Int) (i : Nat) : List Nat := if de l i = 19 then [dp l i] else if de l i = 20 then [i + 1, dp l i] else if de l i = 21 then [mN m i + 1] else [i + 1]
theorem VQ (b : Int → Int → Int) (l : List dc) (m : List Int) (i : Nat) (D : Nat → Int) (v : Int) : (rS l m i).foldl (fun g k => ef b g k v) D = (eS l m i).foldl (fun g k => ef b g k v) D := by
 unfold rS eS
 by_cases h19 : de l i = 19
 ·rw [if_pos h19, if_neg (by omega), if_pos h19]
 ·by_cases h20 : de l i = 20
  ·rw [if_neg h19, if_pos h20, if_neg (by omega), if_neg h19, if_pos h20]
   exact SE b D (i + 1) (dp l i) v
  ·by_cases h21 : de l i = 21
   ·rw [if_neg h19, if_neg h20, if_pos h21, if_pos h21]
   ·rw [if_neg h19, if_neg h20, if_neg h21, if_neg h21, if_neg h19, if_neg h20]
theorem HQ (l : List dc) (m : List Int) (i : Nat) : (rS l m i).length ≤ 2 := by
 unfold rS
 split
 ·simp
 ·split
  ·simp
  ·split <;> simp
theorem VS {l : List dc} {m : List Int} {a z i : Nat} (hR : Reg l m a z) (h1 : a ≤ i) (h2 : i < z) : ∀ q ∈ rS l m i, i < q ∧ q ≤ z := by
 intro q hq
 unfold rS at hq
 split at hq
 ·rename_i h
  rw [aE] at hq
  subst hq
  exact ⟨by unfold dp; omega, hR.jump i h1 h2 (.inl h)⟩
 ·split at hq
  ·rename_i h
   rw [aB, aE] at hq
   rcases hq with rfl | rfl
   ·exact ⟨by omega, by omega⟩
   ·exact ⟨by unfold dp; omega, hR.jump i h1 h2 (.inr h)⟩
  ·split at hq
   ·rename_i h
    rw [aE] at hq
    obtain ⟨j, j1, j2, j3⟩ := hR.loop i h1 h2 (isOpen_iff.2 (.inl h))
    have hj : mN m i = j := by unfold mN; rw [j1]; rfl
    subst hq
    rw [hj]
    exact ⟨by omega, by omega⟩
   ·rw [aE] at hq
    subst hq
    exact ⟨by omega, by omega⟩
structure LQ (d : List Int) (s : List Bool) (D : Nat → Int) (a z : Nat) : Prop where
 dl : d.length = z - a + 1
 sl : s.length = z - a + 1
 at_ : ∀ k, a ≤ k → k ≤ z → d.getD (k - a) 0 = (if D k = -1 then 0 else D k) ∧ s.getD (k - a) false = (D k != -1)
theorem HS {l : List Bool} {i j : Nat} {v d : Bool} (h : i < l.length) : (l.set i v).getD j d = if j = i then v else l.getD j d := eu h
theorem LQ.put {d : List Int} {s : List Bool} {D : Nat → Int} {a z : Nat} (h : LQ d s D a z) (b : Int → Int → Int) {k : Nat} (hk : a ≤ k) (hk2 : k ≤ z) {v x : Int} (hx : x = if D k = -1 then v else b (D k) v) (hx0 : x ≠ -1) : LQ (d.set (k - a) x) (s.set (k - a) true) (ef b D k v) a z := by
 have h1 := h.dl
 have h2 := h.sl
 refine ⟨by rw [aS, h1], by rw [aS, h2], fun j j1 j2 => ?_⟩
 rw [eu (by omega), HS (by omega)]
 unfold ef
 by_cases e : j = k
 ·subst e
  rw [if_pos rfl, if_pos rfl, if_pos rfl, ← hx, if_neg hx0]
  exact ⟨rfl, (ak.2 hx0).symm⟩
 ·have e3 : ¬ (j - a = k - a) := by omega
  simp only [e3, e, ax]
  exact h.at_ j j1 j2
theorem LQ.same {d : List Int} {s : List Bool} {D : Nat → Int} {a z : Nat} (h : LQ d s D a z) (b : Int → Int → Int) {k : Nat} {v : Int} (h1 : D k ≠ -1) (h2 : b (D k) v = D k) : LQ d s (ef b D k v) a z := by
 refine ⟨h.dl, h.sl, fun j j1 j2 => ?_⟩
 unfold ef
 by_cases e : j = k
 ·subst e
  rw [if_pos rfl, if_neg h1, h2]
  exact h.at_ j j1 j2
 ·rw [if_neg e]
  exact h.at_ j j1 j2
abbrev WR := (((List (Int × (Int × Int))) × (List Int) × Int × Int × Bool × Unit) × Unit) → Option Int
theorem SF (n : Nat) (x : Int) : ij n x = some (if 1048577 < x then 1048577 else x) := rfl
theorem WX (n : Nat) (W : WR) {l : List dc} {m h : List Int} (hF : Fine l m h) {Wp : Nat → Nat → Int} {a z : Nat} (hR : Reg l m a z) {i : Nat} (hi : a ≤ i) (hi2 : i < z) {most : Bool} (hW : de l i = 21 → W ((l, m, ((i + 1 : Nat) : Int), ((mN m i : Nat) : Int), most, ()), ()) = some (Wp (i + 1) (mN m i)) ∧ 0 ≤ Wp (i + 1) (mN m i) ∧ Wp (i + 1) (mN m i) ≤ 1048577) (d : List Int) (s : List Bool) (aa zz : Int) :
  EM n W l m aa zz most d s (i : Int) 1 [((i + 1 : Nat) : Int)] = some (l, m, aa, zz, most, d, s, (i : Int), eB Wp l m i, (rS l m i).map (fun (q : Nat) => (q : Int))) := by
 obtain ⟨l1, l2⟩ := hF.len
 have hlt := hR.lt
 have hr := hF.right (show i < l.length by omega)
 have hm := hF.nest.hm
 unfold EM eB rS de
 simp only [ah, dd (show i < 1000000 by omega), if_pos (cZ (show i < l.length by omega)), if_pos (cZ (show i < m.length by omega))]
 by_cases h19 : (l.getD i (0, 0, 0)).1 = 19
 ·rw [if_pos (show ((l.getD i (0, 0, 0)).1 == 19) = true by simpa only [ag] using h19), if_pos h19, if_neg (by omega), jQ (by omega) (show i < l.length by omega) hr (.inl h19)]
  rfl
 ·rw [if_neg (show ¬ ((l.getD i (0, 0, 0)).1 == 19) = true by simpa only [ag] using h19), if_neg h19]
  by_cases h20 : (l.getD i (0, 0, 0)).1 = 20
  ·rw [if_pos (show ((l.getD i (0, 0, 0)).1 == 20) = true by simpa only [ag] using h20), if_pos h20, if_neg (by omega), jQ (by omega) (show i < l.length by omega) hr (.inr h20)]
   rfl
  ·rw [if_neg (show ¬ ((l.getD i (0, 0, 0)).1 == 20) = true by simpa only [ag] using h20), if_neg h20]
   by_cases h21 : (l.getD i (0, 0, 0)).1 = 21
   ·rw [if_pos (show ((l.getD i (0, 0, 0)).1 == 21) = true by simpa only [ag] using h21), if_pos h21, if_pos h21]
    obtain ⟨w1, w2, w3⟩ := hW h21
    obtain ⟨j, j1, j2, j3⟩ := hR.loop i hi hi2 (isOpen_iff.2 (.inl h21))
    have hj : mN m i = j := by unfold mN; rw [j1]; rfl
    have hA : 1 ≤ dB l i ∧ dB l i ≤ 1000 := by
     unfold dB
     generalize l.getD i (0, 0, 0) = x at *
     obtain ⟨o, A, B⟩ := x
     simp only at h21
     subst h21
     exact t0 hr
    rw [hj] at w1 w2 w3 ⊢
    simp only [j1, w1, ab, dd (show j < 1000000 by omega)]
    generalize Wp (i + 1) j = w at w2 w3 ⊢
    rw [dn (e := w + 1) (by omega) (by omega)]
    unfold gR dt dB at *
    generalize (l.getD i (0, 0, 0)).2.1 = A at hA ⊢
    by_cases hw : w + 1 ≤ 1048576
    ·have hb : 0 ≤ A * (w + 1) ∧ A * (w + 1) ≤ 1000 * 1048577 := ⟨cw (by omega) (by omega), Int.mul_le_mul hA.2 (by omega) (by omega) (by decide)⟩
     rw [if_pos (af hw), dn (e := A * (w + 1)) (by omega) (by omega), dn (by omega) (by omega), SF, if_neg (show ¬ (1048577 < w + 1) by omega), if_neg (show ¬ (w + 1 = 1048577) by omega)]
     rfl
    ·have : w = 1048576 ∨ w = 1048577 := by omega
     rw [if_neg (by simpa using hw)]
     rcases this with rfl | rfl <;> rfl
   ·rw [if_neg (show ¬ ((l.getD i (0, 0, 0)).1 == 21) = true by simpa only [ag] using h21), if_neg h21, if_neg h21]
    rfl
theorem F5 : bI true = bM := rfl
theorem KZ : bI false = bL := rfl
theorem WY (n : Nat) (W : WR) {l : List dc} {m ks : List Int} {a z : Nat} (hz : z < 1000000) {i : Nat} (hi : a ≤ i) (hi2 : i < z) (most : Bool) {d : List Int} {s : List Bool} {D : Nat → Int} (hL : LQ d s D a z) (hD : ∀ k, StepsI (D k)) (hDi : D i ≠ -1) {c : Int} (hc : 0 ≤ c ∧ c ≤ 1048577) {k q : Nat} (hk : k < ks.length) (hk2 : k < 1000000) (hq : ks.getD k 0 = (q : Int)) (haq : a ≤ q) (hqz : q ≤ z) (zz : Int) :
  ∃ d' s', LQ d' s' (ef (bI most) D q (dt (D i) c)) a z ∧ EN n W l m (a : Int) zz most d s (i : Int) c ks (k : Int) = some (l, m, (a : Int), zz, most, d', s', (i : Int), c, ks, (k : Int)) := by
 have h1 := hL.dl
 have h2 := hL.sl
 have hDi2 : 0 ≤ D i ∧ D i ≤ 1048577 := by
  rcases hD i with h | h
  ·exact absurd h hDi
  ·exact h
 have hv := fF hDi2.1 hc.1
 have hati := (hL.at_ i hi (by omega)).1
 rw [if_neg hDi] at hati
 obtain ⟨g1, g2⟩ := hL.at_ q haq hqz
 unfold EN
 simp only [ah, if_pos (cZ hk), f0 hi (show i < 1000000 by omega), hati, hq, f0 haq (show q < 1000000 by omega), if_pos (cZ (show i - a < d.length by omega)), if_pos (cZ (show q - a < d.length by omega)), if_pos (cZ (show q - a < s.length by omega)), SF, ab, g1, g2]
 rw [dn (e := D i + c) (by omega) (by omega)]
 have hx : (if 1048577 < D i + c then 1048577 else D i + c) = dt (D i) c := rfl
 rw [hx]
 generalize dt (D i) c = v at hv ⊢
 by_cases hn : D q = -1
 ·refine ⟨_, _, hL.put (bI most) haq hqz (x := v) (by rw [if_pos hn]) (by omega), ?_⟩
  rw [if_pos (by rw [hn]; rfl)]
 ·rw [if_neg (show ¬ (!(D q != -1)) = true by rw [ak.2 hn]; decide), if_neg hn]
  cases most
  ·rw [if_neg (show ¬ false = true by decide), if_pos (show (!false) = true from rfl)]
   by_cases hg : v < D q
   ·refine ⟨_, _, hL.put (bI false) haq hqz (x := v) (by rw [if_neg hn, KZ]; unfold bL; rw [if_pos hg]) (by omega), ?_⟩
    rw [if_pos (af hg)]
   ·refine ⟨_, _, hL.same (bI false) hn (by rw [KZ]; unfold bL; rw [if_neg hg]), ?_⟩
    rw [if_neg (by simpa using hg)]
  ·rw [if_pos (show true = true from rfl), if_neg (show ¬ (!true) = true by decide)]
   by_cases hg : v > D q
   ·refine ⟨_, _, hL.put (bI true) haq hqz (x := v) (by rw [if_neg hn, F5]; unfold bM; rw [if_pos hg]) (by omega), ?_⟩
    rw [if_pos (af hg)]
   ·refine ⟨_, _, hL.same (bI true) hn (by rw [F5]; unfold bM; rw [if_neg hg]), ?_⟩
    rw [if_neg (by simpa using hg)]
theorem HT (n : Nat) (W : WR) {l : List dc} {m : List Int} {a z : Nat} (hz : z < 1000000) {i : Nat} (hi : a ≤ i) (hi2 : i < z) (most : Bool) {c : Int} (hc : 0 ≤ c ∧ c ≤ 1048577) {ks : List Nat} (hks : ∀ q ∈ ks, i < q ∧ q ≤ z) (hkl : ks.length < 1000) (zz : Int) {v : Int} : ∀ (fu k : Nat) {d : List Int} {s : List Bool} {D : Nat → Int}, LQ d s D a z → (∀ k, StepsI (D k)) → D i ≠ -1 → v = dt (D i) c → k ≤ ks.length → ks.length < fu + k → ∃ d' s', LQ d' s' ((ks.drop k).foldl (fun g q => ef (bI most) g q v) D) a z ∧
  it (fun F (x : (List (Int × (Int × Int))) × (List Int) × Int × Int × Bool × (List Int) × (List Bool) × Int × Int × (List Int) × Int) => tC n W F x.1 x.2.1 x.2.2.1 x.2.2.2.1 x.2.2.2.2.1 x.2.2.2.2.2.1 x.2.2.2.2.2.2.1 x.2.2.2.2.2.2.2.1 x.2.2.2.2.2.2.2.2.1 x.2.2.2.2.2.2.2.2.2.1 x.2.2.2.2.2.2.2.2.2.2) fu (l, m, (a : Int), zz, most, d, s, (i : Int), c, ks.map (fun (q : Nat) => (q : Int)), (k : Int)) = some (l, m, (a : Int), zz, most, d', s', (i : Int))
 | 0, k, d, s, D, hL, hD, hDi, hv, hk, hf => by omega
 | fu + 1, k, d, s, D, hL, hD, hDi, hv, hk, hf => by
  have ih := fun {d : List Int} {s : List Bool} {D : Nat → Int} => HT n W (l := l) (m := m) hz hi hi2 most hc hks hkl zz (v := v) fu (k + 1) (d := d) (s := s) (D := D)
  show ∃ d' s', _ ∧ tC n W (it _ fu) l m (a : Int) zz most d s (i : Int) c (ks.map (fun (q : Nat) => (q : Int))) (k : Int) = _
  generalize it (fun F (x : (List (Int × (Int × Int))) × (List Int) × Int × Int × Bool × (List Int) × (List Bool) × Int × Int × (List Int) × Int) => tC n W F x.1 x.2.1 x.2.2.1 x.2.2.2.1 x.2.2.2.2.1 x.2.2.2.2.2.1 x.2.2.2.2.2.2.1 x.2.2.2.2.2.2.2.1 x.2.2.2.2.2.2.2.2.1 x.2.2.2.2.2.2.2.2.2.1 x.2.2.2.2.2.2.2.2.2.2) fu = F at ih ⊢
  unfold tC
  rcases aj k ks.length with hlt | hge
  ·have hd : ks.drop k = ks[k] :: ks.drop (k + 1) := bO hlt
   have hg : (ks.map (fun (q : Nat) => (q : Int))).getD k 0 = ((ks[k] : Nat) : Int) := by
    rw [ao, bs, au hlt]
    rfl
   have hq := hks _ (aL hlt)
   rw [hd, List.foldl_cons]
   generalize ks[k] = q at hg hq ⊢
   obtain ⟨d1, s1, k1, k2⟩ := WY n W (l := l) (m := m) hz hi hi2 most hL hD hDi hc (k := k) (q := q) (by rw [aO]; exact hlt) (by omega) hg (by omega) hq.2 zz
   have hDi2 : 0 ≤ D i := by
    rcases hD i with h | h
    ·exact absurd h hDi
    ·exact h.1
   have same : ef (bI most) D q (dt (D i) c) i = D i := by
    unfold ef
    rw [if_neg (by omega)]
   rw [if_pos (af (by rw [aO]; omega)), k2, ab]
   simp only
   rw [dd (by omega), hv]
   rw [hv] at ih
   exact ih k1 (pZ (Ai most) hD q (fF hDi2 hc.1)) (by rw [same]; exact hDi) (by rw [same]) (by omega) (by omega)
  ·have : k = ks.length := by omega
   subst this
   rw [if_neg (by simp), aD]
   exact ⟨d, s, hL, rfl⟩
theorem Nw (n : Nat) (hn : 3 < n) (W : WR) {l : List dc} {m h : List Int} (hF : Fine l m h) {Wp : Nat → Nat → Int} {a z : Nat} (hR : Reg l m a z) (most : Bool) (hW : ∀ i, a ≤ i → i < z → de l i = 21 → W ((l, m, ((i + 1 : Nat) : Int), ((mN m i : Nat) : Int), most, ()), ()) = some (Wp (i + 1) (mN m i)) ∧ 0 ≤ Wp (i + 1) (mN m i) ∧ Wp (i + 1) (mN m i) ≤ 1048577) : ∀ (f i : Nat) {d : List Int} {s : List Bool} {D : Nat → Int}, LQ d s D a z → (∀ k, StepsI (D k)) → a ≤ i → i ≤ z → z < f + i → ∃ d' s', LQ d' s' (eI (bI most) Wp l m (z - i) i D) a z ∧
  it (fun F (x : (List (Int × (Int × Int))) × (List Int) × Int × Int × Bool × (List Int) × (List Bool) × Int) => tD n W F x.1 x.2.1 x.2.2.1 x.2.2.2.1 x.2.2.2.2.1 x.2.2.2.2.2.1 x.2.2.2.2.2.2.1 x.2.2.2.2.2.2.2) f (l, m, (a : Int), (z : Int), most, d, s, (i : Int)) = some ((a : Int), (z : Int), d')
 | 0, i, d, s, D, hL, hD, h1, h2, hf => by omega
 | f + 1, i, d, s, D, hL, hD, h1, h2, hf => by
  have ih := fun {d : List Int} {s : List Bool} {D : Nat → Int} => Nw n hn W hF hR most hW f (i + 1) (d := d) (s := s) (D := D)
  show ∃ d' s', _ ∧ tD n W (it _ f) l m (a : Int) (z : Int) most d s (i : Int) = _
  generalize it (fun F (x : (List (Int × (Int × Int))) × (List Int) × Int × Int × Bool × (List Int) × (List Bool) × Int) => tD n W F x.1 x.2.1 x.2.2.1 x.2.2.2.1 x.2.2.2.2.1 x.2.2.2.2.2.1 x.2.2.2.2.2.2.1 x.2.2.2.2.2.2.2) f = F at ih ⊢
  obtain ⟨l1, l2⟩ := hF.len
  have hlt := hR.lt
  have hsl := hL.sl
  unfold tD
  rcases aj i z with hiz | hge
  ·have hat := (hL.at_ i h1 (by omega)).2
   have hWi : de l i = 21 → StepsI (Wp (i + 1) (mN m i)) := fun h => .inr (hW i h1 hiz h).2
   have hD' := gn (Ai most) hD (hF.right (show i < l.length by omega)) hWi
   rw [if_pos (af (by omega))]
   simp only [f0 h1 (show i < 1000000 by omega), ah, if_pos (cZ (show i - a < s.length by omega)), hat, dd (show i < 1000000 by omega)]
   rw [show z - i = (z - (i + 1)) + 1 by omega]
   by_cases hn1 : D i = -1
   ·have e : eI (bI most) Wp l m (z - (i + 1) + 1) i D = eI (bI most) Wp l m (z - (i + 1)) (i + 1) D := by
     show eI (bI most) Wp l m (z - (i + 1)) (i + 1) (er (bI most) Wp l m i D) = _
     unfold er
     rw [if_pos hn1]
    rw [if_pos (by rw [hn1]; rfl), e]
    exact ih hL hD (by omega) (by omega) (by omega)
   ·rw [if_neg (by rw [ak.2 hn1]; decide), WX n W hF hR h1 hiz (hW i h1 hiz) d s (a : Int) (z : Int), ab]
    have hc := iQ (hF.right (show i < l.length by omega)) hWi
    obtain ⟨d1, s1, k1, k2⟩ := HT n W (l := l) (m := m) (by omega) h1 hiz most hc (VS hR h1 hiz) (by have := HQ l m i; omega) (z : Int) n 0 hL hD hn1 rfl (ai _) (by have := HQ l m i; omega)
    rw [show ((0 : Nat) : Int) = 0 from rfl] at k2
    unfold C5
    simp only
    rw [k2, ab]
    simp only
    rw [dd (by omega)]
    rw [aT, VQ] at k1
    have e : (eS l m i).foldl (fun g k => ef (bI most) g k (dt (D i) (eB Wp l m i))) D = er (bI most) Wp l m i D := by
     unfold er
     rw [if_neg hn1]
    rw [e] at k1
    exact ih k1 hD' (by omega) (by omega) (by omega)
  ·have : i = z := by omega
   subst this
   rw [if_neg (by simp), aU]
   exact ⟨d, s, hL, rfl⟩
theorem abP (n : Nat) (hn3 : 3 < n) (W : WR) {l : List dc} {m h : List Int} (hF : Fine l m h) (hn : l.length < n) {Wp : Nat → Nat → Int} {a z : Nat} (hR : Reg l m a z) (most : Bool) (hW : ∀ i, a ≤ i → i < z → de l i = 21 → W ((l, m, ((i + 1 : Nat) : Int), ((mN m i : Nat) : Int), most, ()), ()) = some (Wp (i + 1) (mN m i)) ∧ 0 ≤ Wp (i + 1) (mN m i) ∧ Wp (i + 1) (mN m i) ≤ 1048577) (hend : eI (bI most) Wp l m (z - a) a (eY a) z ≠ -1) :
  u4 n W l m (a : Int) (z : Int) most = some (eI (bI most) Wp l m (z - a) a (eY a) z) := by
 obtain ⟨l1, l2⟩ := hF.len
 have hle := hR.le
 have hlt := hR.lt
 unfold u4 C6
 have c1 : (decide (0 ≤ ((z - a + 1 : Nat) : Int)) && (((z - a + 1 : Nat) : Int) == ((z - a + 1 : Nat) : Int)) && decide (((z - a + 1 : Nat) : Int) * (8 : Int) ≤ 140737488355328) && decide (1 ≤ 8)) = true := by simp; omega
 have c2 : (decide (0 ≤ ((z - a + 1 : Nat) : Int)) && (((z - a + 1 : Nat) : Int) == ((z - a + 1 : Nat) : Int)) && decide (((z - a + 1 : Nat) : Int) * (1 : Int) ≤ 140737488355328) && decide (1 ≤ 1)) = true := by simp; omega
 simp only [F4 hle (show z < 1000000 by omega), ah, bp]
 rw [if_pos c1, if_pos c2, if_pos (by simp)]
 have h0 : LQ (List.replicate (z - a + 1) 0) ((List.replicate (z - a + 1) false).set 0 true) (eY a) a z := by
  refine ⟨by simp, by simp, fun k k1 k2 => ?_⟩
  rw [HS (by simp)]
  unfold eY
  simp only [ao, bV]
  have h3 : k - a < z - a + 1 := by omega
  by_cases e : k = a
  ·subst e
   simp
  ·have e3 : ¬ (k - a = 0) := by omega
   simp [h3, e3, e]
 obtain ⟨d', s', k1, k2⟩ := Nw n hn3 W hF hR most hW n a h0 (gV a) (ar _) hle (by omega)
 rw [k2, ab]
 simp only [f0 hle (show z < 1000000 by omega), ah]
 rw [if_pos (cZ (by rw [k1.dl]; omega)), (k1.at_ z hle (ar _)).1, if_neg hend]
theorem SG (n : Nat) (hn3 : 3 < n) {l : List dc} {m h : List Int} (hF : Fine l m h) (hS : sq l) (hn : l.length < n) (most : Bool) : ∀ (g : Nat) {a z : Nat}, Way l m a z → z - a < g →
  it (fun (W : WR) x => u4 n W x.1.1 x.1.2.1 x.1.2.2.1 x.1.2.2.2.1 x.1.2.2.2.2.1) g ((l, m, (a : Int), (z : Int), most, ()), ()) = some (d7 (bI most) l m g a z)
 | 0, a, z, hR, hg => by omega
 | g + 1, a, z, hR, hg => by
  have hlt := hR.reg.lt
  have ih := fun {a z : Nat} => SG n hn3 hF hS hn most g (a := a) (z := z)
  show u4 n (it _ g) l m (a : Int) (z : Int) most = _
  refine abP n hn3 _ hF hn hR.reg most (fun i h1 h2 h3 => ?_) (fun h => ?_)
  ·have ho := isOpen_iff.2 (Or.inl (b := de l i = 23) h3)
   have hRi := hF.way (show i < l.length by omega) ho
   obtain ⟨j, j1, j2, j3⟩ := hR.reg.loop i h1 h2 ho
   have hj : mN m i = j := by unfold mN; rw [j1]; rfl
   exact ⟨ih hRi (by omega), gW (Ai most) hF hS g hRi⟩
  ·have := (gW (Ai most) hF hS (g + 1) hR).1
   rw [show d7 (bI most) l m (g + 1) a z = eI (bI most) (d7 (bI most) l m g) l m (z - a) a (eY a) z from rfl, h] at this
   omega
theorem EX (n : Nat) (hn3 : 3 < n) {l : List dc} {m h : List Int} (hF : Fine l m h) (hS : sq l) (hn : l.length < n) (most : Bool) {a z : Nat} (hR : Way l m a z) : I5 n l m (a : Int) (z : Int) most = some (d7 (bI most) l m n a z) := by
 have := hR.reg.lt
 exact SG n hn3 hF hS hn most n hR (by omega)
def eJ (b : Int → Int → Int) (n : Nat) (l : List dc) : Int × Int :=
 if d5 l ≠ 0 then (0, d5 l) else if fe l ≠ 0 then (0, fe l)
 else if dt (d7 b l (du l).1 n 0 (l.length - 1)) 1 = 1048577 then (0, 4) else (dt (d7 b l (du l).1 n 0 (l.length - 1)) 1, 0)
theorem gq {l : List dc} (h : d5 l = 0) : eK l = 0 := by
 unfold d5 at h
 split at h
 ·exact h
 ·rename_i h1
  by_cases e : eK l = 0
  ·exact e
  ·exact absurd e h1
theorem F6 {k : Nat} (h : 0 < k) (h2 : k < 1000000) : wrap .i64 ((k : Int) - 1) = ((k - 1 : Nat) : Int) := pY h h2
theorem OV (n : Nat) (l : List dc) (hl : l.length < n) (hn3 : 3 < n) (hn : n < 1000000) : jW n l = some (eJ bM n l) := by
 obtain ⟨o1, h1⟩ := KO n l hl hn
 obtain ⟨o2, h2⟩ := HL n l hl hn3 hn
 unfold jW eJ
 rw [h1, ab]
 by_cases hk : d5 l = 0
 ·have hw := gq hk
  have hs := iI hw
  have hF := js hw
  obtain ⟨l1, l2⟩ := hF.len
  rw [if_neg (fun h => (ak.1 h) hk), if_neg (show ¬ (d5 l ≠ 0) from fun h => h hk), h2, ab]
  by_cases ht : fe l = 0
  ·have hS := (t8 ht).2
   rw [if_neg (fun h => (ak.1 h) ht), if_neg (show ¬ (fe l ≠ 0) from fun h => h ht), Dl n l hl hn, ab]
   simp only
   have hwy := gW eQ hF hS n hF.wayAll
   have hw1 := WV n hF hl hF.all
   rw [show ((0 : Nat) : Int) = 0 from rfl] at hw1
   rw [if_neg (fun h => (ak.1 h) hs), F6 l1 (by omega), hw1, ab, jt n (by omega) hwy.2 (by decide) (by decide), ab]
   generalize dt (d7 bM l (du l).1 n 0 (l.length - 1)) 1 = w
   by_cases e : w = 1048577
   ·rw [if_pos e, if_pos (by simpa only [ag] using e)]
   ·rw [if_neg e, if_neg (by simpa only [ag] using e)]
  ·rw [if_pos (show (fe l != 0) = true from ak.2 ht), if_pos (show (fe l != 0) = true from ak.2 ht), if_pos ht]
 ·rw [if_pos (show (d5 l != 0) = true from ak.2 hk), if_pos (show (d5 l != 0) = true from ak.2 hk), if_pos hk]
theorem Dn (n : Nat) (l : List dc) (hl : l.length < n) (hn3 : 3 < n) (hn : n < 1000000) : gz n l = some (eJ bM n l) := by
 unfold gz
 rw [OV n l hl hn3 hn]
 rfl
theorem OW (n : Nat) (l : List dc) (hi : InR l) (hl : l.length < n) (hn3 : 3 < n) (hn : n < 1000000) (most : Bool) : ik n l most = some (eJ (bI most) n l) := by
 obtain ⟨o1, h1⟩ := KP n l hi hl hn
 obtain ⟨o2, h2⟩ := IB n l hi hl hn3 hn
 unfold ik jS eJ
 rw [h1, ab]
 by_cases hk : d5 l = 0
 ·have hw := gq hk
  have hs := iI hw
  have hF := js hw
  obtain ⟨l1, l2⟩ := hF.len
  rw [if_neg (fun h => (ak.1 h) hk), if_neg (show ¬ (d5 l ≠ 0) from fun h => h hk), h2, ab, ab]
  by_cases ht : fe l = 0
  ·have hS := (t8 ht).2
   rw [if_neg (fun h => (ak.1 h) ht), if_neg (show ¬ (fe l ≠ 0) from fun h => h ht), kw n l hi hl hn, ab]
   simp only
   have hwy := gW (Ai most) hF hS n hF.wayAll
   have hw1 := EX n hn3 hF hS hl most hF.wayAll
   rw [show ((0 : Nat) : Int) = 0 from rfl] at hw1
   rw [F6 l1 (by omega), hw1, ab]
   generalize d7 (bI most) l (du l).1 n 0 (l.length - 1) = w at hwy
   rw [dn (by omega) (by omega)]
   unfold dt
   by_cases e : w + 1 > 1048576
   ·rw [if_pos (af e), if_pos (by omega)]
   ·rw [if_neg (by simpa using e), if_neg (by omega), if_neg (by omega)]
  ·rw [if_pos (show (fe l != 0) = true from ak.2 ht), if_pos ht]
 ·rw [if_pos (show (d5 l != 0) = true from ak.2 hk), if_pos hk, ab, if_pos (show (d5 l != 0) = true from ak.2 hk)]
theorem qO (n : Nat) (l : List dc) (hi : InR l) (hl : l.length < n) (hn3 : 3 < n) (hn : n < 1000000) : eo n l = some (eJ bM n l) := by
 unfold eo
 rw [OW n l hi hl hn3 hn true]
 rfl
def gt (l : List dc) (m : List Int) (n : Nat) : Nat → Nat → List (Int × Int)
 | 0, _ => []
 | r + 1, i => (if de l i = 23 then [(dB l i, d7 bM l m n (i + 1) (mN m i) + 1)] else []) ++ gt l m n r (i + 1)
def jX (n : Nat) (l : List dc) : List (Int × Int) × Int := if (eJ bM n l).2 ≠ 0 then ([], (eJ bM n l).2) else (gt l (du l).1 n l.length 0, 0)
theorem HU (n : Nat) {l : List dc} {m h : List Int} (hF : Fine l m h) (hn : l.length < n) : ∀ (f i : Nat) {o : List (Int × Int)}, o.length ≤ i → i ≤ l.length → l.length < f + i →
  it (fun F => (dy q_) (gi n F)) f (o, l, (l.length : Int), (i : Int), l, m) = some (o ++ gt l m n (l.length - i) i, l, m)
 | 0, i, o, ho, hi, hf => by omega
 | f + 1, i, o, ho, hi, hf => by
  have ih := fun {o : List (Int × Int)} => HU n hF hn f (i + 1) (o := o)
  show gi n (it _ f) o l (l.length : Int) (i : Int) l m = _
  generalize it (fun F => (dy q_) (gi n F)) f = F at ih ⊢
  obtain ⟨l1, l2⟩ := hF.len
  unfold gi
  rcases aj i l.length with hlt | hge
  ·rw [if_pos (af (by omega)), if_pos (cZ hlt), ah, dd (by omega), show l.length - i = (l.length - (i + 1)) + 1 by omega]
   rw [show gt l m n (l.length - (i + 1) + 1) i = (if de l i = 23 then [(dB l i, d7 bM l m n (i + 1) (mN m i) + 1)] else []) ++ gt l m n (l.length - (i + 1)) (i + 1) from rfl]
   by_cases h23 : (l.getD i (0, 0, 0)).1 = 23
   ·rw [if_pos (show ((l.getD i (0, 0, 0)).1 == 23) = true by simpa only [ag] using h23), if_pos (show de l i = 23 from h23), if_pos (cZ (by rw [hF.nest.hm]; exact hlt))]
    have ho2 : dw l i = true := isOpen_iff.2 (.inr h23)
    obtain ⟨j, j1, j2, j3⟩ := hF.nest.open_ i hlt ho2
    have hj : mN m i = j := by unfold mN; rw [j1]; rfl
    have hR := hF.reg hlt ho2
    rw [hj] at hR ⊢
    have hwy := kL eQ hF n hR
    rw [j1, WW n hF hn hR, ab, if_pos (by simp; omega)]
    have hwr : wrap .i64 (d7 bM l m n (i + 1) j + 1) = d7 bM l m n (i + 1) j + 1 := by
     rcases hwy with h | h
     ·rw [h]; rfl
     ·exact dn (by omega) (by omega)
    rw [hwr, ih (by simp; omega) (by omega) (by omega), aQ]
   ·rw [if_neg (show ¬ ((l.getD i (0, 0, 0)).1 == 23) = true by simpa only [ag] using h23), if_neg (show ¬ de l i = 23 from h23), ih (by omega) (by omega) (by omega), bn]
  ·have : i = l.length := by omega
   subst this
   rw [if_neg (by simp), aU]
   simp [gt]
theorem nY {b : Int → Int → Int} {n : Nat} {l : List dc} (h : (eJ b n l).2 = 0) : d5 l = 0 ∧ fe l = 0 := by
 unfold eJ at h
 by_cases h1 : d5 l = 0
 ·rw [if_neg (show ¬ (d5 l ≠ 0) from fun h => h h1)] at h
  by_cases h2 : fe l = 0
  ·exact ⟨h1, h2⟩
  ·rw [if_pos h2] at h
   exact absurd h h2
 ·rw [if_pos h1] at h
  exact absurd h h1
theorem LW (n : Nat) (l : List dc) (hl : l.length < n) (hn3 : 3 < n) (hn : n < 1000000) : iD n l = some (jX n l) := by
 unfold iD jX
 rw [Dn n l hl hn3 hn, ab]
 by_cases h0 : (eJ bM n l).2 = 0
 ·obtain ⟨hk, ht⟩ := nY h0
  obtain ⟨o1, h1⟩ := KO n l hl hn
  obtain ⟨o2, h2⟩ := HL n l hl hn3 hn
  have hF := js (gq hk)
  have hlp := HU n hF hl n 0 (o := []) (ai _) (ai _) (by omega)
  rw [show ((0 : Nat) : Int) = 0 from rfl, aV] at hlp
  unfold ki
  rw [if_neg (fun h => (ak.1 h) h0), if_neg (show ¬ ((eJ bM n l).2 ≠ 0) from fun h => h h0), h1, ab, if_neg (fun h => (ak.1 h) hk), h2, ab, if_neg (fun h => (ak.1 h) ht), Dl n l hl hn, ab]
  simp only
  rw [hlp, ab, bn]
 ·rw [if_pos (ak.2 h0), if_pos h0]
theorem Aj (n : Nat) (hn3 : 3 < n) {l : List dc} {m h : List Int} (hF : Fine l m h) (hS : sq l) (hn : l.length < n) : ∀ (f i : Nat) {o : List (Int × Int)}, o.length ≤ i → i ≤ l.length → l.length < f + i →
  it (fun F => (dk q_) (pW n F)) f (l, m, o, (i : Int)) = some (o ++ gt l m n (l.length - i) i)
 | 0, i, o, ho, hi, hf => by omega
 | f + 1, i, o, ho, hi, hf => by
  have ih := fun {o : List (Int × Int)} => Aj n hn3 hF hS hn f (i + 1) (o := o)
  show pW n (it _ f) l m o (i : Int) = _
  generalize it (fun F => (dk q_) (pW n F)) f = F at ih ⊢
  obtain ⟨l1, l2⟩ := hF.len
  unfold pW
  rcases aj i l.length with hlt | hge
  ·rw [if_pos (af (by omega)), if_pos (cZ hlt), ah, dd (by omega), show l.length - i = (l.length - (i + 1)) + 1 by omega]
   rw [show gt l m n (l.length - (i + 1) + 1) i = (if de l i = 23 then [(dB l i, d7 bM l m n (i + 1) (mN m i) + 1)] else []) ++ gt l m n (l.length - (i + 1)) (i + 1) from rfl]
   by_cases h23 : (l.getD i (0, 0, 0)).1 = 23
   ·rw [if_pos (show ((l.getD i (0, 0, 0)).1 == 23) = true by simpa only [ag] using h23), if_pos (show de l i = 23 from h23), if_pos (cZ hlt), if_pos (cZ (by rw [hF.nest.hm]; exact hlt))]
    have ho2 : dw l i = true := isOpen_iff.2 (.inr h23)
    obtain ⟨j, j1, j2, j3⟩ := hF.nest.open_ i hlt ho2
    have hj : mN m i = j := by unfold mN; rw [j1]; rfl
    have hR := hF.way hlt ho2
    rw [hj] at hR ⊢
    have hwy := gW eQ hF hS n hR
    rw [j1, EX n hn3 hF hS hn true hR, ab, if_pos (by simp; omega), F5, dn (e := d7 bM l m n (i + 1) j + 1) (by omega) (by omega), ih (by simp; omega) (by omega) (by omega), aQ]
   ·rw [if_neg (show ¬ ((l.getD i (0, 0, 0)).1 == 23) = true by simpa only [ag] using h23), if_neg (show ¬ de l i = 23 from h23), ih (by omega) (by omega) (by omega), bn]
  ·have : i = l.length := by omega
   subst this
   rw [if_neg (by simp), aU]
   simp [gt]
theorem EY (n : Nat) (l : List dc) (hi : InR l) (hl : l.length < n) (hn3 : 3 < n) (hn : n < 1000000) : zn n l = some (jX n l) := by
 unfold zn jX
 rw [qO n l hi hl hn3 hn, ab]
 by_cases h0 : (eJ bM n l).2 = 0
 ·obtain ⟨hk, ht⟩ := nY h0
  have hF := js (gq hk)
  have hlp := Aj n hn3 hF (t8 ht).2 hl n 0 (o := []) (ai _) (ai _) (by omega)
  rw [show ((0 : Nat) : Int) = 0 from rfl, aV] at hlp
  unfold zm
  rw [if_neg (fun h => (ak.1 h) h0), if_neg (show ¬ ((eJ bM n l).2 ≠ 0) from fun h => h h0), kw n l hi hl hn, ab]
  simp only
  rw [hlp, ab, bn]
 ·rw [if_pos (ak.2 h0), if_pos h0]
theorem WZ {D : Nat → Int} {k : Nat} {v : Int} (hv : 0 ≤ v) (hD : StepsI (D k)) : ∀ j, D j ≤ ef bM D k v j := fun j => by
 unfold ef
 by_cases e : j = k
 ·subst e
  rw [if_pos rfl]
  split
  ·omega
  ·unfold bM; split <;> omega
 ·rw [if_neg e]; omega
theorem W1 {D : Nat → Int} {k : Nat} {v : Int} (hv : 0 ≤ v) : v ≤ ef bM D k v k := by
 unfold ef
 rw [if_pos rfl]
 split
 ·omega
 ·unfold bM; split <;> omega
theorem K0 {v : Int} (hv : 0 ≤ v ∧ v ≤ 1048577) : ∀ (ks : List Nat) {D : Nat → Int}, (∀ k, StepsI (D k)) → (∀ j, D j ≤ ks.foldl (fun g k => ef bM g k v) D j) ∧ ∀ j ∈ ks, v ≤ ks.foldl (fun g k => ef bM g k v) D j
 | [], D, hD => ⟨fun j => bm _, fun j hj => by cases hj⟩
 | q :: ks, D, hD => by
  obtain ⟨h1, h2⟩ := K0 hv ks (D := ef bM D q v) (pZ eQ hD q hv)
  refine ⟨fun j => b8 (WZ hv.1 (hD q) j) (h1 j), fun j hj => ?_⟩
  rcases aB.1 hj with e | e
  ·subst e
   exact b8 (W1 hv.1) (h1 j)
  ·exact h2 j e
theorem StepsI.nn {v : Int} (h : StepsI v) (h1 : v ≠ -1) : 0 ≤ v ∧ v ≤ 1048577 := h.elim (fun h => absurd h h1) id
theorem qP {W : Nat → Nat → Int} {l : List dc} {m : List Int} {i : Nat} {D : Nat → Int} (hD : ∀ k, StepsI (D k)) (hr : dz (l.getD i (0, 0, 0)) = true) (hW : de l i = 21 → StepsI (W (i + 1) (mN m i))) : (∀ j, D j ≤ er bM W l m i D j) ∧ (D i ≠ -1 → ∀ j ∈ eS l m i, dt (D i) (eB W l m i) ≤ er bM W l m i D j) := by
 unfold er
 by_cases e : D i = -1
 ·rw [if_pos e]
  exact ⟨fun j => bm _, fun h => absurd e h⟩
 ·rw [if_neg e]
  obtain ⟨h1, h2⟩ := K0 (fF ((hD i).nn e).1 (iQ hr hW).1) (eS l m i) hD
  exact ⟨h1, fun _ => h2⟩
theorem F7 {a b c d : Int} (h : a ≤ b) (k : c ≤ d) : dt a c ≤ dt b d := by unfold dt; split <;> split <;> omega
theorem SH {a b : Int} (ha : a ≤ 1048577) (hb : 0 ≤ b) : a ≤ dt a b := by unfold dt; split <;> omega
theorem OX {a b c : Int} (ha : 0 ≤ a) (hb : 0 ≤ b) (hc : 0 ≤ c) : dt (dt a b) c = dt a (dt b c) := by unfold dt; split <;> split <;> split <;> (try split) <;> omega
theorem Reg.hop {l : List dc} {m : List Int} {a z : Nat} (hR : Reg l m a z) {i : Nat} (h1 : a ≤ i) (h2 : i < z) : eS l m i ≠ [] ∧ ∀ k ∈ eS l m i, i < k ∧ k ≤ z := by
 unfold eS
 by_cases h21 : de l i = 21
 ·rw [if_pos h21]
  obtain ⟨j, j1, j2, j3⟩ := hR.loop i h1 h2 (isOpen_iff.2 (.inl h21))
  refine ⟨by simp, fun k hk => ?_⟩
  have : k = mN m i + 1 := by simpa using hk
  unfold mN at this
  rw [j1] at this
  simp at this
  omega
 ·rw [if_neg h21]
  by_cases h19 : de l i = 19
  ·rw [if_pos h19]
   have := hR.jump i h1 h2 (.inl h19)
   refine ⟨by simp, fun k hk => ?_⟩
   have e : k = dp l i := by simpa using hk
   subst e
   refine ⟨?_, this⟩
   unfold dp
   omega
  ·rw [if_neg h19]
   by_cases h20 : de l i = 20
   ·rw [if_pos h20]
    have := hR.jump i h1 h2 (.inr h20)
    refine ⟨by simp, fun k hk => ?_⟩
    have e : k = dp l i ∨ k = i + 1 := by simpa using hk
    rcases e with e | e
    ·subst e
     refine ⟨?_, this⟩
     unfold dp
     omega
    ·omega
   ·rw [if_neg h20]
    exact ⟨by simp, fun k hk => by
     have e : k = i + 1 := by simpa using hk
     omega⟩
theorem vf {b : Int → Int → Int} {W : Nat → Nat → Int} {l : List dc} {m : List Int} : ∀ (r s i : Nat) (D : Nat → Int), eI b W l m (r + s) i D = eI b W l m s (i + r) (eI b W l m r i D)
 | 0, s, i, D => by rw [cf]; rfl
 | r + 1, s, i, D => by
  rw [show r + 1 + s = (r + s) + 1 by omega]
  show eI b W l m (r + s) (i + 1) _ = eI b W l m s (i + (r + 1)) (eI b W l m r (i + 1) _)
  rw [vf r s (i + 1), show i + 1 + r = i + (r + 1) by omega]
theorem K1 {W : Nat → Nat → Int} {l : List dc} {m : List Int} (hr : ∀ i, i < l.length → dz (l.getD i (0, 0, 0)) = true) {a z : Nat} (hR : Reg l m a z) (hW : ∀ i, a ≤ i → i < z → de l i = 21 → StepsI (W (i + 1) (mN m i))) {c : Int} (hc : 0 ≤ c) : ∀ (r i : Nat) {D : Nat → Int}, (∀ k, StepsI (D k)) → a ≤ i → i + r = z → (∃ k, i ≤ k ∧ k ≤ z ∧ c ≤ D k) → c ≤ eI bM W l m r i D z
 | 0, i, D, hD, hi, hz, ⟨k, k1, k2, k3⟩ => by
  have : k = z := by omega
  subst this
  exact k3
 | r + 1, i, D, hD, hi, hz, ⟨k, k1, k2, k3⟩ => by
  have hlt := hR.lt
  have hWi := hW i hi (by omega)
  have hri := hr i (by omega)
  obtain ⟨s1, s2⟩ := qP hD hri hWi
  refine K1 hr hR hW hc r (i + 1) (gn eQ hD hri hWi) (by omega) (by omega) ?_
  by_cases e : k = i
  ·subst e
   have hDk : D k ≠ -1 := by omega
   obtain ⟨n1, n2⟩ := hR.hop hi (by omega)
   obtain ⟨q, qs, hq⟩ := List.exists_cons_of_ne_nil n1
   have hqm : q ∈ eS l m k := by rw [hq]; exact aF ..
   obtain ⟨q1, q2⟩ := n2 q hqm
   refine ⟨q, by omega, q2, ?_⟩
   have := s2 hDk q hqm
   have h3 := SH ((hD k).nn hDk).2 (iQ hri hWi).1
   omega
  ·exact ⟨k, by omega, k2, b8 k3 (s1 k)⟩
theorem Nx {W : Nat → Nat → Int} {l : List dc} {m : List Int} (hr : ∀ i, i < l.length → dz (l.getD i (0, 0, 0)) = true) {c : Int} (hc : 0 ≤ c ∧ c ≤ 1048577) : ∀ (r i : Nat) {D D0 : Nat → Int}, (∀ k, StepsI (D k)) → (∀ k, StepsI (D0 k)) → r + i ≤ l.length → (∀ k, i ≤ k → k < r + i → de l k = 21 → StepsI (W (k + 1) (mN m k))) → (∀ j, i ≤ j → D0 j ≠ -1 → dt c (D0 j) ≤ D j) → ∀ j, i + r ≤ j → eI bM W l m r i D0 j ≠ -1 → dt c (eI bM W l m r i D0 j) ≤ eI bM W l m r i D j
 | 0, i, D, D0, hD, hD0, hl, hW, h, j, hj, hn => h j hj hn
 | r + 1, i, D, D0, hD, hD0, hl, hW, h, j, hj, hn => by
  have hWi := hW i (ar _) (by omega)
  have hri := hr i (by omega)
  have hco := iQ hri hWi
  obtain ⟨s1, s2⟩ := qP hD hri hWi
  refine Nx hr hc r (i + 1) (gn eQ hD hri hWi) (gn eQ hD0 hri hWi) (by omega) (fun k h1 h2 => hW k (by omega) (by omega)) (fun q hq hq2 => ?_) j (by omega) hn
  by_cases e : D0 i = -1
  ·have e2 : er bM W l m i D0 = D0 := by unfold er; rw [if_pos e]
   rw [e2] at hq2 ⊢
   exact b8 (h q (by omega) hq2) (s1 q)
  ·have hi := h i (ar _) e
   have hD0i := (hD0 i).nn e
   have hci := fF hc.1 hD0i.1
   have hDi : D i ≠ -1 := by omega
   have hDi2 := (hD i).nn hDi
   have s2 := s2 hDi
   have hv : dt c (dt (D0 i) (eB W l m i)) ≤ dt (D i) (eB W l m i) := by
    rw [← OX hc.1 hD0i.1 hco.1]
    exact F7 hi (bm _)
   have key : ∀ (ks : List Nat) {E : Nat → Int}, (∀ k, StepsI (E k)) → (∀ k ∈ ks, k ∈ eS l m i) → (∀ k, i + 1 ≤ k → E k ≠ -1 → dt c (E k) ≤ er bM W l m i D k) → ∀ k, i + 1 ≤ k → ks.foldl (fun g k => ef bM g k (dt (D0 i) (eB W l m i))) E k ≠ -1 → dt c (ks.foldl (fun g k => ef bM g k (dt (D0 i) (eB W l m i))) E k) ≤ er bM W l m i D k := by
    intro ks
    induction ks with
    | nil => intro E hE hk h0 k hk2 hn; exact h0 k hk2 hn
    | cons q ks ih =>
     intro E hE hk h0
     refine ih (pZ eQ hE q (fF hD0i.1 hco.1)) (fun k h => hk k (aC _ h)) (fun k hk2 hn => ?_)
     show dt c (ef bM E q (dt (D0 i) (eB W l m i)) k) ≤ _
     replace hn : ef bM E q (dt (D0 i) (eB W l m i)) k ≠ -1 := hn
     by_cases ek : k = q
     ·subst ek
      have h1 := s2 k (hk k (aF ..))
      unfold ef at hn ⊢
      rw [if_pos rfl] at hn ⊢
      by_cases eE : E k = -1
      ·rw [if_pos eE]
       exact b8 hv h1
      ·rw [if_neg eE]
       have h2 := h0 k hk2 eE
       unfold bM
       split
       ·exact b8 hv h1
       ·exact h2
     ·unfold ef at hn ⊢
      rw [if_neg ek] at hn ⊢
      exact h0 k hk2 hn
   have e2 : er bM W l m i D0 = (eS l m i).foldl (fun g k => ef bM g k (dt (D0 i) (eB W l m i))) D0 := by unfold er; rw [if_neg e]
   rw [e2] at hq2 ⊢
   exact key (eS l m i) hD0 (fun k h => h) (fun k hk hn => b8 (h k (by omega) hn) (s1 k)) q hq hq2
theorem K3 {l : List dc} {m h : List Int} (hF : Fine l m h) (hC : Closed l m) (hS : sq l) {n : Nat} (hn : l.length < n) {a z : Nat} (hR : Way l m a z) {q : Nat} (hq : t9 l m a z q) (hqz : q < z) (ho : de l q = 23) : dt 2 (d7 bM l m n (q + 1) (mN m q)) ≤ d7 bM l m n a z := by
 have hlt := hR.reg.lt
 obtain ⟨q1, q2, q3⟩ := hq
 have hqo : dw l q = true := isOpen_iff.2 (.inr ho)
 obtain ⟨j, j1, j2, j3⟩ := hR.reg.loop q q1 hqz hqo
 have hj : mN m q = j := by unfold mN; rw [j1]; rfl
 rw [hj]
 obtain ⟨n, rfl⟩ : ∃ n', n = n' + 1 := ⟨n - 1, by omega⟩
 have hRq : Reg l m (q + 1) j := hj ▸ hF.reg (by omega) hqo
 have hr : ∀ i, i < l.length → dz (l.getD i (0, 0, 0)) = true := fun i hi => hF.right hi
 have hW : ∀ i, a ≤ i → i < z → de l i = 21 → StepsI (d7 bM l m n (i + 1) (mN m i)) := fun i i1 i2 i3 => kL eQ hF n (hF.reg (by omega) (isOpen_iff.2 (.inl i3)))
 have hopj : de l j = 24 := by
  obtain ⟨j', c1, c2, c3, c4, c5⟩ := hC.op_ q (by omega) hqo
  rw [j1] at c1
  have : j = j' := by omega
  subst this
  show (l.getD j (0, 0, 0)).1 = 24
  rw [c4]
  unfold ends
  rw [if_neg (by show ¬ (l.getD q (0, 0, 0)).1 = 21; rw [show (l.getD q (0, 0, 0)).1 = 23 from ho]; decide)]
 show dt 2 (eI bM (d7 bM l m n) l m (j - (q + 1)) (q + 1) (eY (q + 1)) j) ≤ eI bM (d7 bM l m n) l m (z - a) a (eY a) z
 -- to the block
 rw [show z - a = (q - a) + (z - q) by omega, vf, show a + (q - a) = q by omega]
 have hD1 : ∀ k, StepsI (eI bM (d7 bM l m n) l m (q - a) a (eY a) k) := A4 eQ hr (q - a) a (gV a) (by omega) (fun k k1 k2 => hW k k1 (by omega))
 have hDq : eI bM (d7 bM l m n) l m (q - a) a (eY a) q ≠ -1 := by
  have hRq' : ∀ k, t9 l m a z k → k ≤ q → eI bM (d7 bM l m n) l m (q - a) a (eY a) k ≠ -1 := by
   -- reached ahead of it
   have gen : ∀ (r i : Nat) {D : Nat → Int}, (∀ k, StepsI (D k)) → a ≤ i → i + r = q → (∀ k, t9 l m a z k → k = a ∨ (∃ p, t9 l m a z p ∧ p < i ∧ k ∈ eS l m p) → D k ≠ -1) → ∀ k, t9 l m a z k → k ≤ q → eI bM (d7 bM l m n) l m r i D k ≠ -1 := by
    intro r
    induction r with
    | zero =>
     intro i D hD hi hz hI k hk hkq
     refine hI k hk ?_
     by_cases e : k = a
     ·exact .inl e
     ·obtain ⟨p, p1, p2, p3⟩ := A5 hF hS hR hk (by have := hk.1; omega)
      exact .inr ⟨p, p1, by omega, p3⟩
    | succ r ih =>
     intro i D hD hi hz hI k hk hkq
     have hWi := hW i hi (by omega)
     have hri := hr i (by omega)
     refine ih (i + 1) (gn eQ hD hri hWi) (by omega) (by omega) (fun k' hk' hp => ?_) k hk hkq
     obtain ⟨s1, s2⟩ := qP hD hri hWi
     have old : D k' ≠ -1 → er bM (d7 bM l m n) l m i D k' ≠ -1 := fun h => by
      have := s1 k'
      have := ((hD k').nn h).1
      omega
     rcases hp with h1 | ⟨p, p1, p2, p3⟩
     ·exact old (hI k' hk' (.inl h1))
     ·by_cases e : p = i
      ·subst e
       have hDp : D p ≠ -1 := by
        refine hI p p1 ?_
        by_cases e : p = a
        ·exact .inl e
        ·obtain ⟨p', a1, a2, a3⟩ := A5 hF hS hR p1 (by omega)
         exact .inr ⟨p', a1, a2, a3⟩
       have h3 := s2 hDp k' p3
       have h4 := fF ((hD p).nn hDp).1 (iQ hri hWi).1
       omega
      ·exact old (hI k' hk' (.inr ⟨p, p1, by omega, p3⟩))
   intro k hk hkq
   refine gen (q - a) a (gV a) (ar _) (by omega) (fun k' hk' hp => ?_) k hk hkq
   rcases hp with e | ⟨p, p1, p2, _⟩
   ·subst e; unfold eY; rw [if_pos rfl]; decide
   ·have := p1.1; omega
  exact hRq' q ⟨q1, q2, q3⟩ (ar _)
 generalize hDD : eI bM (d7 bM l m n) l m (q - a) a (eY a) = D at hD1 hDq
 have hd := (hD1 q).nn hDq
 -- the block's own step
 rw [show z - q = 1 + ((j - (q + 1)) + (z - j)) by omega, vf]
 show dt 2 _ ≤ eI bM (d7 bM l m n) l m ((j - (q + 1)) + (z - j)) (q + 1) (er bM (d7 bM l m n) l m q D) z
 have hWq := hW q q1 hqz
 have hrq := hr q (by omega)
 obtain ⟨s1, s2⟩ := qP hD1 hrq hWq
 have hD2 := gn eQ hD1 hrq hWq
 have hop : eS l m q = [q + 1] := by unfold eS; rw [if_neg (by rw [ho]; decide), if_neg (by rw [ho]; decide), if_neg (by rw [ho]; decide)]
 have hcq : eB (d7 bM l m n) l m q = 1 := by unfold eB; rw [if_neg (by rw [ho]; decide)]
 have h2 := s2 hDq (q + 1) (by rw [hop]; simp)
 rw [hcq] at h2
 generalize er bM (d7 bM l m n) l m q D = D2 at hD2 h2
 have h3 : (1 : Int) ≤ D2 (q + 1) := by
  have : (1 : Int) ≤ dt (D q) 1 := by unfold dt; split <;> omega
  omega
 -- what stands in it
 rw [vf, show q + 1 + (j - (q + 1)) = j by omega]
 have hw0 := gW eQ hF hS (n + 1) (show Way l m (q + 1) j from hj ▸ hF.way (by omega) hqo)
 have hw1 : d7 bM l m (n + 1) (q + 1) j = eI bM (d7 bM l m n) l m (j - (q + 1)) (q + 1) (eY (q + 1)) j := rfl
 rw [hw1] at hw0
 have h4 := Nx hr (c := 1) (by decide) (W := d7 bM l m n) (j - (q + 1)) (q + 1) (D := D2) (D0 := eY (q + 1)) hD2 (gV _) (by omega) (fun k k1 k2 => hW k (by omega) (by omega)) (fun k k1 k2 => by
  unfold eY at k2 ⊢
  by_cases e : k = q + 1
  ·subst e; rw [if_pos rfl]; unfold dt; split <;> omega
  ·rw [if_neg e] at k2; exact absurd rfl k2) j (by omega) (by omega)
 have hD3 := A4 eQ hr (W := d7 bM l m n) (j - (q + 1)) (q + 1) hD2 (by omega) (fun k k1 k2 => hW k (by omega) (by omega))
 generalize eI bM (d7 bM l m n) l m (j - (q + 1)) (q + 1) (eY (q + 1)) j = w at hw0 h4
 generalize eI bM (d7 bM l m n) l m (j - (q + 1)) (q + 1) D2 = D3 at hD3 h4
 -- behind it
 rw [show z - j = (z - (j + 1)) + 1 by omega]
 show dt 2 w ≤ eI bM (d7 bM l m n) l m (z - (j + 1)) (j + 1) (er bM (d7 bM l m n) l m j D3) z
 have hWj := hW j (by omega) (by omega)
 have hrj := hr j (by omega)
 obtain ⟨t1, t2⟩ := qP hD3 hrj hWj
 have h1w := fF (show (0 : Int) ≤ 1 by decide) hw0.1
 have hDj : D3 j ≠ -1 := by omega
 have hopj' : eS l m j = [j + 1] := by unfold eS; rw [if_neg (by rw [hopj]; decide), if_neg (by rw [hopj]; decide), if_neg (by rw [hopj]; decide)]
 have hcj : eB (d7 bM l m n) l m j = 1 := by unfold eB; rw [if_neg (by rw [hopj]; decide)]
 have h5 := t2 hDj (j + 1) (by rw [hopj']; simp)
 rw [hcj] at h5
 refine K1 hr hR.reg hW (by have := fF (show (0 : Int) ≤ 2 by decide) hw0.1; omega) (z - (j + 1)) (j + 1) (gn eQ hD3 hrj hWj) (by omega) (by omega) ⟨j + 1, by omega, by omega, ?_⟩
 refine b8 ?_ h5
 have : dt 2 w = dt (dt 1 w) 1 := by unfold dt; split <;> split <;> (try split) <;> omega
 rw [this]
 exact F7 h4 (bm _)
theorem Do {l : List dc} (h : d5 l = 0) {i : Nat} (hi : i < l.length) : iP l (du l).1 i = false := by
 have hw := gq h
 unfold d5 at h
 rw [if_neg (show ¬ (eK l ≠ 0) from fun k => k hw)] at h
 by_cases ha : ed (tY l (du l).1) l.length 0 = true
 ·have := allF_iff.1 ha i (ai _) (by omega)
  unfold tY at this
  simpa using this
 ·rw [if_neg ha] at h
  cases h
theorem VT {l : List dc} (h : d5 l = 0) {p q : Nat} (hpq : p < q) (hq : q < l.length) (hp3 : de l p = 23) (hq3 : de l q = 23) : q < mN (du l).1 p ∧ dB l p < dB l q := by
 have hs := iI (gq h)
 have hC := nq hs
 have hb := Do h hq
 unfold iP at hb
 rw [if_pos hq3, bE] at hb
 obtain ⟨hb1, hb2⟩ := hb
 obtain ⟨j, j1, j2, j3, j4, j5⟩ := hC.op_ p (by omega) (isOpen_iff.2 (.inr hp3))
 have hj : mN (du l).1 p = j := by unfold mN; rw [j1]; rfl
 have hopj : de l j = 24 := by
  show (l.getD j (0, 0, 0)).1 = 24
  rw [j4]
  unfold ends
  rw [if_neg (by rw [show (l.getD p (0, 0, 0)).1 = 23 from hp3]; decide)]
 have hlt : q < j := by
  rcases Nat.lt_trichotomy j q with hlt | he | hgt
  ·exfalso
   have : gQ l q = true := anyB_iff.2 ⟨j, hlt, by simp [hopj]⟩
   rw [this] at hb1; cases hb1
  ·subst he; rw [hopj] at hq3; cases hq3
  ·exact hgt
 refine ⟨by omega, ?_⟩
 rcases Int.lt_or_le (dB l p) (dB l q) with h1 | h1
 ·exact h1
 ·exfalso
  have he : enc l (du l).1 p q = true := (p5 (isOpen_iff.2 (.inr hp3)) j1).2 ⟨hpq, by omega⟩
  have : nl l (du l).1 q = true := anyB_iff.2 ⟨p, hpq, by rw [he, hp3]; simp; exact h1⟩
  rw [this] at hb2; cases hb2
theorem HV {l : List dc} (h : d5 l = 0) {a z q : Nat} (ha : a ≤ q) (hz : q ≤ z) (hq : q < l.length) (hq3 : de l q = 23) : t9 l (du l).1 a z q := by
 have hs := iI (gq h)
 have hC := nq hs
 have hb := Do h hq
 unfold iP at hb
 rw [if_pos hq3, bE] at hb
 refine ⟨ha, hz, fun p p1 p2 p3 => ?_⟩
 obtain ⟨j, j1, j2, j3, j4, j5⟩ := hC.op_ p (by omega) (isOpen_iff.2 (.inl p3))
 have hj : mN (du l).1 p = j := by unfold mN; rw [j1]; rfl
 rcases aj (mN (du l).1 p) q with h1 | h1
 ·exact h1
 ·exfalso
  have he : enc l (du l).1 p q = true := (p5 (isOpen_iff.2 (.inl p3)) j1).2 ⟨p2, by omega⟩
  have : nl l (du l).1 q = true := anyB_iff.2 ⟨p, p2, by rw [he, p3]; simp⟩
  rw [this] at hb; cases hb.2
theorem K4 {l : List dc} {m : List Int} {n : Nat} : ∀ (r i : Nat), ∀ e ∈ gt l m n r i, ∃ p, i ≤ p ∧ p < i + r ∧ de l p = 23 ∧ e = (dB l p, d7 bM l m n (p + 1) (mN m p) + 1)
 | 0, i, e, he => by cases he
 | r + 1, i, e, he => by
  unfold gt at he
  rcases aA.1 he with h | h
  ·split at h
   ·rename_i h3
    refine ⟨i, ar _, by omega, h3, ?_⟩
    simpa using h
   ·cases h
  ·obtain ⟨p, p1, p2, p3⟩ := K4 r (i + 1) e h
   exact ⟨p, by omega, by omega, p3⟩
theorem BW {l : List dc} (h : d5 l = 0) : Fine l (du l).1 (du l).2.1 ∧ Closed l (du l).1 := ⟨js (gq h), nq (iI (gq h))⟩
theorem SI {l : List dc} {n : Nat} (h : d5 l = 0) (hS : sq l) (hn : l.length < n) (hw : d7 bM l (du l).1 n 0 (l.length - 1) < 1048577) : ∀ (r i : Nat), i + r = l.length → (gt l (du l).1 n r i).Pairwise (fun a b => b.2 + 2 ≤ a.2 ∧ a.1 < b.1) ∧ ∀ e ∈ gt l (du l).1 n r i, 1 ≤ e.2 ∧ e.2 + 1 ≤ d7 bM l (du l).1 n 0 (l.length - 1) := by
 obtain ⟨hF, hC⟩ := BW h
 obtain ⟨l1, l2⟩ := hF.len
 have hend : ∀ p, p < l.length → de l p = 23 → p < l.length - 1 := fun p hp h3 => by
  have := hF.succ hp (by rw [h3]; decide)
  omega
 have one : ∀ p, p < l.length → de l p = 23 → 0 ≤ d7 bM l (du l).1 n (p + 1) (mN (du l).1 p) ∧ d7 bM l (du l).1 n (p + 1) (mN (du l).1 p) + 2 ≤ d7 bM l (du l).1 n 0 (l.length - 1) := fun p hp h3 => by
  have k1 := K3 hF hC hS hn hF.wayAll (HV h (ai p) (by have := hend p hp h3; omega) hp h3) (hend p hp h3) h3
  have k2 := gW eQ hF hS n (hF.way hp (isOpen_iff.2 (.inr h3)))
  refine ⟨k2.1, ?_⟩
  unfold dt at k1
  split at k1 <;> omega
 intro r
 induction r with
 | zero => intro i hi; exact ⟨List.Pairwise.nil, fun e he => by cases he⟩
 | succ r ih =>
  intro i hi
  obtain ⟨g1, g2⟩ := ih (i + 1) (by omega)
  unfold gt
  by_cases h3 : de l i = 23
  ·rw [if_pos h3]
   have hi1 : i < l.length := by omega
   obtain ⟨o1, o2⟩ := one i hi1 h3
   refine ⟨List.Pairwise.cons (fun e he => ?_) g1, fun e he => ?_⟩
   ·obtain ⟨p, p1, p2, p3, rfl⟩ := K4 r (i + 1) e he
    have hp1 : p < l.length := by omega
    obtain ⟨c1, c2⟩ := VT h (show i < p by omega) hp1 h3 p3
    have k1 := K3 hF hC hS hn (hF.way hi1 (isOpen_iff.2 (.inr h3))) (HV h (show i + 1 ≤ p by omega) (by omega) hp1 p3) c1 p3
    have k2 := (one p hp1 p3).1
    refine ⟨?_, c2⟩
    show _ + 1 + 2 ≤ _ + 1
    unfold dt at k1
    split at k1 <;> omega
   ·rcases aB.1 he with rfl | he
    ·exact ⟨by show 1 ≤ _ + 1; omega, by show _ + 1 + 1 ≤ _; omega⟩
    ·exact g2 e he
  ·rw [if_neg h3, bn]
   exact ⟨g1, g2⟩
theorem aaT {D E : Nat → Int} (hD : ∀ k, StepsI (D k)) (hE : ∀ k, StepsI (E k)) (h : ∀ k, (D k = -1 ↔ E k = -1) ∧ D k ≤ E k) {k : Nat} {u v : Int} (huv : u ≤ v) (hu : 0 ≤ u) : ∀ j, (ef bL D k u j = -1 ↔ ef bM E k v j = -1) ∧ ef bL D k u j ≤ ef bM E k v j := fun j => by
 unfold ef
 by_cases e : j = k
 ·subst e
  rw [if_pos rfl, if_pos rfl]
  obtain ⟨h1, h2⟩ := h j
  by_cases e2 : D j = -1
  ·rw [if_pos e2, if_pos (h1.1 e2)]
   exact ⟨by constructor <;> intro <;> omega, huv⟩
  ·have e3 : ¬ E j = -1 := fun k => e2 (h1.2 k)
   rw [if_neg e2, if_neg e3]
   have a1 := ((hD j).nn e2).1
   have a2 := ((hE j).nn e3).1
   unfold bL bM
   split <;> split <;> exact ⟨by constructor <;> intro <;> omega, by omega⟩
 ·rw [if_neg e, if_neg e]
  exact h j
theorem Ny {u v : Int} (huv : u ≤ v) (hu : 0 ≤ u ∧ u ≤ 1048577) (hv : v ≤ 1048577) : ∀ (ks : List Nat) {D E : Nat → Int}, (∀ k, StepsI (D k)) → (∀ k, StepsI (E k)) → (∀ k, (D k = -1 ↔ E k = -1) ∧ D k ≤ E k) → ∀ j, (ks.foldl (fun g k => ef bL g k u) D j = -1 ↔ ks.foldl (fun g k => ef bM g k v) E j = -1) ∧ ks.foldl (fun g k => ef bL g k u) D j ≤ ks.foldl (fun g k => ef bM g k v) E j
 | [], D, E, hD, hE, h, j => h j
 | k :: ks, D, E, hD, hE, h, j => Ny huv hu hv ks (D := ef bL D k u) (E := ef bM E k v) (pZ t7 hD k hu) (pZ eQ hE k ⟨by omega, hv⟩) (aaT hD hE h huv hu.1) j
theorem VU {v w A : Int} (hv : 0 ≤ v) (hvw : v ≤ w) (hw : w ≤ 1048577) (hA : 1 ≤ A) : gR v A ≤ gR w A := by
 have key : ∀ x : Int, 0 ≤ x → x ≤ 1048577 → (if x + 1 ≥ 1048577 then gR x A = 1048577 else gR x A = min (1 + A * (x + 1)) 1048577) := fun x hx hx2 => by
  unfold gR
  by_cases h : x + 1 ≥ 1048577
  ·rw [if_pos h]
   have : dt x 1 = 1048577 := by unfold dt; split <;> omega
   rw [if_pos this]
  ·rw [if_neg h]
   have : dt x 1 = x + 1 := by unfold dt; split <;> omega
   rw [this, if_neg (by omega)]
   unfold dt
   omega
 have k1 := key v hv (by omega)
 have k2 := key w (by omega) hw
 have hm : A * (v + 1) ≤ A * (w + 1) := Int.mul_le_mul_of_nonneg_left (by omega) (by omega)
 have hb : gR v A ≤ 1048577 := (loopI_cap v A)
 split at k1 <;> split at k2 <;> omega
where
 loopI_cap (v A : Int) : gR v A ≤ 1048577 := by
  unfold gR
  split
  ·omega
  ·unfold dt; split <;> omega
theorem SJ {W W' : Nat → Nat → Int} {l : List dc} {m : List Int} (hr : ∀ i, i < l.length → dz (l.getD i (0, 0, 0)) = true) : ∀ (r i : Nat) {D E : Nat → Int}, (∀ k, StepsI (D k)) → (∀ k, StepsI (E k)) → r + i ≤ l.length → (∀ k, i ≤ k → k < r + i → de l k = 21 → StepsI (W (k + 1) (mN m k)) ∧ StepsI (W' (k + 1) (mN m k)) ∧ 0 ≤ W (k + 1) (mN m k) ∧ W (k + 1) (mN m k) ≤ W' (k + 1) (mN m k)) → (∀ k, (D k = -1 ↔ E k = -1) ∧ D k ≤ E k) → ∀ j, (eI bL W l m r i D j = -1 ↔ eI bM W' l m r i E j = -1) ∧ eI bL W l m r i D j ≤ eI bM W' l m r i E j
 | 0, i, D, E, hD, hE, hl, hW, h, j => h j
 | r + 1, i, D, E, hD, hE, hl, hW, h, j => by
  have hWi := hW i (ar _) (by omega)
  have hri := hr i (by omega)
  have w1 := iQ hri (fun e => (hWi e).1)
  have w2 := iQ hri (fun e => (hWi e).2.1)
  have hc : eB W l m i ≤ eB W' l m i := by
   unfold eB
   by_cases e : de l i = 21
   ·rw [if_pos e, if_pos e]
    obtain ⟨q1, q2, q3, q4⟩ := hWi e
    have hA : 1 ≤ dB l i := by
     have hri' := hri
     rw [show l.getD i (0, 0, 0) = (21, dB l i, (l.getD i (0, 0, 0)).2.2) from by rw [← e]] at hri'
     exact (t0 hri').1
    exact VU q3 q4 (q2.nn (by omega)).2 hA
   ·rw [if_neg e, if_neg e]; omega
  refine SJ hr r (i + 1) (gn t7 hD hri (fun e => (hWi e).1)) (gn eQ hE hri (fun e => (hWi e).2.1)) (by omega) (fun k h1 h2 => hW k (by omega) (by omega)) (fun k => ?_) j
  unfold er
  by_cases e : D i = -1
  ·rw [if_pos e, if_pos ((h i).1.1 e)]
   exact h k
  ·have e' : ¬ E i = -1 := fun x => e ((h i).1.2 x)
   rw [if_neg e, if_neg e']
   exact Ny (F7 (h i).2 hc) (fF ((hD i).nn e).1 w1.1) (fF ((hE i).nn e').1 w2.1).2 _ hD hE h k
theorem SK {l : List dc} {m h : List Int} (hF : Fine l m h) (hS : sq l) : ∀ (f : Nat) {a z : Nat}, Way l m a z → d7 bL l m f a z ≤ d7 bM l m f a z
 | 0, a, z, hR => bm _
 | f + 1, a, z, hR => by
  have hlt := hR.reg.lt
  have hle := hR.reg.le
  refine (SJ (fun i hi => hF.right hi) (z - a) a (gV a) (gV a) (by omega) (fun k k1 k2 k3 => ?_) (fun k => ⟨Iff.rfl, bm _⟩) z).2
  have hk := hF.way (show k < l.length by omega) (isOpen_iff.2 (.inl k3))
  exact ⟨kL t7 hF f hk.reg, kL eQ hF f hk.reg, (gW t7 hF hS f hk).1, SK hF hS f hk⟩
theorem qQ (n : Nat) (l : List dc) (h : (eJ bM n l).2 = 0) : (eJ bL n l).2 = 0 ∧ 1 ≤ (eJ bL n l).1 ∧ (eJ bL n l).1 ≤ (eJ bM n l).1 ∧ (eJ bM n l).1 = d7 bM l (du l).1 n 0 (l.length - 1) + 1 ∧ (eJ bM n l).1 ≤ 1048576 := by
 obtain ⟨h1, h2⟩ := nY h
 obtain ⟨hF, hC⟩ := BW h1
 have hS := (t8 h2).2
 have r1 := gW t7 hF hS n hF.wayAll
 have r2 := gW eQ hF hS n hF.wayAll
 have r3 := SK hF hS n hF.wayAll
 unfold eJ at h ⊢
 rw [if_neg (show ¬ (d5 l ≠ 0) from fun k => k h1), if_neg (show ¬ (fe l ≠ 0) from fun k => k h2)] at h ⊢
 rw [if_neg (show ¬ (d5 l ≠ 0) from fun k => k h1), if_neg (show ¬ (fe l ≠ 0) from fun k => k h2)]
 split at h
 ·cases h
 ·rename_i hne
  rw [if_neg hne]
  unfold dt at hne ⊢
  split at hne
  ·exact absurd rfl hne
  ·rename_i h5
   rw [if_neg h5, if_neg (show ¬ (1048577 < d7 bL l (du l).1 n 0 (l.length - 1) + 1) by omega), if_neg (by omega)]
   exact ⟨rfl, by show 1 ≤ _ + 1; omega, by show _ + 1 ≤ _ + 1; omega, rfl, by show _ + 1 ≤ (1048576 : Int); omega⟩
theorem dA {X R : Type} {S : (X → Option R) → X → Option R} (Q : Nat → X → R → Prop) (h0 : ∀ x r, ¬ Q 0 x r) (h : ∀ f x F, (∀ y r, Q f y r → F y = some r) → ∀ r, Q (f + 1) x r → S F x = some r) : ∀ f x r, Q f x r → it S f x = some r
 | 0, x, r, hq => absurd hq (h0 x r)
 | f + 1, x, r, hq => h f x (it S f) (dA Q h0 h f) r hq
abbrev Tsk := Int × Int × Int × Int × List Int × List Int × List dc
abbrev Img := Int × Int × Int × Int × List Int × List (List Int) × List Tsk
abbrev Tsk.blocks (t : Tsk) : List Int := t.2.2.2.2.1
abbrev Tsk.outs (t : Tsk) : List Int := t.2.2.2.2.2.1
abbrev Tsk.code (t : Tsk) : List dc := t.2.2.2.2.2.2
abbrev Img.inputs (m : Img) : Int := m.2.2.2.1
abbrev Img.safe (m : Img) : List Int := m.2.2.2.2.1
abbrev Img.blocks (m : Img) : List (List Int) := m.2.2.2.2.2.1
abbrev Img.tasks (m : Img) : List Tsk := m.2.2.2.2.2.2
theorem dq {α : Type} {l : List α} {i : Nat} {d : α} (h : i < l.length) : l.drop i = l.getD i d :: l.drop (i + 1) := by
 rw [bO h, ao, au h]
 rfl
theorem W2 (n : Nat) (t : Tsk) (m : Img) (p : Int) (hl : t.outs.length < n) (hn : n < 1000000) : xA n (t, m) p = some (t.outs.contains p) := by
 unfold xA xz
 have := dA (S := fun F => (dk q_) (sP n F)) (fun f x r => ∃ i : Nat, x = (p, t.outs, (t.outs.length : Int), (i : Int)) ∧ i ≤ t.outs.length ∧ t.outs.length < f + i ∧ r = if (t.outs.drop i).contains p = true then .inl ((true, ()), ()) else .inr ((), ())) (fun x r ⟨i, _, h1, h2, _⟩ => by omega) (fun f x F hF r => ?_) n (p, t.outs, (t.outs.length : Int), 0) _ ⟨0, rfl, ai _, by omega, rfl⟩
 ·rw [this, aT]
  cases h : t.outs.contains p <;> rfl
 ·rintro ⟨i, rfl, h1, h2, rfl⟩
  show sP n F p t.outs (t.outs.length : Int) (i : Int) = _
  unfold sP
  rcases aj i t.outs.length with hlt | hge
  ·rw [if_pos (af (by omega)), if_pos (cZ hlt), ah, dd (by omega), dq (d := (0 : Int)) hlt, List.contains_cons]
   by_cases e : t.outs.getD i 0 = p
   ·rw [if_pos (ag.2 e), e, aY, cv, if_pos rfl]
   ·rw [if_neg (fun h => e (ag.1 h))]
    have e2 : (p == t.outs.getD i 0) = false := by rw [aH]; exact fun h => e h.symm
    rw [e2, bD]
    exact hF _ _ ⟨i + 1, rfl, by omega, by omega, rfl⟩
  ·have : i = t.outs.length := by omega
   subst this
   rw [if_neg (by simp), aD]
   rfl
def i0 (m : Img) (t : Tsk) (i : dc) : Bool :=
 if i.1 = 15 then decide (i.2.1 < m.inputs) else if i.1 = 16 then t.outs.contains i.2.1 else if i.1 = 17 then decide (i.2.2 < ((m.blocks.getD i.2.1.toNat []).length : Int)) else if i.1 = 18 then decide (i.2.2 < ((m.blocks.getD i.2.1.toNat []).length : Int)) else true
theorem W3 (n : Nat) (t : Tsk) (m : Img) (i : dc) (ho : t.outs.length < n) (hn : n < 1000000) (hb : i.1 = 17 ∨ i.1 = 18 → 0 ≤ i.2.1 ∧ i.2.1 < (m.blocks.length : Int)) (l : List dc) (v k : Int) :
  AV n true l v k t.1 t.2.1 t.2.2.1 t.2.2.2.1 t.2.2.2.2.1 t.2.2.2.2.2.1 t.2.2.2.2.2.2 m.1 m.2.1 m.2.2.1 m.2.2.2.1 m.2.2.2.2.1 m.2.2.2.2.2.1 m.2.2.2.2.2.2 i.1 i.2.1 i.2.2 = some (i0 m t i, l, v, k, t.1, t.2.1, t.2.2.1, t.2.2.2.1, t.2.2.2.2.1, t.2.2.2.2.2.1, t.2.2.2.2.2.2, m.1, m.2.1, m.2.2.1, m.2.2.2.1, m.2.2.2.2.1, m.2.2.2.2.2.1, m.2.2.2.2.2.2, i.1, i.2.1, i.2.2) := by
 unfold AV i0
 by_cases h15 : i.1 = 15
 ·rw [if_pos (ag.2 h15), if_pos h15]
 rw [if_neg (fun h => h15 (ag.1 h)), if_neg h15]
 by_cases h16 : i.1 = 16
 ·rw [if_pos (ag.2 h16), if_pos h16]
  have := W2 n t m i.2.1 ho hn
  show ((xA n (t, m) i.2.1).bind _) = _
  rw [this]; rfl
 rw [if_neg (fun h => h16 (ag.1 h)), if_neg h16]
 by_cases h17 : i.1 = 17
 ·have := hb (.inl h17)
  rw [if_pos (ag.2 h17), if_pos h17, if_pos (by rw [af this.1, af this.2]; rfl)]
 rw [if_neg (fun h => h17 (ag.1 h)), if_neg h17]
 by_cases h18 : i.1 = 18
 ·have := hb (.inr h18)
  rw [if_pos (ag.2 h18), if_pos h18, if_pos (by rw [af this.1, af this.2]; rfl)]
 rw [if_neg (fun h => h18 (ag.1 h)), if_neg h18]
theorem VV (n : Nat) (t : Tsk) (m : Img) (hl : t.code.length < n) (ho : t.outs.length < n) (hn : n < 1000000) (hb : ∀ i ∈ t.code, i.1 = 17 ∨ i.1 = 18 → 0 ≤ i.2.1 ∧ i.2.1 < (m.blocks.length : Int)) : xE n (t, m) = some (if t.code.all (i0 m t) = true then 0 else 12) := by
 unfold xE xD
 have := dA (S := fun F => (fj (dy (dk (C_ q_)))) (sQ n F))
  (fun f x r => ∃ i : Nat, x = (t.code, (t.code.length : Int), (i : Int), t.1, t.2.1, t.2.2.1, t.2.2.2.1, t.2.2.2.2.1, t.2.2.2.2.2.1, t.2.2.2.2.2.2, m) ∧ i ≤ t.code.length ∧ t.code.length < f + i ∧ r = if (t.code.drop i).all (i0 m t) = true then .inr ((), ((t.1, t.2.1, t.2.2.1, t.2.2.2.1, t.2.2.2.2.1, t.2.2.2.2.2.1, t.2.2.2.2.2.2, m.1, m.2.1, m.2.2.1, m.2.2.2.1, m.2.2.2.2.1, m.2.2.2.2.2.1, m.2.2.2.2.2.2, ()), ())) else .inl ((12, ()), ((t.1, t.2.1, t.2.2.1, t.2.2.2.1, t.2.2.2.2.1, t.2.2.2.2.2.1, t.2.2.2.2.2.2, m.1, m.2.1, m.2.2.1, m.2.2.2.1, m.2.2.2.2.1, m.2.2.2.2.2.1, m.2.2.2.2.2.2, ()), ()))) (fun x r ⟨i, _, h1, h2, _⟩ => by omega) (fun f x F hF r => ?_) n (t.code, (t.code.length : Int), 0, t.1, t.2.1, t.2.2.1, t.2.2.2.1, t.2.2.2.2.1, t.2.2.2.2.2.1, t.2.2.2.2.2.2, m) _ ⟨0, rfl, ai _, by omega, rfl⟩
 ·try dsimp only at this ⊢
  rw [this, aT]
  cases h : t.code.all (i0 m t) <;> rfl
 ·rintro ⟨i, rfl, h1, h2, rfl⟩
  show sQ n F t.code (t.code.length : Int) (i : Int) t.1 t.2.1 t.2.2.1 t.2.2.2.1 t.2.2.2.2.1 t.2.2.2.2.2.1 t.2.2.2.2.2.2 m.1 m.2.1 m.2.2.1 m.2.2.2.1 m.2.2.2.2.1 m.2.2.2.2.2.1 m.2.2.2.2.2.2 = _
  unfold sQ
  rcases aj i t.code.length with hlt | hge
  ·have hm : t.code.getD i (0, 0, 0) ∈ t.code := by rw [ao, au hlt]; exact aL hlt
   rw [if_pos (af (by omega)), if_pos (cZ hlt), ah, W3 n t m _ ho hn (hb _ hm), dq (d := ((0 : Int), (0 : Int), (0 : Int))) hlt, bN]
   simp only [ab]
   cases e : i0 m t (t.code.getD i (0, 0, 0)) with
   | true =>
    rw [if_neg (by simp), dd (by omega), az]
    exact hF _ _ ⟨i + 1, rfl, by omega, by omega, rfl⟩
   | false => rfl
  ·have : i = t.code.length := by omega
   subst this
   rw [if_neg (by simp), aD]
   rfl
theorem SL (l : List dc) (i : Nat) : (iZ l i).length ≤ 1 := by unfold iZ; split <;> simp
theorem HX (l : List dc) : ∀ (r i : Nat), (fH l r i).length ≤ r
 | 0, i => by simp [fH]
 | r + 1, i => by
  have := HX l r (i + 1)
  have h1 := SL l i
  rw [show fH l (r + 1) i = iZ l i ++ fH l r (i + 1) from rfl, aJ]
  omega
theorem HY (l : List dc) : (fd l).length ≤ l.length := by
 unfold fd
 split
 ·exact HX l _ _
 ·simp
theorem SM (n : Nat) (t : Tsk) (m : Img) (hl : t.code.length < n) (hn3 : 3 < n) (hn : n < 1000000) : xx n (t, m) = some (if d5 t.code ≠ 0 then d5 t.code else if fd t.code = t.blocks then 0 else 11) := by
 unfold xx
 rw [show oC n ((t, m) : Tsk × Img).1.2.2.2.2.2.2 = some (fd t.code, d5 t.code) from HF n t.code hl hn]
 simp only [ab]
 by_cases h0 : d5 t.code ≠ 0
 ·rw [if_pos (ak.2 h0), if_pos h0]
 rw [if_neg (fun h => h0 (ak.1 h)), if_neg h0]
 by_cases hlen : (fd t.code).length ≠ t.blocks.length
 ·rw [if_pos (show ((((fd t.code).length : Nat) : Int) != ((t.2.2.2.2.1.length : Nat) : Int)) = true from ak.2 (fun h => hlen (Int.ofNat.inj h))), if_neg (fun h => hlen (by rw [h]))]
 have hlen : (fd t.code).length = t.blocks.length := Decidable.not_not.1 hlen
 rw [if_neg (show ¬ ((((fd t.code).length : Nat) : Int) != ((t.2.2.2.2.1.length : Nat) : Int)) = true from fun h => ak.1 h (congrArg Int.ofNat hlen))]
 unfold xw
 have hk : (fd t.code).length ≤ t.code.length := HY t.code
 generalize fd t.code = L at hlen hk
 have := dA (S := fun F => (fj (dy (dk (C_ q_)))) (sO n F))
  (fun f x r => ∃ i : Nat, x = (L, (L.length : Int), (i : Int), t.1, t.2.1, t.2.2.1, t.2.2.2.1, t.2.2.2.2.1, t.2.2.2.2.2.1, t.2.2.2.2.2.2, m) ∧ i ≤ L.length ∧ L.length < f + i ∧ r = if L.drop i = t.blocks.drop i then .inr ((), ((t.1, t.2.1, t.2.2.1, t.2.2.2.1, t.2.2.2.2.1, t.2.2.2.2.2.1, t.2.2.2.2.2.2, m.1, m.2.1, m.2.2.1, m.2.2.2.1, m.2.2.2.2.1, m.2.2.2.2.2.1, m.2.2.2.2.2.2, ()), ())) else .inl ((11, ()), ((t.1, t.2.1, t.2.2.1, t.2.2.2.1, t.2.2.2.2.1, t.2.2.2.2.2.1, t.2.2.2.2.2.2, m.1, m.2.1, m.2.2.1, m.2.2.2.1, m.2.2.2.2.1, m.2.2.2.2.2.1, m.2.2.2.2.2.2, ()), ()))) (fun x r ⟨i, _, h1, h2, _⟩ => by omega) (fun f x F hF r => ?_) n (L, (L.length : Int), 0, t.1, t.2.1, t.2.2.1, t.2.2.2.1, t.2.2.2.2.1, t.2.2.2.2.2.1, t.2.2.2.2.2.2, m) _ ⟨0, rfl, ai _, by omega, rfl⟩
 ·try dsimp only at this ⊢
  rw [this, aT, aT]
  by_cases h : L = t.blocks
  ·rw [if_pos h, if_pos h]; rfl
  ·rw [if_neg h, if_neg h]; rfl
 ·rintro ⟨i, rfl, h1, h2, rfl⟩
  show sO n F L (L.length : Int) (i : Int) t.1 t.2.1 t.2.2.1 t.2.2.2.1 t.2.2.2.2.1 t.2.2.2.2.2.1 t.2.2.2.2.2.2 m.1 m.2.1 m.2.2.1 m.2.2.2.1 m.2.2.2.2.1 m.2.2.2.2.2.1 m.2.2.2.2.2.2 = _
  unfold sO
  rcases aj i L.length with hlt | hge
  ·have hlt2 : i < t.2.2.2.2.1.length := by have : t.blocks.length = t.2.2.2.2.1.length := rfl; omega
   rw [if_pos (af (by omega)), if_pos (cZ hlt), if_pos (cZ hlt2), ah, dq (d := (0 : Int)) hlt, show t.blocks.drop i = t.2.2.2.2.1.getD i 0 :: t.blocks.drop (i + 1) from dq (d := (0 : Int)) hlt2]
   by_cases e : L.getD i 0 = t.2.2.2.2.1.getD i 0
   ·rw [if_neg (fun h => ak.1 h e), dd (by omega), e]
    refine hF _ _ ⟨i + 1, rfl, by omega, by omega, ?_⟩
    simp only [bz, true_and]
   ·rw [if_pos (ak.2 e), if_neg (fun h => e (List.cons.inj h).1)]
  ·have : i = L.length := by omega
   subst this
   rw [if_neg (by simp), aD, hlen, aD]
   rfl
theorem vg (n : Int) : IntKind.u64.wrap n = n % 18446744073709551616 := by simp [IntKind.wrap, IntKind.bits, IntKind.signed]
theorem W4 (n : Nat) (a : Int) : ∃ y, oc n a = some y ∧ 0 ≤ y ∧ y < 18446744073709551616 := by
 unfold oc
 refine ⟨_, rfl, ?_, ?_⟩
 ·unfold bits
  rw [vg]
  exact Int.emod_nonneg _ (by decide)
 ·unfold bits
  rw [vg]
  exact Int.emod_lt_of_pos _ (by decide)
theorem K5 (n : Nat) : ∀ (f g : Nat) (o : List Int) (v : Int), 0 ≤ v → v < 128 ^ g → g < f → o.length + g < 1000 → ∃ o' v', it (fun F => q_ (jO n F)) f (o, v) = some (o', v') ∧ o'.length ≤ o.length + g
 | 0, g, o, v, h0, h1, hg, h2 => by omega
 | f + 1, g, o, v, h0, h1, hg, h2 => by
  have ih := K5 n f
  show ∃ o' v', jO n (it _ f) o v = some (o', v') ∧ _
  generalize it (fun F => q_ (jO n F)) f = F at ih ⊢
  unfold jO
  by_cases h : 128 ≤ v
  ·obtain _ | g := g
   ·rw [Int.pow_zero] at h1
    omega
   rw [if_pos (af h), if_pos (by rw [af (by omega), af (by omega)]; rfl)]
   have hd : v.tdiv 128 = v / 128 := b9 h0
   have hv : v / 128 < 128 ^ g := by
    rw [Int.pow_succ] at h1
    exact Int.ediv_lt_of_lt_mul (by decide) h1
   obtain ⟨o', v', h3, h4⟩ := ih g (o ++ [(IntKind.wrap .u8 (IntKind.wrap .u64 ((v.tmod 128) + 128)))]) ((IntKind.wrap .u64 (v.tdiv 128))) (by rw [vg]; exact Int.emod_nonneg _ (by decide)) (by
    rw [vg, hd]
    exact Int.lt_of_le_of_lt (by omega) hv) (by omega) (by rw [aJ]; show _ + 1 + g < 1000; omega)
   rw [aJ] at h4
   exact ⟨o', v', h3, by have : [IntKind.u8.wrap (IntKind.u64.wrap (v.tmod 128 + 128))].length = 1 := rfl; omega⟩
  ·rw [if_neg (by simpa using h)]
   exact ⟨o, v, rfl, by omega⟩
theorem Ak (l : List Int) : (eZ l).size = l.length := by
 unfold eZ ByteArray.size
 simp
theorem SN (n : Nat) (hn : 10 < n) (a : Int) : ∃ y, gp n a = some y ∧ y.size ≤ 11 := by
 obtain ⟨u, h1, h2, h3⟩ := W4 n a
 unfold gp pc
 rw [h1, ab]
 obtain ⟨o, v, h4, h5⟩ := K5 n n 10 [] u h2 (Int.lt_trans h3 (by decide)) hn (by decide)
 have h5 : o.length ≤ 10 := by simpa using h5
 rw [h4, ab]
 dsimp only
 rw [if_pos (by rw [af (by omega), af (by omega)]; rfl)]
 refine ⟨_, rfl, ?_⟩
 rw [Ak, aJ]
 show _ + 1 ≤ 11
 omega
theorem W5 (n : Nat) (x : dc) : ∃ y, nL n x.1 = some y := by
 have h := eM n x
 unfold dm at h
 match h2 : nL n x.1 with
 | some y => exact ⟨y, rfl⟩
 | none => rw [h2] at h; cases h
theorem K6 (y : ByteArray) : ∀ (k i : Nat) (r : List UInt8), y.size - i = k → r.length ≤ (ByteArray.toList.loop y i r).length
 | 0, i, r, h => by
  unfold ByteArray.toList.loop
  rw [if_neg (by omega), List.length_reverse]
  exact ar _
 | k + 1, i, r, h => by
  unfold ByteArray.toList.loop
  rw [if_pos (by omega)]
  have := K6 y k (i + 1) (y.get! i :: r) (by omega)
  rw [aI] at this
  omega
theorem K7 : (ByteArray.mk #[]).toList = [] := by
 unfold ByteArray.toList ByteArray.toList.loop
 rw [if_neg (by decide)]
 rfl
theorem ua {y : ByteArray} (h : 0 < y.size) : (y.toList == (ByteArray.mk #[]).toList) = false := by
 rw [K7, aH]
 intro h1
 have : (ByteArray.toList.loop y 0 []).length = 0 := by
  have : y.toList = ByteArray.toList.loop y 0 [] := rfl
  rw [← this, h1]
  rfl
 unfold ByteArray.toList.loop at this
 rw [if_pos h] at this
 have h2 := K6 y _ (0 + 1) [y.get! 0] rfl
 rw [this] at h2
 exact absurd h2 (Nat.not_succ_le_zero 0)
theorem HZ (n : Nat) (hn : 10 < n) (x : dc) : ∃ y, fL n x = some y ∧ y.size ≤ 30 ∧ (y.toList == (ByteArray.mk #[]).toList) = !dz x := by
 obtain ⟨o, ho⟩ := W5 n x
 obtain ⟨p, hp1, hp2⟩ := SN n hn x.2.1
 obtain ⟨q, hq1, hq2⟩ := SN n hn x.2.2
 have hs : (eZ ([(IntKind.wrap .u8 x.1)])).size = 1 := Ak _
 unfold fL kf
 have hr : dm n (x.1, x.2.1, x.2.2) = some (dz x) := eM n x
 rw [hr, ab]
 cases hb : dz x with
 | false => exact ⟨_, rfl, by decide, by rw [aY]; rfl⟩
 | true =>
  rw [if_neg (by simp), ho, hp1, hq1]
  simp only [ab]
  split
  ·rw [if_pos (af (by omega))]
   split
   ·have : (eZ ([(IntKind.wrap .u8 x.1)]) ++ p).size = 1 + p.size := by rw [bS, hs]
    rw [if_pos (af (by omega))]
    refine ⟨_, rfl, ?_, ?_⟩
    ·rw [bS, this]; omega
    ·exact ua (by rw [bS, this]; omega)
   ·have : (eZ ([(IntKind.wrap .u8 x.1)]) ++ p).size = 1 + p.size := by rw [bS, hs]
    exact ⟨_, rfl, by omega, ua (by omega)⟩
  ·split
   ·rw [if_pos (af (by omega))]
    have : (eZ ([(IntKind.wrap .u8 x.1)]) ++ q).size = 1 + q.size := by rw [bS, hs]
    exact ⟨_, rfl, by omega, ua (by omega)⟩
   ·exact ⟨_, rfl, by omega, ua (by omega)⟩
def Says (o : Option Bool) (p : Prop) : Prop := ∃ b, o = some b ∧ (b = true ↔ p)
theorem Says.dec {p : Prop} [Decidable p] : Says (some (decide p)) p := ⟨_, rfl, bj⟩
theorem Says.and {o : Option Bool} {f : Bool → Option Bool} {p q : Prop} (h : Says o p) (k : Says (f true) q) (g : f false = some false) : Says (o.bind f) (p ∧ q) := by
 obtain ⟨b, h1, h2⟩ := h
 obtain ⟨c, k1, k2⟩ := k
 rw [h1]
 cases b with
 | true => exact ⟨c, k1, by rw [k2]; exact ⟨fun e => ⟨h2.1 rfl, e⟩, fun e => e.2⟩⟩
 | false => exact ⟨false, g, ⟨fun e => absurd e (by decide), fun e => absurd (h2.2 e.1) (by decide)⟩⟩
theorem Says.iff {o : Option Bool} {p q : Prop} (h : Says o p) (k : p ↔ q) : Says o q := by
 obtain ⟨b, h1, h2⟩ := h
 exact ⟨b, h1, h2.trans k⟩
theorem Says.no {p : Prop} (h : ¬ p) : Says (some false) p := ⟨false, rfl, fun e => absurd e (by decide), fun e => absurd e h⟩
def Rises (e : Int) : Int → List Int → Prop
 | _, [] => True
 | b, x :: l => b < x ∧ x < e ∧ Rises e x l
theorem K8 (n : Nat) (l : List Int) (e : Int) (he : 0 ≤ e) (hen : e + 1 < n) (hn : n < 1000000) : Says (jC n l e) (Rises e (-1) l) := by
 unfold jC lT
 have := dA (S := fun F => (dk (C_ q_)) (jb n F)) (fun f x r => ∃ (i : Nat) (b : Int) (c : Bool), x = (e, b, l, (l.length : Int), (i : Int)) ∧ (i ≤ l.length ∧ (i : Int) ≤ b + 1 ∧ b < e) ∧ e < b + f ∧ (c = true ↔ Rises e b (l.drop i)) ∧ r = if c = true then .inr ((), ()) else .inl ((false, ()), ())) (fun x r ⟨i, b, c, _, h1, h2, _⟩ => by omega) (fun f x F hF r => ?_) n (e, -1, l, (l.length : Int), 0)
 ·classical
  refine ⟨decide (Rises e (-1) l), ?_, bj⟩
  rw [this _ ⟨0, -1, decide (Rises e (-1) l), rfl, ⟨ai _, by omega, by omega⟩, by omega, bj, rfl⟩]
  cases decide (Rises e (-1) l) <;> rfl
 ·rintro ⟨i, b, c, rfl, h1, h2, hc, rfl⟩
  show jb n F e b l (l.length : Int) (i : Int) = _
  unfold jb
  rcases aj i l.length with hlt | hge
  ·rw [dq (d := (0 : Int)) hlt] at hc
   rw [if_pos (af (by omega)), if_pos (cZ hlt), ah, dd (by omega)]
   have hno : ∀ (h : ¬ (b < l.getD i 0 ∧ l.getD i 0 < e)), c = false := fun h => by
    cases c with
    | false => rfl
    | true => exact absurd ⟨(hc.1 rfl).1, (hc.1 rfl).2.1⟩ h
   by_cases g1 : l.getD i 0 ≤ b
   ·rw [if_pos (af g1), hno (by omega)]; rfl
   rw [if_neg (by simpa using g1)]
   by_cases g2 : l.getD i 0 ≥ e
   ·rw [if_pos (af g2), hno (by omega)]; rfl
   rw [if_neg (by simpa using g2)]
   exact hF _ _ ⟨i + 1, l.getD i 0, c, rfl, by omega, by omega, hc.trans ⟨fun h => h.2.2, fun h => ⟨by omega, by omega, h⟩⟩, rfl⟩
  ·have : i = l.length := by omega
   subst this
   rw [aD] at hc
   rw [if_neg (by simp), if_pos (hc.2 trivial)]
theorem Rises.len {e : Int} : ∀ {l : List Int} {b : Int}, Rises e b l → b < e → (l.length : Int) ≤ e - 1 - b
 | [], b, _, h => by simp; omega
 | x :: l, b, h, h1 => by
  have := Rises.len h.2.2 h.2.1
  have := h.1
  rw [aI]
  omega
theorem Rises.mem {e : Int} : ∀ {l : List Int} {b : Int}, Rises e b l → ∀ x ∈ l, b < x ∧ x < e
 | x :: l, b, h, y, hy => by
  rcases aB.1 hy with rfl | hy
  ·exact ⟨h.1, h.2.1⟩
  ·have := Rises.mem h.2.2 y hy
   have := h.1
   omega
theorem Al (n : Nat) (l : List Int) (e : Int) (he : 0 ≤ e) (hen : e + 1 < n) (hn : n < 1000000) : Says (yC n l e) (Rises e (-1) l) := by
 unfold yC yB
 have := dA (S := fun F => (C_ q_) (tq n F)) (fun f x r => ∃ (i : Nat) (b : Int) (c : Bool), x = (l, e, (i : Int)) ∧ (i ≤ l.length ∧ (i : Int) ≤ b + 1 ∧ b < e) ∧ e < b + f ∧ (i = 0 ∧ b = -1 ∨ 0 < i ∧ b = l.getD (i - 1) 0 ∧ 0 ≤ b) ∧ (c = true ↔ Rises e b (l.drop i)) ∧ r = if c = true then .inr ((), ()) else .inl ((false, ()), ())) (fun x r ⟨i, b, c, _, h1, h2, _⟩ => by omega) (fun f x F hF r => ?_) n (l, e, 0)
 ·classical
  refine ⟨decide (Rises e (-1) l), ?_, bj⟩
  rw [this _ ⟨0, -1, decide (Rises e (-1) l), rfl, ⟨ai _, by omega, by omega⟩, by omega, .inl ⟨rfl, rfl⟩, bj, rfl⟩]
  cases decide (Rises e (-1) l) <;> rfl
 ·rintro ⟨i, b, c, rfl, h1, h2, hb, hc, rfl⟩
  show tq n F l e (i : Int) = _
  unfold tq
  rcases aj i l.length with hlt | hge
  ·rw [dq (d := (0 : Int)) hlt] at hc
   rw [if_pos (af (by omega)), if_pos (cZ hlt), ah, dd (by omega)]
   have hno : ∀ (h : ¬ (b < l.getD i 0 ∧ l.getD i 0 < e)), c = false := fun h => by
    cases c with
    | false => rfl
    | true => exact absurd ⟨(hc.1 rfl).1, (hc.1 rfl).2.1⟩ h
   by_cases g1 : l.getD i 0 < 0
   ·rw [if_pos (af g1), hno (by omega)]; rfl
   rw [if_neg (by simpa using g1), if_pos (cZ hlt)]
   by_cases g2 : l.getD i 0 ≥ e
   ·rw [if_pos (af g2), hno (by omega)]; rfl
   rw [if_neg (by simpa using g2)]
   have hgo : b < l.getD i 0 → F (l, e, ((i + 1 : Nat) : Int)) = some (if c = true then .inr ((), ()) else .inl ((false, ()), ())) := fun h => hF _ _ ⟨i + 1, l.getD i 0, c, rfl, by omega, by omega, .inr ⟨by omega, rfl, by omega⟩, hc.trans ⟨fun h => h.2.2, fun k => ⟨h, by omega, k⟩⟩, rfl⟩
   by_cases g3 : 0 < i
   ·have hb : b = l.getD (i - 1) 0 := by rcases hb with h | h; omega; exact h.2.1
    rw [if_pos (af (by omega)), F6 g3 (by omega), if_pos (cZ (by omega)), if_pos (cZ hlt), ah]
    by_cases g4 : l.getD (i - 1) 0 ≥ l.getD i 0
    ·rw [if_pos (af g4), hno (by omega)]; rfl
    ·rw [if_neg (by simpa using g4)]
     exact hgo (by omega)
   ·rw [if_neg (by simp; omega)]
    exact hgo (by omega)
  ·have : i = l.length := by omega
   subst this
   rw [aD] at hc
   rw [if_neg (by simp), if_pos (hc.2 trivial)]
theorem nr (n : Nat) (a b c : Int) : Says (dE n a b c) (b ≤ a ∧ a ≤ c) := by
 unfold dE
 by_cases h : a ≥ b
 ·rw [if_pos (af h)]
  exact Says.dec.iff ⟨fun k => ⟨h, k⟩, fun k => k.2⟩
 ·rw [if_neg (by simpa using h)]
  exact Says.no (fun k => h k.1)
theorem LX {y : ByteArray} (h : y.size = 0) : y.toList = [] := by
 unfold ByteArray.toList ByteArray.toList.loop
 rw [if_neg (by omega)]
 rfl
def Dp (n : Nat) (s : ByteArray) (l : List dc) : ByteArray := l.foldl (fun s x => s ++ (fL n x).getD (ByteArray.mk #[])) s
theorem LY (n : Nat) (hn : 10 < n) {x : dc} (hx : dz x = true) : ∃ y, fL n x = some y ∧ 1 ≤ y.size ∧ y.size ≤ 30 := by
 obtain ⟨y, h1, h2, h3⟩ := HZ n hn x
 refine ⟨y, h1, ?_, h2⟩
 rcases cb y.size with h | h
 ·rw [LX h, K7, hx] at h3
  exact absurd h3 (by decide)
 ·exact h
theorem H3 (n : Nat) (hn : 10 < n) : ∀ (l : List dc) (s : ByteArray), (∀ x ∈ l, dz x = true) → s.size + l.length ≤ (Dp n s l).size
 | [], s, _ => ar _
 | x :: l, s, h => by
  obtain ⟨y, h1, h2, _⟩ := LY n hn (h x aF)
  have := H3 n hn l (s ++ (fL n x).getD (ByteArray.mk #[])) fun y hy => h y (aC _ hy)
  rw [bS, h1, bu] at this
  show _ ≤ (Dp n (s ++ (fL n x).getD (ByteArray.mk #[])) l).size
  rw [h1, bu, aI]
  omega
def K9 (l : List dc) : Prop := 1 ≤ l.length ∧ l.length ≤ 200 ∧ ∀ x ∈ l, dz x = true
theorem W6 (n : Nat) (hn : 200 < n) (l : List dc) : Says ((oB n l).bind fun y4 => some (!(y4.toList == (ByteArray.mk #[]).toList))) (K9 l) := by
 unfold oB qn
 by_cases hl : ¬ l.length ≤ 200
 ·rw [if_pos (af (by omega)), ab, aY]
  exact Says.no (fun h => hl h.2.1)
 have hl : l.length ≤ 200 := Decidable.not_not.1 hl
 rw [if_neg (by simp; omega)]
 have := dA (S := fun F => (dk q_) (mL n F)) (fun f x r => ∃ (i : Nat) (s : ByteArray), x = (s, l, (l.length : Int), (i : Int)) ∧ i ≤ l.length ∧ l.length < f + i ∧ s.size ≤ 30 * i ∧ r = if (l.drop i).all dz = true then .inr ((Dp n s (l.drop i), ()), ()) else .inl ((ByteArray.mk #[], ()), ())) (fun x r ⟨i, s, _, h1, h2, _⟩ => by omega) (fun f x F hF r => ?_) n (ByteArray.mk #[], l, (l.length : Int), 0) _ ⟨0, _, rfl, ai _, by omega, by decide, rfl⟩
 ·rw [this, aT, ab]
  cases h : l.all dz with
  | true =>
   have hr : ∀ x ∈ l, dz x = true := aN.1 h
   have hs := H3 n (by omega) l (ByteArray.mk #[]) hr
   refine Says.iff (p := 1 ≤ l.length) ?_ ⟨fun h => ⟨h, hl, hr⟩, fun h => h.1⟩
   refine ⟨_, rfl, ?_⟩
   show (!((Dp n (ByteArray.mk #[]) l).toList == (ByteArray.mk #[]).toList)) = true ↔ _
   by_cases h1 : 1 ≤ l.length
   ·rw [ua (by omega)]
    exact ⟨fun _ => h1, fun _ => rfl⟩
   ·have : l = [] := List.length_eq_zero_iff.1 (by omega)
    subst this
    rw [show Dp n (ByteArray.mk #[]) [] = ByteArray.mk #[] from rfl, aY]
    exact ⟨fun h => absurd h (by decide), fun h => absurd h h1⟩
  | false =>
   rw [if_neg (by decide)]
   show Says (some (!((ByteArray.mk #[]).toList == (ByteArray.mk #[]).toList))) _
   rw [aY]
   exact Says.no (fun k => by rw [aN.2 k.2.2] at h; cases h)
 ·rintro ⟨i, s, rfl, h1, h2, hs, rfl⟩
  show mL n F s l (l.length : Int) (i : Int) = _
  unfold mL
  rcases aj i l.length with hlt | hge
  ·obtain ⟨y, e1, e2, e3⟩ := HZ n (by omega) (l.getD i (0, 0, 0))
   rw [if_pos (af (by omega)), if_pos (cZ hlt), ah, dd (by omega), show fL n ((l.getD i (0, 0, 0)).1, (l.getD i (0, 0, 0)).2.1, (l.getD i (0, 0, 0)).2.2) = some y from e1, ab, e3, dq (d := ((0 : Int), (0 : Int), (0 : Int))) hlt, bN]
   cases hb : dz (l.getD i (0, 0, 0)) with
   | false => rfl
   | true =>
    rw [if_neg (by decide), if_pos (af (by omega)), az]
    refine hF _ _ ⟨i + 1, _, rfl, by omega, by omega, by rw [bS]; omega, ?_⟩
    rw [show Dp n s (l.getD i (0, 0, 0) :: l.drop (i + 1)) = Dp n (s ++ (fL n (l.getD i (0, 0, 0))).getD (ByteArray.mk #[])) (l.drop (i + 1)) from rfl, e1, bu]
  ·have : i = l.length := by omega
   subst this
   rw [if_neg (by simp), aD]
   rfl
def EZ (t : Tsk) : Prop := (1 ≤ t.1 ∧ t.1 ≤ 100) ∧ (1 ≤ t.2.1 ∧ t.2.1 ≤ 1048576) ∧ (1 ≤ t.2.2.1 ∧ t.2.2.1 ≤ t.2.1) ∧ (0 ≤ t.2.2.2.1 ∧ t.2.2.2.1 ≤ 1048576)
def gg (m : Img) (t : Tsk) : Prop := EZ t ∧ Rises m.blocks.length (-1) t.blocks ∧ Rises m.safe.length (-1) t.outs ∧ K9 t.code
theorem OY (n : Nat) (t : Tsk) : Says ((eL n t).bind fun y1 => some (Sh.eqT (.arr 4 (.int .i64)) y1 [t.1, t.2.1, t.2.2.1, t.2.2.2.1])) (EZ t) := by
 obtain ⟨a, b, c, d, t⟩ := t
 unfold eL EZ
 refine ⟨_, rfl, ?_⟩
 dsimp only
 rw [show ∀ x1 x2 x3 x4 y1 y2 y3 y4 : Int, Sh.eqT (.arr 4 (.int .i64)) [x1, x2, x3, x4] [y1, y2, y3, y4] = (x1 == y1 && (x2 == y2 && (x3 == y3 && (x4 == y4 && true)))) from fun _ _ _ _ _ _ _ _ => rfl]
 simp only [aq, ag, bk]
 constructor
 ·rintro ⟨h1, h2, h3, h4⟩
  repeat' split at h1
  all_goals (repeat' split at h4)
  all_goals (rw [h2] at h3; repeat' split at h2)
  all_goals (repeat' split at h3)
  all_goals omega
 ·rintro ⟨⟨h1, h2⟩, ⟨h3, h4⟩, ⟨h5, h6⟩, h7, h8⟩
  have e : (if (if 1048576 < b then 1048576 else b) > 1 then (if 1048576 < b then 1048576 else b) else 1) = b := by
   rw [if_neg (show ¬ 1048576 < b by omega)]; split <;> omega
  rw [e, if_neg (show ¬ 100 < a by omega), if_neg (show ¬ b < c by omega), if_neg (show ¬ 1048576 < d by omega)]
  refine ⟨?_, rfl, ?_, ?_⟩ <;> (split <;> omega)
theorem ID (n : Nat) (hn : 200 < n) (hn2 : n < 1000000) (m : Img) (t : Tsk) (hb : m.blocks.length + 1 < n) (ho : m.safe.length + 1 < n) : Says (gx n t m) (gg m t) := by
 obtain ⟨b, h1, h2⟩ := OY n t
 unfold gx
 unfold Option.bind at h1
 rw [show eL n (t.1, t.2.1, t.2.2.1, t.2.2.2.1, t.2.2.2.2.1, t.2.2.2.2.2.1, t.2.2.2.2.2.2) = eL n t from rfl]
 match hy : eL n t with
 | none => rw [hy] at h1; cases h1
 | some y =>
  rw [hy] at h1
  have h1 : Sh.eqT (.arr 4 (.int .i64)) y [t.1, t.2.1, t.2.2.1, t.2.2.2.1] = b := av h1
  rw [ab, h1]
  cases b with
  | false => exact Says.no (fun h => by have := h2.2 h.1; cases this)
  | true =>
   rw [if_neg (by decide)]
   have hN : EZ t := h2.1 rfl
   by_cases h0 : t.code.length = 0
   ·rw [if_pos (show (((t.2.2.2.2.2.2.length : Nat) : Int) == 0) = true from ag.2 (by have : t.code.length = t.2.2.2.2.2.2.length := rfl; omega))]
    exact Says.no (fun h => by have := h.2.2.2.1; omega)
   ·rw [if_neg (show ¬ (((t.2.2.2.2.2.2.length : Nat) : Int) == 0) = true from fun h => h0 (by have h := ag.1 h; have : t.code.length = t.2.2.2.2.2.2.length := rfl; omega))]
    refine Says.iff (p := Rises m.blocks.length (-1) t.blocks ∧ Rises m.safe.length (-1) t.outs ∧ K9 t.code) ?_ ⟨fun h => ⟨hN, h⟩, fun h => h.2⟩
    exact Says.and (K8 n t.blocks (m.blocks.length : Int) (by omega) (by omega) hn2) (Says.and (K8 n t.outs (m.safe.length : Int) (by omega) (by omega) hn2) (W6 n hn t.code) rfl) rfl
theorem aaU (n : Nat) (hn2 : n < 1000000) (m : Img) (t : Tsk) (hb : m.blocks.length + 1 < n) (ho : m.safe.length + 1 < n) (hc : t.code.length < n) (hi : InR t.code) : Says (yF n m t) (gg m t) := by
 unfold yF yE
 have := dA (S := fun F => (fj (dy (C_ q_))) (tr n F))
  (fun f x r => ∃ i : Nat, x = ((i : Int), m.1, m.2.1, m.2.2.1, m.2.2.2.1, m.2.2.2.2.1, m.2.2.2.2.2.1, m.2.2.2.2.2.2, t.1, t.2.1, t.2.2.1, t.2.2.2.1, t.2.2.2.2.1, t.2.2.2.2.2.1, t.2.2.2.2.2.2) ∧ i ≤ t.code.length ∧ t.code.length < f + i ∧ r = if (t.code.drop i).all dz = true then .inr ((), ((m.1, m.2.1, m.2.2.1, m.2.2.2.1, m.2.2.2.2.1, m.2.2.2.2.2.1, m.2.2.2.2.2.2, ()), (t.1, t.2.1, t.2.2.1, t.2.2.2.1, t.2.2.2.2.1, t.2.2.2.2.2.1, t.2.2.2.2.2.2, ()), ())) else .inl ((false, ()), ((m.1, m.2.1, m.2.2.1, m.2.2.2.1, m.2.2.2.2.1, m.2.2.2.2.2.1, m.2.2.2.2.2.2, ()), (t.1, t.2.1, t.2.2.1, t.2.2.2.1, t.2.2.2.2.1, t.2.2.2.2.2.1, t.2.2.2.2.2.2, ()), ()))) (fun x r ⟨i, _, h1, h2, _⟩ => by omega) (fun f x F hF r => ?_) n (0, m.1, m.2.1, m.2.2.1, m.2.2.2.1, m.2.2.2.2.1, m.2.2.2.2.2.1, m.2.2.2.2.2.2, t.1, t.2.1, t.2.2.1, t.2.2.2.1, t.2.2.2.2.1, t.2.2.2.2.2.1, t.2.2.2.2.2.2) _ ⟨0, rfl, ai _, by omega, rfl⟩
 ·rw [this, aT, ab]
  cases h : t.code.all dz with
  | false => exact Says.no (fun k => by rw [aN.2 k.2.2.2.2.2] at h; cases h)
  | true =>
   have hr := aN.1 h
   refine Says.iff (p := (1 ≤ t.1 ∧ t.1 ≤ 100) ∧ (1 ≤ t.2.1 ∧ t.2.1 ≤ 1048576) ∧ (1 ≤ t.2.2.1 ∧ t.2.2.1 ≤ t.2.1) ∧ (0 ≤ t.2.2.2.1 ∧ t.2.2.2.1 ≤ 1048576) ∧ Rises m.blocks.length (-1) t.blocks ∧ Rises m.safe.length (-1) t.outs ∧ (1 ≤ (t.code.length : Int) ∧ (t.code.length : Int) ≤ 200)) ?_ ⟨fun ⟨h1, h2, h3, h4, h5, h6, h7⟩ => ⟨⟨h1, h2, h3, h4⟩, h5, h6, by omega, by omega, hr⟩, fun ⟨⟨h1, h2, h3, h4⟩, h5, h6, h7, h8, _⟩ => ⟨h1, h2, h3, h4, h5, h6, by omega, by omega⟩⟩
   have hlast := nr n (t.code.length : Int) 1 200
   refine Says.and (nr n t.1 1 100) (Says.and (nr n t.2.1 1 1048576) (Says.and (nr n t.2.2.1 1 t.2.1) (Says.and (nr n t.2.2.2.1 0 1048576) (Says.and (Al n t.blocks (m.blocks.length : Int) (by omega) (by omega) hn2) (Says.and (Al n t.outs (m.safe.length : Int) (by omega) (by omega) hn2) ?_ rfl) rfl) rfl) rfl) rfl) rfl
   obtain ⟨b, e1, e2⟩ := hlast
   refine ⟨b, ?_, e2⟩
   show (dE n (t.code.length : Int) 1 200).bind _ = _
   rw [e1]
   rfl
 ·rintro ⟨i, rfl, h1, h2, rfl⟩
  show tr n F (i : Int) m.1 m.2.1 m.2.2.1 m.2.2.2.1 m.2.2.2.2.1 m.2.2.2.2.2.1 m.2.2.2.2.2.2 t.1 t.2.1 t.2.2.1 t.2.2.2.1 t.2.2.2.2.1 t.2.2.2.2.2.1 t.2.2.2.2.2.2 = _
  unfold tr
  rcases aj i t.code.length with hlt | hge
  ·have hm : t.code.getD i (0, 0, 0) ∈ t.code := by rw [ao, au hlt]; exact aL hlt
   have hR : dJ n ((t.2.2.2.2.2.2.getD i (0, 0, 0)).1, (t.2.2.2.2.2.2.getD i (0, 0, 0)).2.1, (t.2.2.2.2.2.2.getD i (0, 0, 0)).2.2) = some (dz (t.code.getD i (0, 0, 0))) := (vc n (t.code.getD i (0, 0, 0)) (hi _ hm)).trans (eM n _)
   rw [if_pos (show decide ((i : Int) < (t.2.2.2.2.2.2.length : Int)) = true from af (by have : t.code.length = t.2.2.2.2.2.2.length := rfl; omega)), if_pos (show (decide (0 ≤ (i : Int)) && decide ((i : Int) < (t.2.2.2.2.2.2.length : Int))) = true from cZ hlt), ah, dd (by omega), hR, ab, dq (d := ((0 : Int), (0 : Int), (0 : Int))) hlt, bN]
   cases hb : dz (t.code.getD i (0, 0, 0)) with
   | false => rfl
   | true =>
    rw [if_neg (by decide), az]
    exact hF _ _ ⟨i + 1, rfl, by omega, by omega, rfl⟩
  ·have : i = t.code.length := by omega
   subst this
   rw [if_neg (by simp), aD]
   rfl
def apart : List Int → List Int → Bool
 | _, [] => true
 | s, x :: l => !s.contains x && apart (s ++ [x]) l
def oj : List Int → List Int → List Int
 | s, [] => s
 | s, x :: l => if s.contains x = true then s else oj (s ++ [x]) l
theorem H4 : ∀ {l s : List Int}, apart s l = true → oj s l = s ++ l
 | [], s, _ => by simp [oj]
 | x :: l, s, h => by
  unfold apart at h
  rw [aq, cn] at h
  unfold oj
  rw [if_neg (by rw [h.1]; decide), H4 h.2, aQ]
  rfl
theorem Am : ∀ {l k s : List Int}, apart s (l ++ k) = (apart s l && apart (s ++ l) k)
 | [], k, s => by simp [apart]
 | x :: l, k, s => by
  rw [List.cons_append, show apart s (x :: (l ++ k)) = (!s.contains x && apart (s ++ [x]) (l ++ k)) from rfl, show apart s (x :: l) = (!s.contains x && apart (s ++ [x]) l) from rfl, Am, Bool.and_assoc, aQ]
  rfl
def own (s : List Int) : List Bool := (List.range 16).map fun i => s.contains ((i : Nat) : Int)
theorem W7 (s : List Int) {o : Int} (h0 : 0 ≤ o) (h1 : o < 16) : (own s).getD o.toNat false = s.contains o := by
 unfold own
 rw [ao, bs, cH (by omega)]
 simp [Int.toNat_of_nonneg h0]
theorem W8 (s : List Int) {o : Int} (h0 : 0 ≤ o) (h1 : o < 16) : (own s).set o.toNat true = own (s ++ [o]) := by
 apply List.ext_getElem
 ·simp [own]
 ·intro i h2 h3
  have hi : i < 16 := by simpa [own] using h3
  rw [List.getElem_set]
  unfold own
  simp only [List.getElem_map, List.getElem_range, List.contains_append]
  by_cases h : o.toNat = i
  ·rw [if_pos h]
   have : ((i : Nat) : Int) = o := by omega
   rw [this]
   simp
  ·rw [if_neg h]
   have : ((i : Nat) : Int) ≠ o := by omega
   simp [this]
theorem OZ (n : Nat) (m : Img) (T : List Tsk) (a k : Int) (l : List Int) (hl : l.length < n) (hn : n < 1000000) (hb : ∀ x ∈ l, 0 ≤ x ∧ x < 16) (s : List Int) : rl n (T, a, k, l, (l.length : Int), 0, m.1, m.2.1, m.2.2.1, m.2.2.2.1, m.2.2.2.2.1, m.2.2.2.2.2.1, m.2.2.2.2.2.2, own s) = some (if apart s l = true then .inr ((T, a, k, ()), ((m.1, m.2.1, m.2.2.1, m.2.2.2.1, m.2.2.2.2.1, m.2.2.2.2.2.1, m.2.2.2.2.2.2, ()), (own (oj s l), ()), ())) else .inl ((false, ()), ((m.1, m.2.1, m.2.2.1, m.2.2.2.1, m.2.2.2.2.1, m.2.2.2.2.2.1, m.2.2.2.2.2.2, ()), (own (oj s l), ()), ()))) := by
 unfold rl
 refine dA (S := fun F => (fj (dy q_)) (sF n F))
  (fun f x r => ∃ (i : Nat) (s : List Int), x = (T, a, k, l, (l.length : Int), (i : Int), m.1, m.2.1, m.2.2.1, m.2.2.2.1, m.2.2.2.2.1, m.2.2.2.2.2.1, m.2.2.2.2.2.2, own s) ∧ i ≤ l.length ∧ l.length < f + i ∧ r = if apart s (l.drop i) = true then .inr ((T, a, k, ()), ((m.1, m.2.1, m.2.2.1, m.2.2.2.1, m.2.2.2.2.1, m.2.2.2.2.2.1, m.2.2.2.2.2.2, ()), (own (oj s (l.drop i)), ()), ())) else .inl ((false, ()), ((m.1, m.2.1, m.2.2.1, m.2.2.2.1, m.2.2.2.2.1, m.2.2.2.2.2.1, m.2.2.2.2.2.2, ()), (own (oj s (l.drop i)), ()), ()))) (fun x r ⟨i, s, _, h1, h2, _⟩ => by omega) (fun f x F hF r => ?_) n _ _ ⟨0, s, rfl, ai _, by omega, rfl⟩
 rintro ⟨i, s, rfl, h1, h2, rfl⟩
 show sF n F T a k l (l.length : Int) (i : Int) m.1 m.2.1 m.2.2.1 m.2.2.2.1 m.2.2.2.2.1 m.2.2.2.2.2.1 m.2.2.2.2.2.2 (own s) = _
 unfold sF
 rcases aj i l.length with hlt | hge
 ·have hm : l.getD i 0 ∈ l := by rw [ao, au hlt]; exact aL hlt
  obtain ⟨h3, h4⟩ := hb _ hm
  have h5 : (decide (0 ≤ l.getD i 0) && decide (l.getD i 0 < 16)) = true := by rw [af h3, af h4]; rfl
  rw [if_pos (af (by omega)), if_pos (cZ hlt), ah, if_pos h5, W7 s h3 h4, dq (d := (0 : Int)) hlt, dd (by omega)]
  unfold apart oj
  cases h : s.contains (l.getD i 0) with
  | true => rfl
  | false =>
   rw [if_neg (show ¬ (false = true) by decide), if_neg (show ¬ (false = true) by decide), if_pos h5, W8 s h3 h4, ci, az]
   exact hF _ _ ⟨i + 1, _, rfl, by omega, by omega, rfl⟩
 ·have : i = l.length := by omega
  subst this
  rw [if_neg (by simp), aD]
  rfl
def TasksOk (m : Img) : List Int → List Tsk → Prop
 | _, [] => True
 | s, t :: l => gg m t ∧ apart s t.outs = true ∧ TasksOk m (s ++ t.outs) l
theorem TasksOk.all {m : Img} : ∀ {l : List Tsk} {s : List Int}, TasksOk m s l ↔ (∀ t ∈ l, gg m t) ∧ apart s (l.flatMap Tsk.outs) = true
 | [], s => by simp [TasksOk, apart]
 | t :: l, s => by
  unfold TasksOk
  rw [TasksOk.all, co, Am, aq, cK]
  exact ⟨fun ⟨h1, h2, h3, h4⟩ => ⟨⟨h1, h3⟩, h2, h4⟩, fun ⟨⟨h1, h3⟩, h2, h4⟩ => ⟨h1, h2, h3, h4⟩⟩
open Classical in
def E0 (m : Img) : List Int → List Tsk → List Int
 | s, [] => s
 | s, t :: l => if gg m t then (if apart s t.outs = true then E0 m (s ++ t.outs) l else oj s t.outs) else s
theorem O0 (n : Nat) (hn : 200 < n) (hn2 : n < 1000000) (m : Img) (hbl : m.blocks.length + 1 < n) (hs : m.safe.length ≤ 16) (hT : m.tasks.length < n) :
  Says ((rm n (m.tasks, (m.tasks.length : Int), 0, m.1, m.2.1, m.2.2.1, m.2.2.2.1, m.2.2.2.2.1, m.2.2.2.2.2.1, m.2.2.2.2.2.2, own [])).bind fun y => Sum.elim (fun z => some z.1.1) (fun z => some true) y) (TasksOk m [] m.tasks) := by
 unfold rm
 have hit := dA (S := fun F => (fj (C_ q_)) (sG n F))
  (fun f x r => ∃ (i : Nat) (s : List Int) (c : Bool), x = (m.tasks, (m.tasks.length : Int), (i : Int), m.1, m.2.1, m.2.2.1, m.2.2.2.1, m.2.2.2.2.1, m.2.2.2.2.2.1, m.2.2.2.2.2.2, own s) ∧ i ≤ m.tasks.length ∧ m.tasks.length < f + i ∧ (c = true ↔ TasksOk m s (m.tasks.drop i)) ∧ r = if c = true then .inr ((), ((m.1, m.2.1, m.2.2.1, m.2.2.2.1, m.2.2.2.2.1, m.2.2.2.2.2.1, m.2.2.2.2.2.2, ()), (own (E0 m s (m.tasks.drop i)), ()), ())) else .inl ((false, ()), ((m.1, m.2.1, m.2.2.1, m.2.2.2.1, m.2.2.2.2.1, m.2.2.2.2.2.1, m.2.2.2.2.2.2, ()), (own (E0 m s (m.tasks.drop i)), ()), ()))) (fun x r ⟨i, s, c, _, h1, h2, _⟩ => by omega) (fun f x F hF r => ?_) n (m.tasks, (m.tasks.length : Int), 0, m.1, m.2.1, m.2.2.1, m.2.2.2.1, m.2.2.2.2.1, m.2.2.2.2.2.1, m.2.2.2.2.2.2, own [])
 ·have := Classical.propDecidable (TasksOk m [] m.tasks)
  refine ⟨decide (TasksOk m [] m.tasks), ?_, bj⟩
  rw [hit _ ⟨0, [], decide (TasksOk m [] m.tasks), rfl, ai _, by omega, bj, rfl⟩, ab]
  cases decide (TasksOk m [] m.tasks) <;> rfl
 ·rintro ⟨i, s, c, rfl, h1, h2, hc, rfl⟩
  show sG n F m.tasks (m.tasks.length : Int) (i : Int) m.1 m.2.1 m.2.2.1 m.2.2.2.1 m.2.2.2.2.1 m.2.2.2.2.2.1 m.2.2.2.2.2.2 (own s) = _
  unfold sG
  rcases aj i m.tasks.length with hlt | hge
  ·rw [dq (d := ((0 : Int), (0 : Int), (0 : Int), (0 : Int), ([] : List Int), ([] : List Int), ([] : List dc))) hlt] at hc ⊢
   rw [if_pos (af (by omega)), if_pos (cZ hlt), ah]
   generalize m.tasks.getD i (0, 0, 0, 0, [], [], []) = t at hc ⊢
   obtain ⟨b, e1, e2⟩ := ID n hn hn2 m t hbl (by omega)
   rw [show gx n (t.1, t.2.1, t.2.2.1, t.2.2.2.1, t.2.2.2.2.1, t.2.2.2.2.2.1, t.2.2.2.2.2.2) (m.1, m.2.1, m.2.2.1, m.2.2.2.1, m.2.2.2.2.1, m.2.2.2.2.2.1, m.2.2.2.2.2.2) = some b from e1, ab]
   cases b with
   | false =>
    have ht : ¬ gg m t := fun h => by have := e2.2 h; cases this
    have hc0 : c = false := by cases c with
     | false => rfl
     | true => exact absurd (hc.1 rfl).1 ht
    rw [hc0]
    unfold E0
    rw [if_neg ht]
    rfl
   | true =>
    have ht : gg m t := e2.1 rfl
    have hr := ht.2.2.1
    have hlen := hr.len (by omega)
    have hmem := hr.mem
    rw [if_neg (by decide), OZ n m m.tasks _ _ t.outs (by omega) hn2 (fun x hx => by have := hmem x hx; omega) s, ab]
    unfold E0
    rw [if_pos ht]
    cases ha : apart s t.outs with
    | false =>
     have hc0 : c = false := by cases c with
      | false => rfl
      | true => have := (hc.1 rfl).2.1; rw [ha] at this; cases this
     rw [hc0]
     rfl
    | true =>
     rw [if_pos rfl, H4 ha, if_pos rfl]
     dsimp only [Sum.elim_inr]
     rw [dd (by omega)]
     exact hF _ _ ⟨i + 1, s ++ t.outs, c, rfl, by omega, by omega, hc.trans ⟨fun h => h.2.2, fun h => ⟨ht, ha, h⟩⟩, rfl⟩
  ·have : i = m.tasks.length := by omega
   subst this
   rw [aD] at hc ⊢
   rw [if_neg (by simp), if_pos (hc.2 trivial)]
   rfl
end Go.Proofs.Dk
