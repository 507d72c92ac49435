/- A part of the proofs: Plain: what is wrong with a task. -/
import Derived.Test.YtipefepnkpoiaaaGreatMB6
import Derived.Test.YtipefepnkpoiaaaGreatMB4
set_option linter.unusedVariables false
set_option linter.unusedSimpArgs false
noncomputable section
namespace Go.Proofs.Dk
open Go Go.IntKind
set_option maxRecDepth 100000
theorem By (n : Nat) (hn : n < 1000000) (a b : List Int) (ha : a.length < n) : u7 n a b = some (decide (a = b)) := by
 unfold u7 u6
 by_cases hl : a.length = b.length
 ·rw [if_neg (fun h => aw.1 h (by rw [hl]))]
  have := iT (S := fun F => (C_ q_) (qG n F)) (fun f x r => ∃ i : Nat, x = (a, b, (i : Int)) ∧ i ≤ a.length ∧ a.length < f + i ∧ r = if a.drop i = b.drop i then .inr ((), ()) else .inl ((false, ()), ())) (fun x r ⟨i, _, h1, h2, _⟩ => by omega) (fun f x F hF r => ?_) n (a, b, 0) _ ⟨0, rfl, ay _, by omega, rfl⟩
  ·rw [this, bx, bx]
   by_cases h : a = b
   ·rw [if_pos h, af h]; rfl
   ·rw [if_neg h, bg h]; rfl
  ·rintro ⟨i, rfl, h1, h2, rfl⟩
   show qG n F a b (i : Int) = _
   unfold qG
   rcases am i a.length with hlt | hge
   ·rw [if_pos (af (by omega)), if_pos (db hlt), if_pos (db (by omega)), ag, en (d := (0 : Int)) hlt, en (l := b) (d := (0 : Int)) (by omega)]
    by_cases e : a.getD i 0 = b.getD i 0
    ·rw [if_neg (fun h => aw.1 h e), dC (by omega), e]
     refine hF _ _ ⟨i + 1, rfl, by omega, by omega, ?_⟩
     simp only [bm, true_and]
    ·rw [if_pos (aw.2 e), if_neg (fun h => e (List.cons.inj h).1)]
   ·have : i = a.length := by omega
    subst this
    rw [if_neg (by simp), bj, hl, bj]
    rfl
 ·rw [if_pos (show ((a.length : Int) != (b.length : Int)) = true from aw.2 (fun h => hl (Int.ofNat.inj h))), bg (fun h => hl (by rw [h]))]
theorem Bz (l : List cZ) : ∀ (r i p : Nat), i ≤ p → p < i + r → opAt l p = 23 → dd l p ∈ jk l r i
 | 0, i, p, h1, h2, h3 => by omega
 | r + 1, i, p, h1, h2, h3 => by
  rw [show jk l (r + 1) i = mV l i ++ jk l r (i + 1) from rfl, aA]
  by_cases h : i = p
  ·subst h
   left
   unfold mV
   rw [if_pos h3]
   exact aD
  ·exact .inr (Bz l r (i + 1) p (by omega) (by omega) h3)
theorem zJ {l : List cZ} (h : eb l = 0) {i : Nat} (hi : i < l.length) (ho : opAt l i = 17 ∨ opAt l i = 18) : dd l i ∈ f5 l := by
 have hb := LI h hi
 unfold j8 at hb
 rw [if_neg (by omega), if_pos ho, Bool.not_eq_false'] at hb
 unfold vc at hb
 obtain ⟨k, h1, h2⟩ := anyB_iff.1 hb
 simp only [aj, ai] at h2
 unfold f5
 rw [if_pos h, ← h2.2.2]
 exact Bz l _ _ k (ay _) (by omega) h2.2.1
theorem Ce {m : Img} {t : Tsk} (hl : eb t.code = 0) (hb : f5 t.code = t.blocks) (ht : lU m t) : ∀ i ∈ t.code, i.1 = 17 ∨ i.1 = 18 → 0 ≤ i.2.1 ∧ i.2.1 < (m.blocks.length : Int) := by
 intro x hx ho
 obtain ⟨i, hi, e⟩ := co hx
 have e : t.code.getD i (0, 0, 0) = x := by rw [vW hi, e]
 have h := zJ hl hi (by unfold opAt; rw [e]; exact ho)
 rw [hb] at h
 have := ht.2.1.mem _ h
 unfold dd at this
 rw [e] at this
 omega
open Classical in
def n5 (n : Nat) (m : Img) (i : Int) : Int :=
 if RightP m then
  if i < 0 ∨ i ≥ (m.tasks.length : Int) then 14
  else
   let t := m.tasks.getD i.toNat (0, 0, 0, 0, [], [], [])
   if (fH bM n t.code).2 ≠ 0 then (fH bM n t.code).2 else if f5 t.code = t.blocks then (if t.code.all (lT m t) = true then 0 else 12) else 11
 else 12
theorem RightP.task {m : Img} (h : RightP m) {i : Int} (h0 : 0 ≤ i) (h1 : i < (m.tasks.length : Int)) : lU m (m.tasks.getD i.toNat (0, 0, 0, 0, [], [], [])) ∧ m.tasks.getD i.toNat (0, 0, 0, 0, [], [], []) ∈ m.tasks := by
 have hlt : i.toNat < m.tasks.length := by omega
 have hm : m.tasks.getD i.toNat ((0 : Int), (0 : Int), (0 : Int), (0 : Int), ([] : List Int), ([] : List Int), ([] : List cZ)) ∈ m.tasks := by rw [aq, ax hlt]; exact bA hlt
 exact ⟨(TasksOk.all.1 h.2.2).1 _ hm, hm⟩
theorem M8 (n : Nat) (hn : 200 < n) (hn2 : n < 1000000) (m : Img) (i : Int) : lH n m i = some (n5 n m i) := by
 obtain ⟨b, e1, e2⟩ := vx n hn hn2 m
 unfold lH
 rw [show rW n (m.1, m.2.1, m.2.2.1, m.2.2.2.1, m.2.2.2.2.1, m.2.2.2.2.2.1, m.2.2.2.2.2.2) = some b from e1, ae]
 unfold n5
 cases b with
 | false =>
  rw [if_pos (show (!false) = true from rfl), if_neg (show ¬ RightP m from fun h => by have := e2.2 h; cases this)]
 | true =>
  have hR := e2.1 rfl
  rw [if_pos hR, if_neg (by decide)]
  by_cases h0 : i < 0
  ·rw [if_pos (af h0), if_pos (.inl h0)]
  rw [if_neg (by simpa using h0)]
  by_cases h1 : i ≥ (m.tasks.length : Int)
  ·rw [if_pos (show decide (i ≥ (m.2.2.2.2.2.2.length : Int)) = true from af h1), if_pos (.inr h1)]
  rw [if_neg (show ¬ decide (i ≥ (m.2.2.2.2.2.2.length : Int)) = true from fun h => h1 (aR h)), if_neg (show ¬ (i < 0 ∨ i ≥ (m.tasks.length : Int)) by omega), if_pos (show (decide (0 ≤ i) && decide (i < (m.2.2.2.2.2.2.length : Int))) = true by rw [af (by omega), af (show i < (m.2.2.2.2.2.2.length : Int) from by have : (m.tasks.length : Int) = (m.2.2.2.2.2.2.length : Int) := rfl; omega)]; rfl)]
  obtain ⟨ht, hm⟩ := hR.task (i := i) (by omega) (by omega)
  rw [show m.2.2.2.2.2.2.getD i.toNat (0, 0, 0, 0, [], [], []) = m.tasks.getD i.toNat (0, 0, 0, 0, [], [], []) from rfl]
  generalize m.tasks.getD i.toNat (0, 0, 0, 0, [], [], []) = t at ht ⊢
  have hc : t.code.length < n := by have := ht.2.2.2.2.1; omega
  have hol : t.outs.length < n := by have := ht.2.2.1.len (by omega); have := hR.1.2.2.2.2.1; omega
  have hS : ij n ((t.1, t.2.1, t.2.2.1, t.2.2.2.1, t.2.2.2.2.1, t.2.2.2.2.2.1, t.2.2.2.2.2.2), (m.1, m.2.1, m.2.2.1, m.2.2.2.1, m.2.2.2.2.1, m.2.2.2.2.2.1, m.2.2.2.2.2.2)) = some (fH bM n t.code).2 := by
   unfold ij
   rw [show gz n (((t.1, t.2.1, t.2.2.1, t.2.2.2.1, t.2.2.2.2.1, t.2.2.2.2.2.1, t.2.2.2.2.2.2), (m.1, m.2.1, m.2.2.1, m.2.2.2.1, m.2.2.2.2.1, m.2.2.2.2.2.1, m.2.2.2.2.2.2)) : Tsk × Img).1.2.2.2.2.2.2 = some (fH bM n t.code) from Ea n t.code hc (by omega) hn2]
   rfl
  rw [hS, ae]
  dsimp only
  by_cases hz : (fH bM n t.code).2 ≠ 0
  ·rw [if_pos (aw.2 hz), if_pos hz]
  rw [if_neg (fun h => hz (aw.1 h)), if_neg hz]
  have hlk := (yc (Decidable.not_not.1 hz)).1
  have hB : uK n ((t.1, t.2.1, t.2.2.1, t.2.2.2.1, t.2.2.2.2.1, t.2.2.2.2.2.1, t.2.2.2.2.2.2), (m.1, m.2.1, m.2.2.1, m.2.2.2.1, m.2.2.2.2.1, m.2.2.2.2.2.1, m.2.2.2.2.2.2)) = some (if f5 t.code = t.blocks then 0 else 11) := by
   have := JK n t m hc (by omega) hn2
   rw [if_neg (fun h => h hlk)] at this
   exact this
  rw [hB, ae]
  by_cases hb : f5 t.code = t.blocks
  ·rw [if_pos hb, if_pos hb, if_neg (by decide)]
   have hN : zc n ((t.1, t.2.1, t.2.2.1, t.2.2.2.1, t.2.2.2.2.1, t.2.2.2.2.2.1, t.2.2.2.2.2.2), (m.1, m.2.1, m.2.2.1, m.2.2.2.1, m.2.2.2.2.1, m.2.2.2.2.2.1, m.2.2.2.2.2.2)) = _ := LV n t m hc hol hn2 (Ce hlk hb ht)
   rw [hN, ae]
   cases t.code.all (lT m t) <;> rfl
  ·rw [if_neg hb, if_neg hb]
   rfl
def eY (k : Nat) : Int := if (100 : Int) < (k : Int) then 100 else (k : Int)
def eL (k : Nat) : Int := if (10000 : Int) < (k : Int) then 10000 else (k : Int)
theorem ll (k : Nat) : 0 ≤ eY k ∧ eY k ≤ 100 := by unfold eY; split <;> omega
theorem pX (k : Nat) : 0 ≤ eL k ∧ eL k ≤ 10000 := by unfold eL; split <;> omega
def kp (a : Int) (l : List (List Int)) : Int := l.foldl (fun a b => a + eY b.length) a
def ny (a : Int) (l : List Tsk) : Int := l.foldl (fun a t => a + eY t.blocks.length + eY t.outs.length + (eL t.code.length).tdiv 20) a
theorem BA : ∀ {l : List (List Int)} {a : Int}, a ≤ kp a l ∧ kp a l ≤ a + 100 * l.length
 | [], a => by simp [kp]
 | b :: l, a => by
  have := BA (l := l) (a := a + eY b.length)
  have := ll b.length
  rw [show kp a (b :: l) = kp (a + eY b.length) l from rfl, aH]
  omega
theorem BC : ∀ {l : List Tsk} {a : Int}, a ≤ ny a l ∧ ∀ t ∈ l, a + (eL t.code.length).tdiv 20 ≤ ny a l
 | [], a => by simp [ny]
 | t :: l, a => by
  obtain ⟨h1, h2⟩ := BC (l := l) (a := a + eY t.blocks.length + eY t.outs.length + (eL t.code.length).tdiv 20)
  have h3 := ll t.blocks.length
  have h4 := ll t.outs.length
  have h5 := pX t.code.length
  have h6 : (eL t.code.length).tdiv 20 = eL t.code.length / 20 := cN h5.1
  rw [show ny a (t :: l) = ny (a + eY t.blocks.length + eY t.outs.length + (eL t.code.length).tdiv 20) l from rfl, List.forall_mem_cons]
  refine ⟨by omega, by omega, fun u hu => ?_⟩
  have := h2 u hu
  omega
theorem JM (n : Nat) (hn : n < 1000000) (m : Img) (hT : m.blocks.length < n) (a : Int) (ha : 0 ≤ a ∧ a ≤ 80) : rP n (a, 0, m.1, m.2.1, m.2.2.1, m.2.2.2.1, m.2.2.2.2.1, m.2.2.2.2.2.1, m.2.2.2.2.2.2) = some (kp a m.blocks, m.1, m.2.1, m.2.2.1, m.2.2.2.1, m.2.2.2.2.1, m.2.2.2.2.2.1, m.2.2.2.2.2.2) := by
 unfold rP
 refine iT (S := fun F => (ew (d8 (C_ q_))) (t7 n F))
  (fun f x r => ∃ (i : Nat) (b : Int), x = (b, (i : Int), m.1, m.2.1, m.2.2.1, m.2.2.2.1, m.2.2.2.2.1, m.2.2.2.2.2.1, m.2.2.2.2.2.2) ∧ i ≤ m.blocks.length ∧ m.blocks.length < f + i ∧ (0 ≤ b ∧ b ≤ 80 + 100 * i) ∧ r = (kp b (m.blocks.drop i), m.1, m.2.1, m.2.2.1, m.2.2.2.1, m.2.2.2.2.1, m.2.2.2.2.2.1, m.2.2.2.2.2.2)) (fun x r ⟨i, b, _, h1, h2, _⟩ => by omega) (fun f x F hF r => ?_) n _ _ ⟨0, a, rfl, ay _, by omega, by omega, rfl⟩
 rintro ⟨i, b, rfl, h1, h2, hb, rfl⟩
 show t7 n F b (i : Int) m.1 m.2.1 m.2.2.1 m.2.2.2.1 m.2.2.2.2.1 m.2.2.2.2.2.1 m.2.2.2.2.2.2 = _
 unfold t7
 rcases am i m.blocks.length with hlt | hge
 ·rw [if_pos (show decide ((i : Int) < (m.2.2.2.2.2.1.length : Int)) = true from af (by exact_mod_cast hlt)), if_pos (show (decide (0 ≤ (i : Int)) && decide ((i : Int) < (m.2.2.2.2.2.1.length : Int))) = true from db hlt), ag, dC (by omega), en (d := ([] : List Int)) hlt]
  have hc := ll (m.blocks.getD i []).length
  show F (wrap .i64 (b + eY (m.blocks.getD i []).length), _) = _
  rw [dQ (show -9223372036854775808 ≤ b + eY (m.blocks.getD i []).length by omega) (show b + eY (m.blocks.getD i []).length ≤ 9223372036854775807 by omega)]
  exact hF _ _ ⟨i + 1, _, rfl, by omega, by omega, by omega, rfl⟩
 ·have : i = m.blocks.length := by omega
  subst this
  rw [if_neg (by simp), bj]
  rfl
theorem JN (n : Nat) (hn : n < 1000000) (m : Img) (hT : m.tasks.length < n) (hB : m.blocks.length < n) (a : Int) (ha : 0 ≤ a ∧ a ≤ 80 + 100 * m.blocks.length) : oN n (a, 0, m.1, m.2.1, m.2.2.1, m.2.2.2.1, m.2.2.2.2.1, m.2.2.2.2.2.1, m.2.2.2.2.2.2) = some (ny a m.tasks, m.1, m.2.1, m.2.2.1, m.2.2.2.1, m.2.2.2.2.1, m.2.2.2.2.2.1, m.2.2.2.2.2.2) := by
 unfold oN
 refine iT (S := fun F => (ew (d8 (C_ q_))) (t8 n F))
  (fun f x r => ∃ (i : Nat) (b : Int), x = (b, (i : Int), m.1, m.2.1, m.2.2.1, m.2.2.2.1, m.2.2.2.2.1, m.2.2.2.2.2.1, m.2.2.2.2.2.2) ∧ i ≤ m.tasks.length ∧ m.tasks.length < f + i ∧ (0 ≤ b ∧ b ≤ 80 + 100 * m.blocks.length + 700 * i) ∧ r = (ny b (m.tasks.drop i), m.1, m.2.1, m.2.2.1, m.2.2.2.1, m.2.2.2.2.1, m.2.2.2.2.2.1, m.2.2.2.2.2.2)) (fun x r ⟨i, b, _, h1, h2, _⟩ => by omega) (fun f x F hF r => ?_) n _ _ ⟨0, a, rfl, ay _, by omega, by omega, rfl⟩
 rintro ⟨i, b, rfl, h1, h2, hb, rfl⟩
 show t8 n F b (i : Int) m.1 m.2.1 m.2.2.1 m.2.2.2.1 m.2.2.2.2.1 m.2.2.2.2.2.1 m.2.2.2.2.2.2 = _
 unfold t8
 rcases am i m.tasks.length with hlt | hge
 ·rw [if_pos (show decide ((i : Int) < (m.2.2.2.2.2.2.length : Int)) = true from af (by exact_mod_cast hlt)), if_pos (show (decide (0 ≤ (i : Int)) && decide ((i : Int) < (m.2.2.2.2.2.2.length : Int))) = true from db hlt), ag, dC (by omega), en (d := ((0 : Int), (0 : Int), (0 : Int), (0 : Int), ([] : List Int), ([] : List Int), ([] : List cZ))) hlt]
  rw [show m.2.2.2.2.2.2.getD i (0, 0, 0, 0, [], [], []) = m.tasks.getD i (0, 0, 0, 0, [], [], []) from rfl]
  generalize m.tasks.getD i (0, 0, 0, 0, [], [], []) = t
  have h3 := ll t.blocks.length
  have h4 := ll t.outs.length
  have h5 := pX t.code.length
  have h6 : (eL t.code.length).tdiv 20 = eL t.code.length / 20 := cN h5.1
  show F (wrap .i64 (wrap .i64 (wrap .i64 (b + eY t.blocks.length) + eY t.outs.length) + wrap .i64 ((eL t.code.length).tdiv 20)), _) = _
  rw [dQ (e := (eL t.code.length).tdiv 20) (by omega) (by omega), dQ (e := b + eY t.blocks.length) (by omega) (by omega), dQ (e := b + eY t.blocks.length + eY t.outs.length) (by omega) (by omega), dQ (e := b + eY t.blocks.length + eY t.outs.length + (eL t.code.length).tdiv 20) (by omega) (by omega)]
  exact hF _ _ ⟨i + 1, _, rfl, by omega, by omega, by omega, rfl⟩
 ·have : i = m.tasks.length := by omega
  subst this
  rw [if_neg (by simp), bj]
  rfl
theorem LW (n : Nat) (hn0 : 200 < n) (hn : n < 1000000) (m : Img) (hs : m.safe.length < 9000000000000000 ∧ m.blocks.length < 9000000000000000 ∧ m.tasks.length < 9000000000000000) : nV n m = some 0 ∨ (nV n m = some 1 ∧ Ev m) := by
 unfold nV
 have e : wrap .i64 (wrap .i64 ((m.safe.length : Int) + (m.blocks.length : Int)) + (m.tasks.length : Int)) = (m.safe.length : Int) + (m.blocks.length : Int) + (m.tasks.length : Int) := by
  rw [dQ (e := (m.safe.length : Int) + (m.blocks.length : Int)) (by omega) (by omega), dQ (by omega) (by omega)]
 rw [show wrap .i64 (wrap .i64 ((m.2.2.2.2.1.length : Int) + (m.2.2.2.2.2.1.length : Int)) + (m.2.2.2.2.2.2.length : Int)) = (m.safe.length : Int) + (m.blocks.length : Int) + (m.tasks.length : Int) from e]
 by_cases h : (m.safe.length : Int) + (m.blocks.length : Int) + (m.tasks.length : Int) > 80
 ·rw [if_pos (af h)]
  exact .inl rfl
 rw [if_neg (by simpa using h), JM n hn m (by omega) _ (by omega), ae]
 obtain ⟨hB1, hB2⟩ := BA (l := m.blocks) (a := (m.safe.length : Int) + (m.blocks.length : Int) + (m.tasks.length : Int))
 rw [show oN n _ = _ from JN n hn m (by omega) (by omega) (kp ((m.safe.length : Int) + (m.blocks.length : Int) + (m.tasks.length : Int)) m.blocks) (by omega), ae]
 dsimp only
 obtain ⟨hT1, hT2⟩ := BC (l := m.tasks) (a := kp ((m.safe.length : Int) + (m.blocks.length : Int) + (m.tasks.length : Int)) m.blocks)
 split
 ·exact .inl rfl
 ·rename_i h2
  have h2 : ny (kp ((m.safe.length : Int) + (m.blocks.length : Int) + (m.tasks.length : Int)) m.blocks) m.tasks ≤ 200 := by simpa using h2
  refine .inr ⟨rfl, by omega, fun t ht => ?_⟩
  have h3 := hT2 t ht
  have h5 := pX t.code.length
  have h6 : (eL t.code.length).tdiv 20 = eL t.code.length / 20 := cN h5.1
  have h7 : eL t.code.length ≤ 4019 := by omega
  unfold eL at h7
  split at h7 <;> omega
abbrev qR (m : Img) (i : Int) : Tsk := m.tasks.getD i.toNat (0, 0, 0, 0, [], [], [])
theorem Hj {n : Nat} {m : Img} {i : Int} (h : n5 n m i = 0) : RightP m ∧ (0 ≤ i ∧ i < (m.tasks.length : Int)) ∧ (fH bM n (qR m i).code).2 = 0 ∧ f5 (qR m i).code = (qR m i).blocks ∧ (qR m i).code.all (lT m (qR m i)) = true := by
 unfold n5 at h
 split at h
 ·rename_i hR
  split at h
  ·cases h
  ·dsimp only at h
   split at h
   ·rename_i h1
    exact absurd h h1
   ·rename_i h1
    split at h
    ·rename_i h2
     split at h
     ·rename_i h3
      exact ⟨hR, by omega, Decidable.not_not.1 h1, h2, h3⟩
     ·cases h
    ·cases h
 ·cases h
theorem Ar {i : Int} {k : Nat} (h0 : 0 ≤ i) (h1 : i < (k : Int)) : (decide (0 ≤ i) && decide (i < (k : Int))) = true := by rw [af h0, af h1]; rfl
abbrev QZ : Sh := .pair (.int .i64) (.pair (.int .i64) (.pair (.int .i64) (.pair (.int .i64) (.pair (.sl (.int .i64)) (.pair (.sl (.int .i64)) (.sl (.pair (.int .i64) (.pair (.int .i64) (.int .i64)))))))))
abbrev Pt : Sh := .pair (.int .i64) (.pair (.int .i64) (.pair (.int .i64) (.pair (.int .i64) (.pair (.sl (.int .i64)) (.pair (.sl (.sl (.int .i64))) (.sl QZ))))))
theorem JO (n : Nat) (hn0 : 200 < n) (hn : n < 1000000) {m : Img} (h : Sh.Sm Pt m) : nV n m = some 0 ∨ (nV n m = some 1 ∧ Ev m) :=
 LW n hn0 hn m (by
  have h1 : m.safe.length ≤ 140737488351232 := h.2.2.2.2.1
  have h2 : m.blocks.length ≤ 140737488351232 := h.2.2.2.2.2.1
  have h3 : m.tasks.length ≤ 140737488351232 := h.2.2.2.2.2.2
  omega)
abbrev gU : Type := (List cZ) × (List Int) × (List Int) × Bool × Int × (List Int) × (List Int) × (List Int) × (List Int) × Int × (List Int) × Int × Int × Int × Unit
abbrev dM : gU := ([], [], [], false, 0, [], [], [], [], 0, [], 0, 0, 0, ())
def jm (l : List cZ) (m : List Int) (on : Bool) (s : MS) : gU := (l, m, s.ret, on, s.at_, s.stk, s.loc, s.inp, s.out, s.set, s.rds, s.held, s.flt, s.stp, ())
theorem nz {α β : Type} {xs : List α} {k : Nat} (d : α) (hk : k < xs.length) (f : α → Option β) : jz xs (k + 1) f = f (xs.getD k d) := by
 show (match xs[k]? with | some x => f x | none => none) = _
 rw [ax hk, aq, ax hk]
 rfl
theorem As {α : Type} {xs : List α} {k : Nat} {d x : α} (hk : k < xs.length) (h : xs.getD k d = x) : xs.set k x = xs := by
 subst h
 rw [aq, ax hk]
 exact List.set_getElem_self hk
theorem jH {α : Type} {xs : List α} {k : Nat} {d x : α} (hk : k < xs.length) : (xs.set k x).getD k d = x := by
 rw [aq, List.getElem?_set_self hk]
 rfl
theorem jI {α : Type} {xs : List α} {k j : Nat} {d x : α} (hk : k ≠ j) : (xs.set k x).getD j d = xs.getD j d := by
 rw [aq, List.getElem?_set_ne hk, ← aq]
theorem JP {l : List cZ} {m h : List Int} {st : List ByteArray} (hR : Row l m h st) {c : CS} (hc : px l m st c) (n : Nat) {fam : List gU} {k : Nat} (hk : k < fam.length) (hf : fam.getD k dM = jm l m c.on c.s) (i1 i2 i3 i4 : Int) (sf : List Int) (bl : List (List Int)) (ts : List Tsk) (ms : List Nat) (out : List Int) :
  ∃ ev e, gD n (k + 1) fam i1 i2 i3 i4 sf bl ts ms c.mem out = some (ev, e, fam.set k (jm l m (em l m c).on (em l m c).s), i1, i2, i3, i4, sf, bl, ts, ms, (em l m c).mem, out) := by
 obtain ⟨⟨ev, e, he⟩, _⟩ := zF hR hc n
 refine ⟨(ev.1, ev.2), e, ?_⟩
 unfold zD at he
 unfold gD
 rw [nz dM hk, hf]
 unfold jm DC
 dsimp only
 rw [Jw, he]
 rfl
theorem E1 (n : Nat) {fam : List gU} {k : Nat} (hk : k < fam.length) {l : List cZ} {m : List Int} {on : Bool} {s : MS} (hf : fam.getD k dM = jm l m on s) : fh n (k + 1) fam = some (on, fam) := by
 have h2 := As hk hf
 unfold fh
 rw [nz dM hk, hf]
 show some (on, fam.set k (jm l m on s)) = _
 rw [h2]
theorem Ew (n : Nat) (hn : 16 < n) {fam : List gU} {k : Nat} (hk : k < fam.length) {l : List cZ} {m : List Int} {on : Bool} {s : MS} (hf : fam.getD k dM = jm l m on s) : eK n (k + 1) fam = some (jl s.out s.set, fam) := by
 have h2 := As hk hf
 unfold eK
 rw [nz dM hk, hf]
 unfold jm
 dsimp only
 rw [MY n hn, ae]
 show some (jl s.out s.set, fam.set k (jm l m on s)) = _
 rw [h2]
theorem M9 (n : Nat) {fam : List gU} {k : Nat} (hk : k < fam.length) {l : List cZ} {m : List Int} {on : Bool} {s : MS} (hf : fam.getD k dM = jm l m on s) : eX n (k + 1) fam = some (s.ret, fam) := by
 have h2 := As hk hf
 unfold eX
 rw [nz dM hk, hf]
 show some (s.ret, fam.set k (jm l m on s)) = _
 rw [h2]
theorem JQ (n : Nat) {fam : List gU} {k : Nat} (hk : k < fam.length) {l : List cZ} {m : List Int} {s : MS} (hl : 0 < l.length) (hf : fam.getD k dM = jm l m false s) (inp : List Int) : fG n (k + 1) inp fam = some (0, fam.set k (jm l m true (jG s.ret inp))) := by
 unfold fG
 rw [nz dM hk, hf]
 unfold jm
 dsimp only
 rw [LU n hl, ae]
 rfl
theorem sE {l : List cZ} {m : List Int} {c : CS} {i : Nat} (h : c.on = true) (hp : c.s.at_ = (i : Int)) : em l m c = ⟨decide (opAt l i ≠ 25), eH (l.getD i (0, 0, 0)) (m.getD i 0) c.s c.mem, lS (l.getD i (0, 0, 0)) c.s c.mem⟩ := by
 unfold em
 rw [if_pos h, show c.s.at_.toNat = i by rw [hp]; exact ag i]
theorem Hk (l : List cZ) (m : List Int) (k : Nat) (c : CS) : eI l m (k + 1) c = em l m (eI l m k c) := Bq k 1 c
theorem BD {l : List cZ} {m h : List Int} {st : List ByteArray} (hR : Row l m h st) {n : Nat} (hf : l.length < n) (ret inp : List Int) (mem : dF) : ∀ k, (eI l m k ⟨true, jG ret inp, mem⟩).on = true → ∃ i rs, Ok l m st (eI l m k ⟨true, jG ret inp, mem⟩).s i rs ∧ InvP bM s7 JB l m n 0 (l.length - 1) i rs (k : Int)
 | 0, _ => ⟨0, [], Ej hR ret inp, InvP.start Am hR.fine.all⟩
 | k + 1, hon => by
  rw [Hk] at hon ⊢
  generalize hc : eI l m k ⟨true, jG ret inp, mem⟩ = c at hon ⊢
  cases h1 : c.on with
  | false =>
   unfold em at hon
   rw [if_neg (by rw [h1]; decide), h1] at hon
   cases hon
  | true =>
   obtain ⟨i, rs, hO, hI⟩ := BD hR hf ret inp mem k (by rw [hc]; exact h1)
   rw [hc] at hO
   have hF := hR.fine
   have hl := hF.len
   rw [sE h1 hO.place] at hon ⊢
   have h25 : opAt l i ≠ 25 := aR hon
   obtain ⟨q, rs', hq, hp, hg, he⟩ := (F5 hR hO c.mem h25).ex
   have hz : i ≠ l.length - 1 := fun e => h25 ((zG hF hO.lt).2 (by omega))
   exact ⟨q, rs', hq, hg bM s7 JB n 0 (l.length - 1) _ Am hf hF.all hI hz⟩
theorem LX {K : Nat} (hK : 5000 ≤ K) {l : List cZ} {m h : List Int} {st : List ByteArray} (hR : Row l m h st) {n : Nat} (hf : l.length < n) (hw : er bM l m n 0 (l.length - 1) < 5000) (ret inp : List Int) (mem : dF) : (eI l m K ⟨true, jG ret inp, mem⟩).on = false := by
 cases hon : (eI l m K ⟨true, jG ret inp, mem⟩).on with
 | false => rfl
 | true =>
  exfalso
  obtain ⟨i, rs, hO, hI⟩ := BD hR hf ret inp mem K hon
  obtain ⟨M, hM⟩ : ∃ M : Nat, nL l m i rs ≤ (M : Int) := ⟨(nL l m i rs).toNat, by omega⟩
  have := F7 hR hf (by omega) M hM hO hI
  omega
theorem nA {l : List cZ} {m h : List Int} {st : List ByteArray} (hR : Row l m h st) {P : CS → Prop} (hs : ∀ c i rs, c.on = true → Ok l m st c.s i rs → P c → P ⟨decide (opAt l i ≠ 25), eH (l.getD i (0, 0, 0)) (m.getD i 0) c.s c.mem, lS (l.getD i (0, 0, 0)) c.s c.mem⟩) : ∀ k {c : CS}, px l m st c → P c → P (eI l m k c)
 | 0, c, hc, h0 => h0
 | k + 1, c, hc, h0 => by
  refine nA hR hs k (zF hR hc 0).2 ?_
  cases hon : c.on with
  | false =>
   unfold em
   rw [if_neg (by rw [hon]; decide)]
   exact h0
  | true =>
   obtain ⟨i, rs, hO⟩ := hc hon
   rw [sE hon hO.place]
   exact hs c i rs hon hO h0
theorem JR (n : Nat) {l : List cZ} {m h : List Int} {st : List ByteArray} (hR : Row l m h st) (fam0 : List gU) {k : Nat} (hk : k < fam0.length) (i1 i2 i3 i4 : Int) (sf : List Int) (bl : List (List Int)) (ts : List Tsk) (ms : List Nat) (out : List Int) : ∀ (j f : Nat) (c : CS), j < f → px l m st c → c.on = true → (eI l m (j + 1) c).on = false →
  it (fun F => (fg (d8 q_)) (uU n F)) f (fam0.set k (jm l m c.on c.s), k + 1, i1, i2, i3, i4, sf, bl, ts, ms, c.mem, out) = some (fam0.set k (jm l m false (eI l m (j + 1) c).s), k + 1, i1, i2, i3, i4, sf, bl, ts, ms, (eI l m (j + 1) c).mem, out)
 | j, 0, c, hj, _, _, _ => by omega
 | j, f + 1, c, hj, hc, hon, hoff => by
  show uU n (it _ f) (fam0.set k (jm l m c.on c.s)) (k + 1) i1 i2 i3 i4 sf bl ts ms c.mem out = _
  unfold uU
  have hl : k < (fam0.set k (jm l m c.on c.s)).length := by rw [aM]; exact hk
  obtain ⟨ev, e, he⟩ := JP hR hc n hl (jH hk) i1 i2 i3 i4 sf bl ts ms out
  rw [he, ae]
  dsimp only
  rw [List.set_set]
  have hl2 : k < (fam0.set k (jm l m (em l m c).on (em l m c).s)).length := by rw [aM]; exact hk
  rw [E1 n hl2 (jH hk), ae]
  dsimp only
  by_cases h1 : (em l m c).on = true
  ·rw [if_pos h1]
   cases j with
   | zero =>
    have e2 : eI l m (0 + 1) c = em l m c := rfl
    rw [e2, h1] at hoff
    cases hoff
   | succ j =>
    have h2 : eI l m (j + 1 + 1) c = eI l m (j + 1) (em l m c) := rfl
    rw [h2] at hoff ⊢
    exact JR n hR fam0 hk i1 i2 i3 i4 sf bl ts ms out j f (em l m c) (by omega) (zF hR hc 0).2 h1 hoff
  ·have h3 : (em l m c).on = false := by cases h : (em l m c).on with | false => rfl | true => exact absurd h h1
   have e2 : eI l m (j + 1) c = em l m c := Bp h3 j
   rw [if_neg h1, e2, h3]
abbrev tz : Tsk := (0, 0, 0, 0, [], [], [])
structure TaskG (m : Img) (t : Tsk) : Prop where
 row : Row t.code (scanI t.code).1 (scanI t.code).2.1 (mD t.code)
 lock : eb t.code = 0
 stk : eP t.code = 0
 own : f5 t.code = t.blocks
 name : ∀ i, i < t.code.length → lT m t (t.code.getD i (0, 0, 0)) = true
 ok : lU m t
 fin : er bM t.code (scanI t.code).1 30000 0 (t.code.length - 1) < 5000
structure GoodM (m : Img) : Prop where
 right : RightP m
 task : ∀ k, k < m.tasks.length → TaskG m (m.tasks.getD k tz)
theorem Hl {m : Img} (h : Sh.Sm Pt m) : ∃ b, yZ 30000 m = some b ∧ (b = true → Ev m ∧ ∀ k, k < m.tasks.length → (fH bM 30000 (m.tasks.getD k tz).code).2 = 0 → (fH bM 30000 (m.tasks.getD k tz).code).1 ≤ 5000) := by
 have hn1 : 200 < 30000 := by decide
 have hn2 : 30000 < 1000000 := by decide
 unfold yZ
 rcases JO 30000 hn1 hn2 h with hl | ⟨hl, hL⟩
 ·rw [show nV 30000 (m.1, m.2.1, m.2.2.1, m.2.2.2.1, m.2.2.2.2.1, m.2.2.2.2.2.1, m.2.2.2.2.2.2) = some 0 from hl, ae, if_pos (by decide)]
  exact ⟨false, rfl, fun h => by cases h⟩
 rw [show nV 30000 (m.1, m.2.1, m.2.2.1, m.2.2.2.1, m.2.2.2.2.1, m.2.2.2.2.2.1, m.2.2.2.2.2.2) = some 1 from hl, ae, if_neg (by decide)]
 obtain ⟨i1, i2, i3, i4, sf, bl, ts⟩ := m
 dsimp only
 have hts : ts.length ≤ 80 := by have := hL.1; dsimp only [Img.safe, Img.blocks, Img.tasks] at this; omega
 have key : ∃ r, uA 30000 (0, i1, i2, i3, i4, sf, bl, ts) = some r ∧ ((∃ X, r = .inl ((false, ()), X)) ∨ ((∃ X, r = .inr X) ∧ ∀ k, k < ts.length → (fH bM 30000 (ts.getD k tz).code).2 = 0 → (fH bM 30000 (ts.getD k tz).code).1 ≤ 5000)) := by
  show ∃ r, it _ 30000 _ = some r ∧ _
  refine kz (fun f x => ∃ k : Nat, k ≤ ts.length ∧ ts.length < f + k ∧ (∀ j, j < k → (fH bM 30000 (ts.getD j tz).code).2 = 0 → (fH bM 30000 (ts.getD j tz).code).1 ≤ 5000) ∧ x = ((k : Int), i1, i2, i3, i4, sf, bl, ts)) _ (fun x ⟨k, h1, h2, _⟩ => by omega) ?_ 30000 _ ⟨0, by omega, by omega, fun j hj => by omega, rfl⟩
  rintro f x F hF ⟨k, h1, h2, h3, rfl⟩
  show ∃ r, vT 30000 F (k : Int) i1 i2 i3 i4 sf bl ts = some r ∧ _
  unfold vT
  rcases am k ts.length with hk | hk
  ·have hc : (ts.getD k tz).code.length ≤ 4019 := hL.2 _ (by rw [aq, ax hk]; exact bA _)
   rw [if_pos (af (by omega)), if_pos (db hk), ag]
   rw [show gz 30000 (ts.getD k (0, 0, 0, 0, [], [], [])).2.2.2.2.2.2 = _ from Ea 30000 (ts.getD k tz).code (by omega) (by omega) hn2, ae, dC (by omega)]
   by_cases h0 : (fH bM 30000 (ts.getD k tz).code).2 = 0
   ·rw [if_pos (ai.2 h0)]
    by_cases hb : (fH bM 30000 (ts.getD k tz).code).1 > 5000
    ·rw [if_pos (af hb)]
     exact ⟨_, rfl, .inl ⟨_, rfl⟩⟩
    ·rw [if_neg (fun h => hb (aR h))]
     refine hF _ ⟨k + 1, by omega, by omega, fun j hj h0 => ?_, rfl⟩
     by_cases e : j = k
     ·subst e; omega
     ·exact h3 j (by omega) h0
   ·rw [if_neg (fun h => h0 (ai.1 h))]
    refine hF _ ⟨k + 1, by omega, by omega, fun j hj hz => ?_, rfl⟩
    by_cases e : j = k
    ·subst e; exact absurd hz h0
    ·exact h3 j (by omega) hz
  ·rw [if_neg (by simp; omega)]
   exact ⟨_, rfl, .inr ⟨⟨_, rfl⟩, fun j hj => h3 j (by omega)⟩⟩
 obtain ⟨r, e1, e2⟩ := key
 rw [e1, ae]
 rcases e2 with ⟨X, rfl⟩ | ⟨⟨X, rfl⟩, e2⟩
 ·exact ⟨false, rfl, fun h => by cases h⟩
 ·exact ⟨true, rfl, fun _ => ⟨hL, e2⟩⟩
theorem LY (m : Img) : ∃ x e, iZ 30000 m = some (x, e) ∧ (e = 0 → RightP m ∧ ∀ k : Nat, k < m.tasks.length → n5 30000 m (k : Int) = 0) := by
 have hn1 : 200 < 30000 := by decide
 have hn2 : 30000 < 1000000 := by decide
 unfold iZ
 obtain ⟨b, hb1, hb2⟩ := vx 30000 hn1 hn2 m
 rw [show rW 30000 (m.1, m.2.1, m.2.2.1, m.2.2.2.1, m.2.2.2.2.1, m.2.2.2.2.2.1, m.2.2.2.2.2.2) = some b from hb1, ae]
 cases b with
 | false => exact ⟨-1, 12, rfl, fun h => by cases h⟩
 | true =>
  have hR := hb2.1 rfl
  rw [if_neg (by decide)]
  have ht8 : m.tasks.length ≤ 8 := hR.1.2.2.2.2.2.2.2
  obtain ⟨i1, i2, i3, i4, sf, bl, ts⟩ := m
  dsimp only [Img.tasks] at ht8 ⊢
  have key : ∃ r, mw 30000 ((ts.length : Int), 0, i1, i2, i3, i4, sf, bl, ts) = some r ∧ ((∃ a e X, r = .inl ((a, e, ()), X) ∧ e ≠ 0) ∨ ((∃ X, r = .inr X) ∧ ∀ k : Nat, k < ts.length → n5 30000 (i1, i2, i3, i4, sf, bl, ts) (k : Int) = 0)) := by
   show ∃ r, it _ 30000 _ = some r ∧ _
   refine kz (fun f x => ∃ k : Nat, k ≤ ts.length ∧ ts.length < f + k ∧ (∀ j : Nat, j < k → n5 30000 (i1, i2, i3, i4, sf, bl, ts) (j : Int) = 0) ∧ x = ((ts.length : Int), (k : Int), i1, i2, i3, i4, sf, bl, ts)) _ (fun x ⟨k, h1, h2, _⟩ => by omega) ?_ 30000 _ ⟨0, by omega, by omega, fun j hj => by omega, rfl⟩
   rintro f x F hF ⟨k, h1, h2, h3, rfl⟩
   show ∃ r, lI 30000 F (ts.length : Int) (k : Int) i1 i2 i3 i4 sf bl ts = some r ∧ _
   unfold lI
   rcases am k ts.length with hk | hk
   ·rw [if_pos (af (by omega)), M8 30000 hn1 hn2 (i1, i2, i3, i4, sf, bl, ts) (k : Int), ae]
    by_cases h0 : n5 30000 (i1, i2, i3, i4, sf, bl, ts) (k : Int) = 0
    ·rw [if_neg (by rw [h0]; decide), dC (by omega)]
     refine hF _ ⟨k + 1, by omega, by omega, fun j hj => ?_, rfl⟩
     by_cases e : j = k
     ·subst e; exact h0
     ·exact h3 j (by omega)
    ·rw [if_pos (aw.2 h0)]
     exact ⟨_, rfl, .inl ⟨_, _, _, rfl, h0⟩⟩
   ·rw [if_neg (by simp; omega)]
    exact ⟨_, rfl, .inr ⟨⟨_, rfl⟩, fun j hj => h3 j (by omega)⟩⟩
  obtain ⟨r, e1, e2⟩ := key
  rw [e1, ae]
  rcases e2 with ⟨a, e, X, rfl, he⟩ | ⟨⟨X, rfl⟩, e2⟩
  ·exact ⟨a, e, rfl, fun h => absurd h he⟩
  ·exact ⟨-1, 0, rfl, fun _ => ⟨hR, e2⟩⟩
theorem Na {m : Img} (hR : RightP m) (hT : ∀ k : Nat, k < m.tasks.length → n5 30000 m (k : Int) = 0) (hL : ∀ k, k < m.tasks.length → (fH bM 30000 (m.tasks.getD k tz).code).2 = 0 → (fH bM 30000 (m.tasks.getD k tz).code).1 ≤ 5000) : GoodM m := by
 refine ⟨hR, fun k hk => ?_⟩
 obtain ⟨_, h0, h2, h3, h4⟩ := Hj (hT k hk)
 have e : qR m (k : Int) = m.tasks.getD k tz := by show m.tasks.getD (k : Int).toNat tz = _; rw [ag]
 rw [e] at h2 h3 h4
 obtain ⟨z1, z2⟩ := yc h2
 obtain ⟨q1, q2, q3, q4, q5⟩ := LK 30000 (m.tasks.getD k tz).code h2
 have hl := hL k hk h2
 have hok := (hR.task (i := (k : Int)) (by omega) (by omega)).1
 rw [ag] at hok
 refine ⟨Pp z1 z2, z1, z2, h3, fun i hi => ?_, hok, by omega⟩
 exact aN.1 h4 ((m.tasks.getD k tz).code.getD i (0, 0, 0)) (by rw [vW hi]; exact bA _)
def Ey (tq : List Int) (set : Int) : Prop := ∃ x : Nat, set = (x : Int) ∧ x < 65536 ∧ ∀ k, x.testBit k = true → (k : Int) ∈ tq
theorem LZ {tq out : List Int} {set : Int} (h : Ey tq set) : ∀ e ∈ jl out set, e.1 ∈ tq := by
 obtain ⟨x, h1, h2, h3⟩ := h
 subst h1
 have key : ∀ r k, r + k ≤ 16 → ∀ e ∈ n4 out (x : Int) r k, e.1 ∈ tq := by
  intro r
  induction r with
  | zero => intro k _ e he; cases he
  | succ r ih =>
   intro k hk e he
   unfold n4 at he
   rcases aA.1 he with h | h
   ·rw [MZ h2 (by omega)] at h
    split at h
    ·rename_i hb
     have := ao.1 h
     rw [this]
     exact h3 k hb
    ·cases h
   ·exact ih (k + 1) (by omega) e h
 exact key 16 0 (by omega)
theorem L0 {tq : List Int} {s : MS} {x : cZ} {mt : Int} {mem : dF} (hr : dg x = true) (ho : Ey tq s.set) (hx : x.1 = 16 → x.2.1 ∈ tq) : Ey tq (eH x mt s mem).set := by
 obtain ⟨w, h1, h2, h3⟩ := ho
 show Ey tq (if x.1 = 16 then bits .or .i64 s.set (mF x.2.1) else s.set)
 split
 ·rename_i h16
  have ha := we (o := x.1) (A := x.2.1) (B := x.2.2) (.inr h16) hr
  obtain ⟨b1, b2⟩ := F6 (A := x.2.1) (a := x.2.1.toNat) (by omega) (by omega)
  refine ⟨w ||| 2 ^ x.2.1.toNat, by rw [h1, b1, En w _ h2 b2], Nat.or_lt_two_pow (n := 16) h2 b2, fun k hk => ?_⟩
  rw [Nat.testBit_or, aE] at hk
  rcases hk with hk | hk
  ·exact h3 k hk
  ·rw [Nat.testBit_two_pow, av] at hk
   have : (k : Int) = x.2.1 := by omega
   rw [this]
   exact hx h16
 ·exact ⟨w, h1, h2, h3⟩
structure WM where
 ret : List (List Int)
 mem : dF
 out : List Int
abbrev dB (ts : List Tsk) (k : Nat) : List cZ := (ts.getD k tz).code
structure Rep (fam : List gU) (p : Nat) (ts : List Tsk) (ret : List (List Int)) : Prop where
 le : p + ts.length ≤ fam.length
 len : ret.length = ts.length
 mb : ∀ k, k < ts.length → ∃ s : MS, fam.getD (p + k) dM = jm (dB ts k) (scanI (dB ts k)).1 false s ∧ s.ret = ret.getD k [] ∧ s.stk.length ≤ 300 ∧ s.rds.length ≤ 300
abbrev eT (p T : Nat) : List Nat := List.range' (p + 1) T
theorem BE {p T k : Nat} (hk : k < T) : (eT p T).getD k 0 = p + k + 1 := by
 rw [aq, List.getElem?_range' hk]
 show p + 1 + 1 * k = _
 omega
theorem Rep.put {fam : List gU} {p : Nat} {ts : List Tsk} {ret : List (List Int)} (h : Rep fam p ts ret) {k : Nat} (hk : k < ts.length) (s : MS) (hs : s.stk.length ≤ 300 ∧ s.rds.length ≤ 300) : Rep (fam.set (p + k) (jm (dB ts k) (scanI (dB ts k)).1 false s)) p ts (ret.set k s.ret) := by
 have hle := h.le
 refine ⟨by rw [aM]; exact hle, by rw [aM]; exact h.len, fun j hj => ?_⟩
 by_cases e : k = j
 ·subst e
  exact ⟨s, jH (by omega), (jH (by rw [h.len]; exact hk)).symm, hs⟩
 ·obtain ⟨s', h1, h2, h3⟩ := h.mb j hj
  exact ⟨s', by rw [jI (by omega)]; exact h1, by rw [jI e]; exact h2, h3⟩
theorem Rep.far {fam fam' : List gU} {p : Nat} {ts : List Tsk} {ret : List (List Int)} (h : Rep fam p ts ret) (hl : fam.length ≤ fam'.length) (hj : ∀ j, p ≤ j → j < p + ts.length → fam'.getD j dM = fam.getD j dM) : Rep fam' p ts ret := by
 have hle := h.le
 refine ⟨by omega, h.len, fun k hk => ?_⟩
 rw [hj _ (by omega) (by omega)]
 exact h.mb k hk
def dV (K : Nat) (l : List cZ) (ret inp : List Int) (mem : dF) : CS := eI l (scanI l).1 K ⟨true, jG ret inp, mem⟩
def ic (out : List Int) (os : List (Int × Int)) : List Int := os.foldl (fun o e => o.set e.1.toNat e.2) out
theorem Ez : ∀ (os : List (Int × Int)) (out : List Int), (ic out os).length = out.length
 | [], out => rfl
 | e :: os, out => by
  show (ic (out.set e.1.toNat e.2) os).length = _
  rw [Ez os, aM]
def fN (K : Nat) (ts : List Tsk) (i : Int) (inp : List Int) (W : WM) : List (Int × Int) × Int × WM :=
 if 0 ≤ i ∧ i < (ts.length : Int) then
  (jl (dV K (dB ts i.toNat) (W.ret.getD i.toNat []) inp W.mem).s.out (dV K (dB ts i.toNat) (W.ret.getD i.toNat []) inp W.mem).s.set, 0,
   ⟨W.ret.set i.toNat (dV K (dB ts i.toNat) (W.ret.getD i.toNat []) inp W.mem).s.ret, (dV K (dB ts i.toNat) (W.ret.getD i.toNat []) inp W.mem).mem, ic W.out (jl (dV K (dB ts i.toNat) (W.ret.getD i.toNat []) inp W.mem).s.out (dV K (dB ts i.toNat) (W.ret.getD i.toNat []) inp W.mem).s.set)⟩)
 else ([], 14, W)
theorem lm {l : List cZ} {m h : List Int} {st : List ByteArray} (hR : Row l m h st) (ret inp : List Int) (mem : dF) : px l m st ⟨true, jG ret inp, mem⟩ := fun _ => ⟨0, [], Ej hR ret inp⟩
theorem Nb {K : Nat} (hK : 5000 ≤ K) {m : Img} {t : Tsk} (h : TaskG m t) (ret inp : List Int) (mem : dF) : (dV K t.code ret inp mem).on = false := by
 have := h.row.fine.len
 have := h.fin
 unfold dV
 exact LX hK h.row (n := 30000) (by omega) (by omega) ret inp mem
theorem yg (K : Nat) {m : Img} {t : Tsk} (h : TaskG m t) (ret inp : List Int) (mem : dF) : ∀ e ∈ jl (dV K t.code ret inp mem).s.out (dV K t.code ret inp mem).s.set, e.1 ∈ t.outs := by
 refine LZ ?_
 unfold dV
 refine nA h.row (P := fun c => Ey t.outs c.s.set) (fun c i rs hon hO hP => ?_) K (lm h.row ret inp mem) ⟨0, rfl, by decide, fun k hk => by rw [Nat.zero_testBit] at hk; cases hk⟩
 refine L0 (h.row.fine.right hO.lt) hP (fun h16 => ?_)
 have := h.name i hO.lt
 unfold lT at this
 rw [if_neg (show ¬ (t.code.getD i (0, 0, 0)).1 = 15 by rw [h16]; decide), if_pos h16] at this
 exact List.contains_iff_mem.1 this
theorem JS {c : Prop} [Decidable c] {a b : List Int} {n : Nat} (h1 : a.length ≤ n) (h2 : b.length ≤ n) : (if c then a else b).length ≤ n := by
 split
 ·exact h1
 ·exact h2
theorem L1 (x : cZ) (s : MS) (mem : dF) : (fz x s mem).length ≤ s.stk.length + 2 := by
 have h1 : ∀ v : List Int, (pr v).length ≤ v.length := fun v => by unfold pr; rw [bV]; omega
 have h2 := h1 s.stk
 have h3 := h1 (pr s.stk)
 unfold fz
 repeat' apply JS
 all_goals (try simp only [aF, aH, bU])
 all_goals omega
theorem L2 (x : cZ) (s : MS) : (fT x s).length ≤ s.rds.length + 1 := by
 have h1 : ∀ v : List Int, (pr v).length ≤ v.length := fun v => by unfold pr; rw [bV]; omega
 have h2 := h1 s.rds
 unfold fT
 repeat' apply JS
 all_goals (try simp only [aF, aH, bU])
 all_goals omega
theorem JT (K : Nat) {m : Img} {t : Tsk} (h : TaskG m t) (ret inp : List Int) (mem : dF) : (dV K t.code ret inp mem).s.stk.length ≤ 300 ∧ (dV K t.code ret inp mem).s.rds.length ≤ 300 := by
 unfold dV
 refine nA h.row (P := fun c => c.s.stk.length ≤ 300 ∧ c.s.rds.length ≤ 300) (fun c i rs hon hO hP => ?_) K (lm h.row ret inp mem) ⟨ay _, ay _⟩
 obtain ⟨a1, a2, a3⟩ := hO.len h.row
 have b1 := L1 (t.code.getD i (0, 0, 0)) c.s c.mem
 have b2 := L2 (t.code.getD i (0, 0, 0)) c.s
 exact ⟨by show (fz _ _ _).length ≤ 300; omega, by show (fT _ _).length ≤ 300; omega⟩
theorem Pu (n : Nat) (N : Nat) (fam : List gU) (q : Nat) (i1 i2 i3 i4 : Int) (sf : List Int) (bl : List (List Int)) (ts : List Tsk) (ms : List Nat) (mem : dF) {os : List (Int × Int)} (h16 : os.length ≤ 16) (hn : 16 < n) (hos : ∀ e ∈ os, 0 ≤ e.1 ∧ e.1 < (N : Int)) {out : List Int} (ho : out.length = N) :
  rZ n (os, (os.length : Int), 0, fam, q, i1, i2, i3, i4, sf, bl, ts, ms, mem, out) = some (fam, q, i1, i2, i3, i4, sf, bl, ts, ms, mem, ic out os) := by
 have key : ∃ r, rZ n (os, (os.length : Int), 0, fam, q, i1, i2, i3, i4, sf, bl, ts, ms, mem, out) = some r ∧ r = (fam, q, i1, i2, i3, i4, sf, bl, ts, ms, mem, ic out os) := by
  show ∃ r, it _ n _ = some r ∧ _
  refine kz (fun f x => ∃ (k : Nat) (o : List Int), k ≤ os.length ∧ os.length < f + k ∧ o.length = N ∧ ic o (os.drop k) = ic out os ∧ x = (os, (os.length : Int), (k : Int), fam, q, i1, i2, i3, i4, sf, bl, ts, ms, mem, o)) _ (fun x ⟨k, o, h1, h2, _⟩ => by omega) ?_ n _ ⟨0, out, by omega, by omega, ho, rfl, rfl⟩
  rintro f x F hF ⟨k, o, h1, h2, h3, h4, rfl⟩
  show ∃ r, zi n F os (os.length : Int) (k : Int) fam q i1 i2 i3 i4 sf bl ts ms mem o = some r ∧ _
  unfold zi
  rcases am k os.length with hk | hk
  ·have hm : os.getD k (0, 0) ∈ os := by rw [aq, ax hk]; exact bA _
   have hb := hos _ hm
   rw [en (d := ((0 : Int), (0 : Int))) hk] at h4
   rw [if_pos (af (by omega)), if_pos (db hk), ag, if_pos (Ar hb.1 (by rw [h3]; exact hb.2)), dC (by omega)]
   exact hF _ ⟨k + 1, _, by omega, by omega, by rw [aM]; exact h3, h4, rfl⟩
  ·rw [if_neg (by simp; omega)]
   rw [List.drop_eq_nil_of_le hk] at h4
   exact ⟨_, rfl, by rw [← h4]; rfl⟩
 obtain ⟨r, e1, e2⟩ := key
 rw [e1, e2]
theorem zK {K : Nat} (hK : 5000 ≤ K ∧ K < 20000) {i1 i2 i3 i4 : Int} {sf : List Int} {bl : List (List Int)} {ts : List Tsk} (hG : GoodM (i1, i2, i3, i4, sf, bl, ts)) {fam : List gU} {p : Nat} {W : WM} (hr : Rep fam p ts W.ret) (ho : W.out.length = sf.length) (i : Int) (inp : List Int) :
  ∃ fam', sa 30000 i inp fam i1 i2 i3 i4 sf bl ts (eT p ts.length) W.mem W.out = some ((fN K ts i inp W).1, (fN K ts i inp W).2.1, fam', i1, i2, i3, i4, sf, bl, ts, eT p ts.length, (fN K ts i inp W).2.2.mem, (fN K ts i inp W).2.2.out) ∧ Rep fam' p ts (fN K ts i inp W).2.2.ret ∧ fam'.length = fam.length ∧ (∀ j, j < p ∨ p + ts.length ≤ j → fam'.getD j dM = fam.getD j dM) ∧ (fN K ts i inp W).2.2.out.length = sf.length := by
 have hT : 1 ≤ ts.length ∧ ts.length ≤ 8 := hG.right.1.2.2.2.2.2.2
 unfold sa fN
 rw [show (eT p ts.length).length = ts.length from List.length_range', if_neg (fun h => by have := ai.1 h; omega)]
 by_cases h0 : 0 ≤ i
 ·by_cases h1 : i < (ts.length : Int)
  ·obtain ⟨k, rfl⟩ : ∃ k : Nat, i = (k : Int) := ⟨i.toNat, by omega⟩
   have hk : k < ts.length := by omega
   have ht := hG.task k hk
   have hle := hr.le
   have hpk : p + k < fam.length := by omega
   obtain ⟨s, hs1, hs2, _⟩ := hr.mb k hk
   rw [if_pos (af h0), if_neg (by rw [af h1]; decide), if_pos (Ar h0 h1), if_pos ⟨h0, h1⟩, ag, BE hk]
   rw [JQ 30000 hpk ht.row.fine.len.1 hs1, ae]
   dsimp only
   rw [hs2]
   have hoff := Nb hK.1 ht (W.ret.getD k []) inp W.mem
   obtain ⟨K0, hK0⟩ : ∃ K0, K = K0 + 1 := ⟨K - 1, by omega⟩
   unfold dV at hoff
   rw [hK0] at hoff
   have hrun := JR 30000 ht.row fam hpk i1 i2 i3 i4 sf bl ts (eT p ts.length) W.out K0 30000 ⟨true, jG (W.ret.getD k []) inp, W.mem⟩ (by omega) (lm ht.row _ _ _) rfl hoff
   rw [← hK0] at hrun
   rw [show xO 30000 (fam.set (p + k) (jm (dB ts k) (scanI (dB ts k)).1 true (jG (W.ret.getD k []) inp)), p + k + 1, i1, i2, i3, i4, sf, bl, ts, eT p ts.length, W.mem, W.out) = some (fam.set (p + k) (jm (dB ts k) (scanI (dB ts k)).1 false (dV K (dB ts k) (W.ret.getD k []) inp W.mem).s), p + k + 1, i1, i2, i3, i4, sf, bl, ts, eT p ts.length, (dV K (dB ts k) (W.ret.getD k []) inp W.mem).mem, W.out) from hrun, ae]
   dsimp only
   have hsm := JT K ht (W.ret.getD k []) inp W.mem
   have houts := yg K ht (W.ret.getD k []) inp W.mem
   have hpos : ∀ e ∈ jl (dV K (dB ts k) (W.ret.getD k []) inp W.mem).s.out (dV K (dB ts k) (W.ret.getD k []) inp W.mem).s.set, 0 ≤ e.1 ∧ e.1 < (sf.length : Int) := fun e he => by
    have := ht.ok.2.2.1.mem _ (houts e he)
    have h2 : e.1 < (sf.length : Int) := this.2
    omega
   generalize dV K (dB ts k) (W.ret.getD k []) inp W.mem = c at *
   have hpk2 : p + k < (fam.set (p + k) (jm (dB ts k) (scanI (dB ts k)).1 false c.s)).length := by rw [aM]; exact hpk
   rw [Ew 30000 (by decide) hpk2 (jH hpk), ae]
   dsimp only
   rw [Pu 30000 sf.length _ _ i1 i2 i3 i4 sf bl ts _ c.mem (Bs c.s.out c.s.set) (by decide) hpos ho, ae]
   dsimp only
   rw [Ew 30000 (by decide) hpk2 (jH hpk), ae]
   exact ⟨_, rfl, hr.put hk c.s hsm, aM, fun j hj => jI (by omega), by show (ic _ _).length = _; rw [Ez]; exact ho⟩
  ·rw [if_pos (af h0), if_pos (by rw [bg h1]; rfl), if_neg (fun h => h1 h.2)]
   exact ⟨_, rfl, hr, rfl, fun j _ => rfl, ho⟩
 ·rw [if_neg (fun h => h0 (aR h)), if_neg (fun h => h0 h.1)]
  exact ⟨_, rfl, hr, rfl, fun j _ => rfl, ho⟩
theorem wV {fam : List gU} {p : Nat} {ts : List Tsk} {ret : List (List Int)} (hr : Rep fam p ts ret) (n : Nat) (i : Int) (i1 i2 i3 i4 : Int) (sf : List Int) (bl : List (List Int)) (ts' : List Tsk) (mem : dF) (out : List Int) :
  hU n i fam i1 i2 i3 i4 sf bl ts' (eT p ts.length) mem out = some (if 0 ≤ i ∧ i < (ts.length : Int) then ret.getD i.toNat [] else z8, fam, i1, i2, i3, i4, sf, bl, ts', eT p ts.length, mem, out) := by
 unfold hU
 rw [show (eT p ts.length).length = ts.length from List.length_range']
 by_cases h0 : 0 ≤ i
 ·by_cases h1 : i < (ts.length : Int)
  ·obtain ⟨k, rfl⟩ : ∃ k : Nat, i = (k : Int) := ⟨i.toNat, by omega⟩
   have hk : k < ts.length := by omega
   have hle := hr.le
   obtain ⟨s, hs1, hs2, _⟩ := hr.mb k hk
   rw [if_pos (af h0), if_neg (by rw [af h1]; decide), if_pos (Ar h0 h1), ag, BE hk, M9 n (by omega) hs1, ae, if_pos ⟨h0, h1⟩, hs2]
  ·rw [if_pos (af h0), if_pos (by rw [bg h1]; rfl), if_neg (fun h => h1 h.2)]
 ·rw [if_neg (fun h => h0 (aR h)), if_neg (fun h => h0 h.1)]
theorem Pv {a : Nat} (h : a ≤ 8) : (decide (0 = 0) && decide (0 = 0) && decide (a * 8 ≤ 140737488355328) && decide (1 ≤ 8)) = true := by simp; omega
theorem EA (n : Nat) {i1 i2 i3 i4 : Int} {sf : List Int} {bl : List (List Int)} {ts : List Tsk} (hR : RightP (i1, i2, i3, i4, sf, bl, ts)) (i : Int) (fam : List gU) (ms : List Nat) (mem : dF) (out : List Int) :
  i9 n i fam i1 i2 i3 i4 sf bl ts ms mem out = some (if 0 ≤ i ∧ i < (bl.length : Int) then (mem.getD i.toNat z8).take (bl.getD i.toNat []).length else [], fam, i1, i2, i3, i4, sf, bl, ts, ms, mem, out) := by
 have hb : bl.length ≤ 8 := hR.1.2.2.2.2.2.1
 unfold i9
 by_cases h0 : i < 0
 ·rw [if_pos (af h0), if_neg (by omega)]
 ·rw [if_neg (by simp; omega)]
  by_cases h1 : i ≥ (bl.length : Int)
  ·rw [if_pos (af h1), if_neg (by omega)]
  ·obtain ⟨k, rfl⟩ : ∃ k : Nat, i = (k : Int) := ⟨i.toNat, by omega⟩
   have hw : (bl.getD k []).length ≤ 8 := (hR.2.1 _ (by rw [aq, ax (show k < bl.length by omega)]; exact bA _)).2
   have hc : (0 ≤ (k : Int) ∧ (k : Int) < (bl.length : Int)) := by omega
   rw [if_pos hc, if_neg (by simp; omega), if_pos (jT (by omega)), if_pos (jT (by omega)), ag, if_pos (by simp only [aj, av]; omega), ag]
   have h8 : ((mem.getD k [0, 0, 0, 0, 0, 0, 0, 0]).take (bl.getD k []).length).length ≤ 8 := by
    rw [bV]
    exact aT (Nat.min_le_left _ _) hw
   rw [show (decide (0 = 0) && decide (0 = 0) && decide (((mem.getD k [0, 0, 0, 0, 0, 0, 0, 0]).take (bl.getD k []).length).length * 8 ≤ 140737488355328) && decide (1 ≤ 8)) = true from Pv h8, if_pos rfl]
abbrev Pw : MS := ⟨z8, 0, [], z8, z16, z16, 0, [], 0, 0, 0⟩
abbrev mI (t : Tsk) : gU := jm t.code (scanI t.code).1 false Pw
theorem L3 {m : Img} {t : Tsk} (h : TaskG m t) (fam : List gU) : jQ 30000 t.code fam = some (fam.length + 1, 0, fam ++ [mI t]) := by
 have hl := h.row.fine.len
 unfold jQ
 rw [vd 30000 t.code (by omega) (by omega), ae]
 dsimp only
 rw [if_neg (by simp [h.lock]), G5 30000 t.code (by omega) (by omega) (by omega), ae]
 dsimp only
 rw [if_neg (by simp [h.stk]), ss 30000 t.code (by omega) (by omega), ae, if_pos (Pq hl.2)]
 rfl
theorem Rep.new (fam : List gU) (ts : List Tsk) : Rep (fam ++ ts.map mI) fam.length ts (List.replicate ts.length z8) := by
 refine ⟨by rw [aF, cd]; omega, ca, fun k hk => ⟨Pw, ?_, ?_, ay _, ay _⟩⟩
 ·rw [aq, aW (by omega), Nat.add_sub_cancel_left, bN, ax hk]
  show mI ts[k] = _
  rw [show ts[k] = ts.getD k tz by rw [aq, ax hk]; rfl]
 ·rw [aq, bK, if_pos hk]
  rfl
theorem L4 {α : Type} {xs ys : List α} {d : α} {j : Nat} (h : j < xs.length) : (xs ++ ys).getD j d = xs.getD j d := by
 rw [aq, aO h, ← aq]
theorem Rep.app {fam : List gU} {p : Nat} {ts : List Tsk} {ret : List (List Int)} (h : Rep fam p ts ret) (ys : List gU) : Rep (fam ++ ys) p ts ret := by
 have := h.le
 exact h.far (by rw [aF]; omega) (fun j h1 h2 => L4 (by omega))
abbrev Px (bl : List (List Int)) (mem : dF) (k : Nat) : dF := mem.set k ((bl.getD k []).take (min (bl.getD k []).length 8) ++ (mem.getD k z8).drop (min (bl.getD k []).length 8))
def sF (bl : List (List Int)) : Nat → dF
 | 0 => py
 | k + 1 => Px bl (sF bl k) k
theorem EB (bl : List (List Int)) : ∀ k, (sF bl k).length = 8
 | 0 => rfl
 | k + 1 => by
  show (Px bl (sF bl k) k).length = 8
  rw [aM]
  exact EB bl k
theorem E2 {x : cZ} {mem mem' : dF} (h : x.1 = 17 → mem.getD x.2.1.toNat z8 = mem'.getD x.2.1.toNat z8) (mt : Int) (s : MS) : eH x mt s mem = eH x mt s mem' := by
 have e : fz x s mem = fz x s mem' := by
  unfold fz
  by_cases h17 : x.1 = 17
  ·rw [h h17]
  ·simp only [if_neg h17]
 unfold eH
 rw [e]
structure Agree (t : Tsk) (mem mem' : dF) : Prop where
 len : mem.length = 8 ∧ mem'.length = 8
 own : ∀ b ∈ t.blocks, mem.getD b.toNat z8 = mem'.getD b.toNat z8
theorem EC {m : Img} {t : Tsk} (h : TaskG m t) (hR : RightP m) {i : Nat} (hi : i < t.code.length) (ho : opAt t.code i = 17 ∨ opAt t.code i = 18) : dd t.code i ∈ t.blocks ∧ 0 ≤ dd t.code i ∧ dd t.code i < 8 := by
 have h1 := zJ h.lock hi ho
 rw [h.own] at h1
 have h2 := h.ok.2.1.mem _ h1
 have h3 : m.blocks.length ≤ 8 := hR.1.2.2.2.2.2.1
 exact ⟨h1, by omega, by omega⟩
theorem yh {x : cZ} (h : x.1 ≠ 18) (s : MS) (mem : dF) : lS x s mem = mem := by
 unfold lS
 rw [if_neg h]
theorem yi {x : cZ} (h : x.1 = 18) (s : MS) (mem : dF) : lS x s mem = mem.set x.2.1.toNat ((mem.getD x.2.1.toNat z8).set x.2.2.toNat (pv s.stk)) := by
 unfold lS
 rw [if_pos h]
theorem yj (x : cZ) (s : MS) (mem : dF) : (lS x s mem).length = mem.length := by
 unfold lS
 split
 ·exact aM
 ·rfl
theorem Hm {m : Img} {t : Tsk} (h : TaskG m t) (hR : RightP m) {i : Nat} (hi : i < t.code.length) {mem mem' : dF} (ha : Agree t mem mem') (mt : Int) (s : MS) :
  eH (t.code.getD i (0, 0, 0)) mt s mem = eH (t.code.getD i (0, 0, 0)) mt s mem' ∧ Agree t (lS (t.code.getD i (0, 0, 0)) s mem) (lS (t.code.getD i (0, 0, 0)) s mem') := by
 refine ⟨E2 (fun h17 => ha.own _ (EC h hR hi (.inl h17)).1) mt s, ?_⟩
 refine ⟨by rw [yj, yj]; exact ha.len, fun b hb => ?_⟩
 by_cases h18 : (t.code.getD i (0, 0, 0)).1 = 18
 ·obtain ⟨o1, o2, o3⟩ := EC h hR hi (.inr h18)
  have hl := ha.len
  unfold dd at o1 o2 o3
  rw [yi h18, yi h18, ha.own _ o1]
  by_cases e : (t.code.getD i (0, 0, 0)).2.1.toNat = b.toNat
  ·rw [← e, jH (by omega), jH (by omega)]
  ·rw [jI e, jI e]
   exact ha.own b hb
 ·rw [yh h18, yh h18]
  exact ha.own b hb
theorem wW {m : Img} {t : Tsk} (h : TaskG m t) (hR : RightP m) : ∀ (k : Nat) {c c' : CS}, px t.code (scanI t.code).1 (mD t.code) c → c.on = c'.on → c.s = c'.s → Agree t c.mem c'.mem →
  (eI t.code (scanI t.code).1 k c).s = (eI t.code (scanI t.code).1 k c').s ∧ Agree t (eI t.code (scanI t.code).1 k c).mem (eI t.code (scanI t.code).1 k c').mem
 | 0, c, c', hc, h1, h2, h3 => ⟨h2, h3⟩
 | k + 1, c, c', hc, h1, h2, h3 => by
  show (eI _ _ k (em _ _ c)).s = (eI _ _ k (em _ _ c')).s ∧ Agree t (eI _ _ k (em _ _ c)).mem (eI _ _ k (em _ _ c')).mem
  refine wW h hR k (zF h.row hc 0).2 ?_ ?_ ?_ <;> cases hon : c.on with
  | false =>
   unfold em
   rw [if_neg (by rw [hon]; decide), if_neg (by rw [← h1, hon]; decide)]
   all_goals first | exact h1 | exact h2 | exact h3
  | true =>
   obtain ⟨i, rs, hO⟩ := hc hon
   have e1 := sE (l := t.code) (m := (scanI t.code).1) hon hO.place
   have e2 := sE (l := t.code) (m := (scanI t.code).1) (c := c') (h1 ▸ hon) (h2 ▸ hO.place)
   obtain ⟨a1, a2⟩ := Hm h hR hO.lt h3 ((scanI t.code).1.getD i 0) c.s
   rw [e1, e2, ← h2]
   all_goals first | exact rfl | exact a1 | exact a2
theorem BF {m : Img} {t : Tsk} (h : TaskG m t) (hR : RightP m) (K : Nat) (ret inp : List Int) {mem mem' : dF} (ha : Agree t mem mem') :
  (dV K t.code ret inp mem).s = (dV K t.code ret inp mem').s ∧ Agree t (dV K t.code ret inp mem).mem (dV K t.code ret inp mem').mem := by
 unfold dV
 exact wW h hR K (lm h.row ret inp mem) rfl rfl ha
theorem F8 {m : Img} {t : Tsk} (h : TaskG m t) (K : Nat) (ret inp : List Int) (mem : dF) : (dV K t.code ret inp mem).mem.length = mem.length := by
 unfold dV
 exact nA h.row (P := fun c => c.mem.length = mem.length) (fun c i rs hon hO hP => (yj _ _ _).trans hP) K (lm h.row ret inp mem) rfl
theorem pz {m : Img} {t : Tsk} (h : TaskG m t) (hR : RightP m) (K : Nat) (ret inp : List Int) (mem : dF) {b : Nat} (hb : (∀ i, i < t.code.length → opAt t.code i ≠ 18) ∨ (b : Int) ∉ t.blocks) : (dV K t.code ret inp mem).mem.getD b z8 = mem.getD b z8 := by
 unfold dV
 refine nA h.row (P := fun c => c.mem.getD b z8 = mem.getD b z8) (fun c i rs hon hO hP => ?_) K (lm h.row ret inp mem) rfl
 show (lS _ _ _).getD b z8 = _
 by_cases h18 : (t.code.getD i (0, 0, 0)).1 = 18
 ·rcases hb with hb | hb
  ·exact absurd h18 (hb i hO.lt)
  ·obtain ⟨o1, o2, o3⟩ := EC h hR hO.lt (.inr h18)
   unfold dd at o1 o2 o3
   rw [yi h18, jI (fun e => hb ?_)]
   ·exact hP
   ·rw [← e, Int.toNat_of_nonneg o2]
    exact o1
 ·rw [yh h18]
  exact hP
theorem BG : ∀ {l s : List Int}, apart s l = true → ∀ x ∈ l, x ∉ s
 | y :: l, s, h, x, hx => by
  unfold apart at h
  rw [aj, bJ] at h
  rcases aB.1 hx with e | hx
  ·subst e
   exact fun hs => by have := List.contains_iff_mem.2 hs; rw [h.1] at this; cases this
  ·exact fun hs => BG h.2 x hx (aY _ hs)
theorem wX {m : Img} : ∀ {l : List Tsk} {s : List Int}, TasksOk m s l → (∀ k, k < l.length → ∀ x ∈ Tsk.outs (l.getD k tz), x ∉ s) ∧ (∀ j k, j < k → k < l.length → ∀ x ∈ Tsk.outs (l.getD j tz), x ∉ Tsk.outs (l.getD k tz))
 | [], s, _ => ⟨fun k hk => absurd hk (Nat.not_lt_zero _), fun j k _ hk => absurd hk (Nat.not_lt_zero _)⟩
 | t :: l, s, h => by
  obtain ⟨h1, h2, h3⟩ := h
  obtain ⟨a1, a2⟩ := wX h3
  refine ⟨fun k hk x hx => ?_, fun j k hjk hk x hx => ?_⟩
  ·cases k with
   | zero => exact BG h2 x hx
   | succ k =>
    have hx : x ∈ Tsk.outs (l.getD k tz) := hx
    exact fun hs => a1 k (by simpa using hk) x hx (aY _ hs)
  ·cases k with
   | zero => omega
   | succ k =>
    have hk : k < l.length := by simpa using hk
    show x ∉ Tsk.outs (l.getD k tz)
    cases j with
    | zero =>
     have hx : x ∈ Tsk.outs t := hx
     exact fun hs => a1 k hk x hs (bG _ hx)
    | succ j =>
     have hx : x ∈ Tsk.outs (l.getD j tz) := hx
     exact a2 j k (by omega) hk x hx
theorem Hn {m : Img} (hR : RightP m) {a b : Nat} (ha : a < m.tasks.length) (hb : b < m.tasks.length) (hab : a ≠ b) : ∀ x ∈ Tsk.outs (m.tasks.getD a tz), x ∉ Tsk.outs (m.tasks.getD b tz) := by
 obtain ⟨_, h⟩ := wX hR.2.2
 rcases Nat.lt_or_gt_of_ne hab with h1 | h1
 ·exact h a b h1 hb
 ·exact fun x hx hx2 => h b a h1 ha x hx2 hx
theorem ED {x : Nat} {v : Int} : ∀ {os : List (Int × Int)} (h : ∀ e ∈ os, e.1.toNat ≠ x) (out : List Int), ic (out.set x v) os = (ic out os).set x v
 | [], _, out => rfl
 | e :: os, h, out => by
  show ic ((out.set x v).set e.1.toNat e.2) os = (ic (out.set e.1.toNat e.2) os).set x v
  rw [List.set_comm _ _ (fun e2 => h e (aD ..) e2.symm)]
  exact ED (fun e' he' => h e' (az _ he')) _
theorem BH {os' : List (Int × Int)} : ∀ {os : List (Int × Int)} (h : ∀ e ∈ os, ∀ e' ∈ os', e.1.toNat ≠ e'.1.toNat) (out : List Int), ic (ic out os) os' = ic (ic out os') os
 | [], _, out => rfl
 | e :: os, h, out => by
  show ic (ic (out.set e.1.toNat e.2) os) os' = ic ((ic out os').set e.1.toNat e.2) os
  rw [BH (fun e1 h1 => h e1 (az _ h1)), ED (fun e' he' => fun e2 => h e (aD ..) e' he' e2.symm)]
abbrev dR (ts : List Tsk) (k : Nat) : List Int := Tsk.blocks (ts.getD k tz)
theorem qS (K : Nat) {ts : List Tsk} {k : Nat} (hk : k < ts.length) (inp : List Int) (W : WM) : fN K ts (k : Int) inp W = (jl (dV K (dB ts k) (W.ret.getD k []) inp W.mem).s.out (dV K (dB ts k) (W.ret.getD k []) inp W.mem).s.set, 0, ⟨W.ret.set k (dV K (dB ts k) (W.ret.getD k []) inp W.mem).s.ret, (dV K (dB ts k) (W.ret.getD k []) inp W.mem).mem, ic W.out (jl (dV K (dB ts k) (W.ret.getD k []) inp W.mem).s.out (dV K (dB ts k) (W.ret.getD k []) inp W.mem).s.set)⟩) := by
 unfold fN
 rw [if_pos (show 0 ≤ (k : Int) ∧ (k : Int) < (ts.length : Int) by omega), ag]
theorem JU (K : Nat) {i1 i2 i3 i4 : Int} {sf : List Int} {bl : List (List Int)} {ts : List Tsk} (hG : GoodM (i1, i2, i3, i4, sf, bl, ts)) {a b : Nat} (ha : a < ts.length) (hb : b < ts.length) (hab : a ≠ b) (hd : ∀ x ∈ dR ts a, x ∉ dR ts b) (inA fQ : List Int) (W : WM) (hm : W.mem.length = 8) :
  (fN K ts (a : Int) inA W).1 = (fN K ts (a : Int) inA (fN K ts (b : Int) fQ W).2.2).1 ∧ (fN K ts (b : Int) fQ (fN K ts (a : Int) inA W).2.2).1 = (fN K ts (b : Int) fQ W).1 ∧
  (fN K ts (b : Int) fQ (fN K ts (a : Int) inA W).2.2).2.2.ret = (fN K ts (a : Int) inA (fN K ts (b : Int) fQ W).2.2).2.2.ret ∧
  (fN K ts (b : Int) fQ (fN K ts (a : Int) inA W).2.2).2.2.out = (fN K ts (a : Int) inA (fN K ts (b : Int) fQ W).2.2).2.2.out ∧
  ∀ k : Nat, (fN K ts (b : Int) fQ (fN K ts (a : Int) inA W).2.2).2.2.mem.getD k z8 = (fN K ts (a : Int) inA (fN K ts (b : Int) fQ W).2.2).2.2.mem.getD k z8 := by
 have hR := hG.right
 have tA := hG.task a ha
 have tB := hG.task b hb
 rw [qS K ha inA W, qS K hb fQ W]
 dsimp only
 rw [qS K ha, qS K hb]
 dsimp only
 rw [jI (k := b) (j := a) (fun e => hab e.symm), jI (k := a) (j := b) hab]
 generalize W.ret.getD a [] = ra
 generalize W.ret.getD b [] = rb
 have lA := F8 tA K ra inA W.mem
 have lB := F8 tB K rb fQ W.mem
 have natA : ∀ x ∈ dR ts a, 0 ≤ x := fun x hx => by have := tA.ok.2.1.mem x hx; omega
 have natB : ∀ x ∈ dR ts b, 0 ≤ x := fun x hx => by have := tB.ok.2.1.mem x hx; omega
 have fA := fun k h => pz tA hR K ra inA W.mem (b := k) (.inr h)
 have fB := fun k h => pz tB hR K rb fQ W.mem (b := k) (.inr h)
 have oA := yg K tA ra inA W.mem
 have oB := yg K tB rb fQ W.mem
 have agB : Agree (ts.getD b tz) (dV K (dB ts a) ra inA W.mem).mem W.mem := ⟨⟨lA.trans hm, hm⟩, fun x hx => fA x.toNat (fun h => by rw [Int.toNat_of_nonneg (natB x hx)] at h; exact hd x h hx)⟩
 have agA : Agree (ts.getD a tz) W.mem (dV K (dB ts b) rb fQ W.mem).mem := ⟨⟨hm, lB.trans hm⟩, fun x hx => (fB x.toNat (fun h => by rw [Int.toNat_of_nonneg (natA x hx)] at h; exact hd x hx h)).symm⟩
 obtain ⟨sB, gB⟩ := BF tB hR K rb fQ agB
 obtain ⟨sA, gA⟩ := BF tA hR K ra inA agA
 have fAB := fun k h => pz tB hR K rb fQ (dV K (dB ts a) ra inA W.mem).mem (b := k) (.inr h)
 have fBA := fun k h => pz tA hR K ra inA (dV K (dB ts b) rb fQ W.mem).mem (b := k) (.inr h)
 have sA : (dV K (dB ts a) ra inA W.mem).s = (dV K (dB ts a) ra inA (dV K (dB ts b) rb fQ W.mem).mem).s := sA
 have sB : (dV K (dB ts b) rb fQ (dV K (dB ts a) ra inA W.mem).mem).s = (dV K (dB ts b) rb fQ W.mem).s := sB
 rw [← sA, sB]
 refine ⟨rfl, rfl, List.set_comm _ _ hab, BH (fun e he e' he' hh => ?_) _, fun k => ?_⟩
 ·have h1 := oA e he
  have h2 := oB e' he'
  have n1 := tA.ok.2.2.1.mem _ h1
  have n2 := tB.ok.2.2.1.mem _ h2
  have : e.1 = e'.1 := by omega
  rw [this] at h1
  exact Hn hR ha hb hab _ h1 h2
 ·show (dV K (dB ts b) rb fQ (dV K (dB ts a) ra inA W.mem).mem).mem.getD k z8 = (dV K (dB ts a) ra inA (dV K (dB ts b) rb fQ W.mem).mem).mem.getD k z8
  by_cases hkB : (k : Int) ∈ dR ts b
  ·have hkA : (k : Int) ∉ dR ts a := fun h => hd _ h hkB
   have e1 := gB.own _ hkB
   rw [ag] at e1
   rw [show (dV K (dB ts b) rb fQ (dV K (dB ts a) ra inA W.mem).mem).mem.getD k z8 = _ from e1]
   exact (fBA k hkA).symm
  ·rw [show (dV K (dB ts b) rb fQ (dV K (dB ts a) ra inA W.mem).mem).mem.getD k z8 = _ from fAB k hkB]
   by_cases hkA : (k : Int) ∈ dR ts a
   ·have e1 := gA.own _ hkA
    rw [ag] at e1
    exact e1
   ·rw [show (dV K (dB ts a) ra inA (dV K (dB ts b) rb fQ W.mem).mem).mem.getD k z8 = _ from fBA k hkA]
    exact (fA k hkA).trans (fB k hkB).symm
theorem Nc {i1 i2 i3 i4 : Int} {sf : List Int} {bl : List (List Int)} {ts : List Tsk} (hR : RightP (i1, i2, i3, i4, sf, bl, ts)) (b : Nat) (mem : dF) : (if 0 ≤ (b : Int) ∧ (b : Int) < (bl.length : Int) then (mem.getD b z8).take (bl.getD b []).length else []).length < 30000 := by
 split
 ·rename_i h
  have hw : (bl.getD b []).length ≤ 8 := (hR.2.1 _ (by rw [aq, ax (show b < bl.length by omega)]; exact bA _)).2
  rw [bV]
  omega
 ·exact (by decide : 0 < 30000)
theorem EE (n : Nat) (fam : List gU) (i1 i2 i3 i4 : Int) (sf : List Int) (bl : List (List Int)) (ts : List Tsk) (ms : List Nat) (mem : dF) {out : List Int} (h : out.length ≤ 16) : i8 n fam i1 i2 i3 i4 sf bl ts ms mem out = some (out, fam, i1, i2, i3, i4, sf, bl, ts, ms, mem, out) := by
 unfold i8
 rw [if_pos (by simp; omega)]
theorem F9 : gQ 30000 = some true := by kernel_rfl
theorem pA {n : Nat} (hn : 30000 ≤ n) {i1 i2 i3 i4 : Int} {sf : List Int} {bl : List (List Int)} {ts : List Tsk} (hG : GoodM (i1, i2, i3, i4, sf, bl, ts)) (j1 j2 j3 j4 : Int) (jf : List Int) (jb : List (List Int)) (js : List Tsk) (fam : List gU) (mem : dF) (out : List Int) :
  mz n (ts, (ts.length : Int), 0, fam, j1, j2, j3, j4, jf, jb, js, i1, i2, i3, i4, sf, bl, ts, [], mem, out) = some (fam ++ ts.map mI, j1, j2, j3, j4, jf, jb, js, i1, i2, i3, i4, sf, bl, ts, eT fam.length ts.length, mem, out) := by
 have hT : ts.length ≤ 8 := hG.right.1.2.2.2.2.2.2.2
 have key : ∃ r, mz n (ts, (ts.length : Int), 0, fam, j1, j2, j3, j4, jf, jb, js, i1, i2, i3, i4, sf, bl, ts, [], mem, out) = some r ∧ r = (fam ++ ts.map mI, j1, j2, j3, j4, jf, jb, js, i1, i2, i3, i4, sf, bl, ts, eT fam.length ts.length, mem, out) := by
  show ∃ r, it _ n _ = some r ∧ _
  refine kz (fun f x => ∃ k : Nat, k ≤ ts.length ∧ ts.length < f + k ∧ x = (ts, (ts.length : Int), (k : Int), fam ++ (ts.take k).map mI, j1, j2, j3, j4, jf, jb, js, i1, i2, i3, i4, sf, bl, ts, eT fam.length k, mem, out)) _ (fun x ⟨k, h1, h2, _⟩ => by omega) ?_ n _ ⟨0, by omega, by omega, by rw [List.take_zero, List.map_nil, aG]; rfl⟩
  rintro f x F hF ⟨k, h1, h2, rfl⟩
  show ∃ r, zm n F ts (ts.length : Int) (k : Int) (fam ++ (ts.take k).map mI) j1 j2 j3 j4 jf jb js i1 i2 i3 i4 sf bl ts (eT fam.length k) mem out = some r ∧ _
  unfold zm
  rcases am k ts.length with hk | hk
  ·rw [if_pos (af (by omega)), if_pos (db hk), ag, show jQ 30000 (ts.getD k (0, 0, 0, 0, [], [], [])).2.2.2.2.2.2 (fam ++ (ts.take k).map mI) = _ from L3 (hG.task k hk) _, ae]
   dsimp only
   rw [if_pos (by rw [show (eT fam.length k).length = k from List.length_range']; simp; omega), dC (by omega)]
   refine hF _ ⟨k + 1, by omega, by omega, ?_⟩
   rw [cM, ax hk, cA, ← aI]
   show _ = (_, _, _, _ ++ [mI ts[k]], _)
   rw [show ts[k] = ts.getD k tz by rw [aq, ax hk]; rfl, show eT fam.length (k + 1) = eT fam.length k ++ [fam.length + 1 + k] from List.range'_1_concat, show (fam ++ (ts.take k).map mI).length + 1 = fam.length + 1 + k by rw [aF, cd, bV]; omega]
  ·rw [if_neg (by simp; omega)]
   exact ⟨_, rfl, by rw [aQ hk, show k = ts.length by omega]⟩
 obtain ⟨r, e1, e2⟩ := key
 rw [e1, e2]
theorem pB {n : Nat} (hn : 30000 ≤ n) (i1 i2 i3 i4 : Int) (sf : List Int) {bl : List (List Int)} (hb : bl.length ≤ 8) (ts : List Tsk) (fam : List gU) (ms : List Nat) (out : List Int) :
  mA n (bl, (bl.length : Int), 0, fam, i1, i2, i3, i4, sf, bl, ts, ms, py, out) = some (fam, i1, i2, i3, i4, sf, bl, ts, ms, sF bl bl.length, out) := by
 have key : ∃ r, mA n (bl, (bl.length : Int), 0, fam, i1, i2, i3, i4, sf, bl, ts, ms, py, out) = some r ∧ r = (fam, i1, i2, i3, i4, sf, bl, ts, ms, sF bl bl.length, out) := by
  show ∃ r, it _ n _ = some r ∧ _
  refine kz (fun f x => ∃ k : Nat, k ≤ bl.length ∧ bl.length < f + k ∧ x = (bl, (bl.length : Int), (k : Int), fam, i1, i2, i3, i4, sf, bl, ts, ms, sF bl k, out)) _ (fun x ⟨k, h1, h2, _⟩ => by omega) ?_ n _ ⟨0, by omega, by omega, rfl⟩
  rintro f x F hF ⟨k, h1, h2, rfl⟩
  show ∃ r, zn n F bl (bl.length : Int) (k : Int) fam i1 i2 i3 i4 sf bl ts ms (sF bl k) out = some r ∧ _
  unfold zn
  rcases am k bl.length with hk | hk
  ·rw [if_pos (af (by omega)), if_pos (db hk), if_pos (jT (by omega)), ag, dC (by omega)]
   exact hF _ ⟨k + 1, by omega, by omega, rfl⟩
  ·rw [if_neg (by simp; omega)]
   exact ⟨_, rfl, by rw [show k = bl.length by omega]⟩
 obtain ⟨r, e1, e2⟩ := key
 rw [e1, e2]
theorem EF {k : Nat} (h : k + 1 ≤ 9223372036854775807) : wrap .i64 ((k : Int) + 1) = ((k + 1 : Nat) : Int) := by
 rw [dQ (by omega) (by omega)]
 rfl
theorem BI : maxLen = 9223372036854775807 := by decide
theorem Qi {n : Nat} (i1 i2 i3 i4 : Int) (sf : List Int) (bl : List (List Int)) {ts : List Tsk} {a b : Nat} (ha : a < ts.length) (hb : b < ts.length) (hcb : (dR ts b).length < n ∧ (dR ts b).length ≤ maxLen) (ina inb : List Int) {i : Nat} (hi : i < (dR ts a).length) (fam : List gU) :
  ∃ r, xW n ((i : Int), 0, fam, i1, i2, i3, i4, sf, bl, ts, (a : Int), ina, (b : Int), inb) = some r ∧ ((∃ X, r = .inl ((true, ()), X)) ∨ (r = .inr (((i : Int), ()), ((fam, ()), (i1, i2, i3, i4, sf, bl, ts, ()), ((a : Int), ina, ()), ((b : Int), inb, ()), ())) ∧ (dR ts a).getD i 0 ∉ dR ts b)) := by
 show ∃ r, it _ n _ = some r ∧ _
 refine kz (fun f x => ∃ j : Nat, j ≤ (dR ts b).length ∧ (dR ts b).length < f + j ∧ ((dR ts a).getD i 0 ∉ (dR ts b).take j) ∧ x = ((i : Int), (j : Int), fam, i1, i2, i3, i4, sf, bl, ts, (a : Int), ina, (b : Int), inb)) _ (fun x ⟨j, h1, h2, _⟩ => by omega) ?_ n _ ⟨0, by omega, by omega, by rw [List.take_zero]; exact List.not_mem_nil, rfl⟩
 rintro f x F hF ⟨j, h1, h2, h3, rfl⟩
 rw [BI] at *
 show ∃ r, zk n F (i : Int) (j : Int) fam i1 i2 i3 i4 sf bl ts (a : Int) ina (b : Int) inb = some r ∧ _
 unfold zk
 rw [if_pos (db hb), ag, ag]
 rcases am j (dR ts b).length with hj | hj
 ·rw [if_pos (show decide ((j : Int) < (((ts.getD b (0, 0, 0, 0, [], [], [])).2.2.2.2.1.length : Nat) : Int)) = true from af (show (j : Int) < ((dR ts b).length : Int) by omega)), if_pos (db ha), if_pos (show (decide (0 ≤ (i : Int)) && decide ((i : Int) < (((ts.getD a (0, 0, 0, 0, [], [], [])).2.2.2.2.1.length : Nat) : Int))) = true from db (k := (dR ts a).length) hi), if_pos (db hb), if_pos (show (decide (0 ≤ (j : Int)) && decide ((j : Int) < (((ts.getD b (0, 0, 0, 0, [], [], [])).2.2.2.2.1.length : Nat) : Int))) = true from db (k := (dR ts b).length) hj), ag, ag]
  by_cases he : (dR ts a).getD i 0 = (dR ts b).getD j 0
  ·rw [if_pos (show ((ts.getD a (0, 0, 0, 0, [], [], [])).2.2.2.2.1.getD i (0 : Int) == (ts.getD b (0, 0, 0, 0, [], [], [])).2.2.2.2.1.getD j (0 : Int)) = true from ai.2 he), F9]
   exact ⟨_, rfl, .inl ⟨_, rfl⟩⟩
  ·rw [if_neg (show ¬ ((ts.getD a (0, 0, 0, 0, [], [], [])).2.2.2.2.1.getD i (0 : Int) == (ts.getD b (0, 0, 0, 0, [], [], [])).2.2.2.2.1.getD j (0 : Int)) = true from fun h => he (ai.1 h)), EF (k := j) (by omega)]
   refine hF _ ⟨j + 1, by omega, by omega, ?_, rfl⟩
   rw [cM, aA, not_or]
   refine ⟨h3, fun hm => ?_⟩
   rw [ax hj] at hm
   have e2 : (dR ts a).getD i 0 = (dR ts b)[j] := ao.1 hm
   have e3 : (dR ts b).getD j 0 = (dR ts b)[j] := by rw [aq, ax hj]; rfl
   exact he (e2.trans e3.symm)
 ·rw [if_neg (show ¬ decide ((j : Int) < (((ts.getD b (0, 0, 0, 0, [], [], [])).2.2.2.2.1.length : Nat) : Int)) = true from fun h => by have : (j : Int) < ((dR ts b).length : Int) := aR h; omega)]
  exact ⟨_, rfl, .inr ⟨rfl, by rwa [aQ hj] at h3⟩⟩
theorem Qj {n : Nat} (i1 i2 i3 i4 : Int) (sf : List Int) (bl : List (List Int)) {ts : List Tsk} {a b : Nat} (ha : a < ts.length) (hb : b < ts.length) (hca : (dR ts a).length < n ∧ (dR ts a).length ≤ maxLen) (hcb : (dR ts b).length < n ∧ (dR ts b).length ≤ maxLen) (ina inb : List Int) (fam : List gU) :
  ∃ r, xX n (0, fam, i1, i2, i3, i4, sf, bl, ts, (a : Int), ina, (b : Int), inb) = some r ∧ ((∃ X, r = .inl ((true, ()), X)) ∨ (r = .inr ((), ((fam, ()), (i1, i2, i3, i4, sf, bl, ts, ()), ((a : Int), ina, ()), ((b : Int), inb, ()), ())) ∧ ∀ x ∈ dR ts a, x ∉ dR ts b)) := by
 show ∃ r, it _ n _ = some r ∧ _
 refine kz (fun f x => ∃ j : Nat, j ≤ (dR ts a).length ∧ (dR ts a).length < f + j ∧ (∀ x ∈ (dR ts a).take j, x ∉ dR ts b) ∧ x = ((j : Int), fam, i1, i2, i3, i4, sf, bl, ts, (a : Int), ina, (b : Int), inb)) _ (fun x ⟨j, h1, h2, _⟩ => by omega) ?_ n _ ⟨0, by omega, by omega, by rw [List.take_zero]; exact fun x hx => (List.not_mem_nil hx).elim, rfl⟩
 rintro f x F hF ⟨j, h1, h2, h3, rfl⟩
 rw [BI] at *
 show ∃ r, zl n F (j : Int) fam i1 i2 i3 i4 sf bl ts (a : Int) ina (b : Int) inb = some r ∧ _
 unfold zl
 rw [if_pos (db ha), ag]
 rcases am j (dR ts a).length with hj | hj
 ·rw [if_pos (show decide ((j : Int) < (((ts.getD a (0, 0, 0, 0, [], [], [])).2.2.2.2.1.length : Nat) : Int)) = true from af (show (j : Int) < ((dR ts a).length : Int) by omega))]
  obtain ⟨r, e1, e2⟩ := Qi i1 i2 i3 i4 sf bl ha hb hcb ina inb hj fam
  rw [e1, ae]
  rcases e2 with ⟨X, rfl⟩ | ⟨rfl, e2⟩
  ·exact ⟨_, rfl, .inl ⟨_, rfl⟩⟩
  ·dsimp only [Sum.elim_inr]
   rw [EF (k := j) (by omega)]
   refine hF _ ⟨j + 1, by omega, by omega, fun x hx => ?_, rfl⟩
   rw [cM, aA, ax hj] at hx
   rcases hx with hx | hx
   ·exact h3 x hx
   ·have e4 : x = (dR ts a)[j] := ao.1 hx
    have e3 : (dR ts a).getD j 0 = (dR ts a)[j] := by rw [aq, ax hj]; rfl
    rw [e4, ← e3]
    exact e2
 ·rw [if_neg (show ¬ decide ((j : Int) < (((ts.getD a (0, 0, 0, 0, [], [], [])).2.2.2.2.1.length : Nat) : Int)) = true from fun h => by have : (j : Int) < ((dR ts a).length : Int) := aR h; omega)]
  exact ⟨_, rfl, .inr ⟨rfl, by rwa [aQ hj] at h3⟩⟩
theorem Qk {n : Nat} (hn : 30000 ≤ n) {i1 i2 i3 i4 : Int} {sf : List Int} {bl : List (List Int)} {ts : List Tsk} (hR : RightP (i1, i2, i3, i4, sf, bl, ts)) (o1 o2 o3 o4 : List (Int × Int)) {fam : List gU} {p q : Nat} {ret : List (List Int)} (hr1 : Rep fam p ts ret) (hr2 : Rep fam q ts ret) {mem mem' : dF} (hm : ∀ k : Nat, mem.getD k z8 = mem'.getD k z8) (out out' : List Int) :
  si n (o1, o2, o3, o4, 0, fam, i1, i2, i3, i4, sf, bl, ts, eT p ts.length, mem, out, i1, i2, i3, i4, sf, bl, ts, eT q ts.length, mem', out') = some (.inr ((o1, o2, o3, o4, ()), ((fam, ()), (i1, i2, i3, i4, sf, bl, ts, eT p ts.length, mem, out, ()), (i1, i2, i3, i4, sf, bl, ts, eT q ts.length, mem', out', ()), ()))) := by
 have key : ∃ r, si n (o1, o2, o3, o4, 0, fam, i1, i2, i3, i4, sf, bl, ts, eT p ts.length, mem, out, i1, i2, i3, i4, sf, bl, ts, eT q ts.length, mem', out') = some r ∧ r = (.inr ((o1, o2, o3, o4, ()), ((fam, ()), (i1, i2, i3, i4, sf, bl, ts, eT p ts.length, mem, out, ()), (i1, i2, i3, i4, sf, bl, ts, eT q ts.length, mem', out', ()), ()))) := by
  show ∃ r, it _ n _ = some r ∧ _
  refine kz (fun f x => ∃ b : Nat, b ≤ 8 ∧ 8 < f + b ∧ x = (o1, o2, o3, o4, (b : Int), fam, i1, i2, i3, i4, sf, bl, ts, eT p ts.length, mem, out, i1, i2, i3, i4, sf, bl, ts, eT q ts.length, mem', out')) _ (fun x ⟨w, h1, h2, _⟩ => by omega) ?_ n _ ⟨0, by omega, by omega, rfl⟩
  rintro f x F hF ⟨b, h1, h2, rfl⟩
  show ∃ r, zo n F o1 o2 o3 o4 (b : Int) fam i1 i2 i3 i4 sf bl ts (eT p ts.length) mem out i1 i2 i3 i4 sf bl ts (eT q ts.length) mem' out' = some r ∧ _
  unfold zo
  rcases am b 8 with hbl | hbl
  ·rw [if_pos (af (by omega)), show fm 30000 (b : Int) fam i1 i2 i3 i4 sf bl ts (eT p ts.length) mem out = _ from EA 30000 hR (b : Int) fam _ mem out, ae]
   dsimp only
   rw [show fm 30000 (b : Int) fam i1 i2 i3 i4 sf bl ts (eT q ts.length) mem' out' = _ from EA 30000 hR (b : Int) fam _ mem' out', ae]
   dsimp only
   rw [ag, hm b, By 30000 (by decide) _ _ (Nc hR b mem'), ae, af rfl, if_neg (by decide)]
   rw [show eR 30000 (b : Int) fam i1 i2 i3 i4 sf bl ts (eT p ts.length) mem out = _ from wV hr1 30000 (b : Int) i1 i2 i3 i4 sf bl ts mem out, ae]
   dsimp only
   rw [show eR 30000 (b : Int) fam i1 i2 i3 i4 sf bl ts (eT q ts.length) mem' out' = _ from wV hr2 30000 (b : Int) i1 i2 i3 i4 sf bl ts mem' out', ae]
   dsimp only
   rw [if_neg (by rw [Qh _ 8]; decide), dC (by omega)]
   exact hF _ ⟨b + 1, by omega, by omega, rfl⟩
  ·rw [if_neg (by simp; omega)]
   exact ⟨_, rfl, rfl⟩
 obtain ⟨r, e1, e2⟩ := key
 rw [e1, e2]
theorem lV (a0 : (Int × (Int × (Int × (Int × ((List Int) × ((List (List Int)) × (List (Int × (Int × (Int × (Int × ((List Int) × ((List Int) × (List (Int × (Int × Int))))))))))))))))) (a1 : (Int × (List Int))) (a2 : (Int × (List Int))) (ok0 : Sh.Ok (.pair (.int .i64) (.pair (.int .i64) (.pair (.int .i64) (.pair (.int .i64) (.pair (.sl (.int .i64)) (.pair (.sl (.sl (.int .i64))) (.sl (.pair (.int .i64) (.pair (.int .i64) (.pair (.int .i64) (.pair (.int .i64) (.pair (.sl (.int .i64)) (.pair (.sl (.int .i64)) (.sl (.pair (.int .i64) (.pair (.int .i64) (.int .i64))))))))))))))))) a0) (ok1 : Sh.Ok (.pair (.int .i64) (.arr 16 (.int .i64))) a1) (ok2 : Sh.Ok (.pair (.int .i64) (.arr 16 (.int .i64))) a2) (sm0 : Sh.Sm (.pair (.int .i64) (.pair (.int .i64) (.pair (.int .i64) (.pair (.int .i64) (.pair (.sl (.int .i64)) (.pair (.sl (.sl (.int .i64))) (.sl (.pair (.int .i64) (.pair (.int .i64) (.pair (.int .i64) (.pair (.int .i64) (.pair (.sl (.int .i64)) (.pair (.sl (.int .i64)) (.sl (.pair (.int .i64) (.pair (.int .i64) (.int .i64))))))))))))))))) a0) (Mk : Sh.Sm (.pair (.int .i64) (.arr 16 (.int .i64))) a1) (Ml : Sh.Sm (.pair (.int .i64) (.arr 16 (.int .i64))) a2) : ∃ n, GW n a0 a1 a2 = some true := by
 obtain ⟨n, hn, hna, hnb⟩ : ∃ n : Nat, 30000 ≤ n ∧ (dR a0.2.2.2.2.2.2 a1.1.toNat).length < n ∧ (dR a0.2.2.2.2.2.2 a2.1.toNat).length < n := ⟨30001 + (dR a0.2.2.2.2.2.2 a1.1.toNat).length + (dR a0.2.2.2.2.2.2 a2.1.toNat).length, by omega, by omega, by omega⟩
 refine ⟨n, ?_⟩
 obtain ⟨K, hK⟩ : ∃ K : Nat, K = 6000 := ⟨6000, rfl⟩
 obtain ⟨i1, i2, i3, i4, sf, bl, ts⟩ := a0
 obtain ⟨a, ina⟩ := a1
 obtain ⟨b, inb⟩ := a2
 unfold GW
 dsimp only
 rw [F9]
 obtain ⟨lb, hb1, hb2⟩ := Hl sm0
 rw [hb1, ae]
 cases lb with
 | false => rfl
 | true =>
  obtain ⟨hL, hW⟩ := hb2 rfl
  rw [if_neg (by decide)]
  by_cases h0 : a < 0
  ·rw [if_pos (af h0)]; rfl
  rw [if_neg (fun h => h0 (aR h))]
  by_cases h2 : b < 0
  ·rw [if_pos (af h2)]; rfl
  rw [if_neg (fun h => h2 (aR h))]
  by_cases h1 : a ≥ (ts.length : Int)
  ·rw [if_pos (af h1)]; rfl
  rw [if_neg (fun h => h1 (aR h))]
  by_cases h3 : b ≥ (ts.length : Int)
  ·rw [if_pos (af h3)]; rfl
  rw [if_neg (fun h => h3 (aR h))]
  by_cases h4 : a = b
  ·rw [if_pos (ai.2 h4)]; rfl
  rw [if_neg (fun h => h4 (ai.1 h))]
  obtain ⟨k, rfl⟩ : ∃ k : Nat, a = (k : Int) := ⟨a.toNat, by omega⟩
  obtain ⟨j, rfl⟩ : ∃ j : Nat, b = (j : Int) := ⟨b.toNat, by omega⟩
  have hk : k < ts.length := by omega
  have hj : j < ts.length := by omega
  dsimp only at hna hnb
  rw [ag] at hna hnb
  have hmax : ∀ i, i < ts.length → (dR ts i).length ≤ maxLen := fun i hi => (ok0.2.2.2.2.2.2.2 (ts.getD i tz) (by show _ ∈ ts; rw [aq, ax hi]; exact bA _)).2.2.2.2.1.1
  obtain ⟨r, e1, e2⟩ := Qj (n := n) i1 i2 i3 i4 sf bl hk hj ⟨hna, hmax k hk⟩ ⟨hnb, hmax j hj⟩ ina inb []
  rw [e1, ae]
  rcases e2 with ⟨X, rfl⟩ | ⟨rfl, hd⟩
  ·rfl
  dsimp only [Sum.elim_inr]
  obtain ⟨x, e, c1, c2⟩ := LY (i1, i2, i3, i4, sf, bl, ts)
  rw [c1, ae]
  dsimp only
  by_cases he : e = 0
  ·obtain ⟨hR, hT⟩ := c2 he
   have hG := Na hR hT hW
   subst he
   have hs16 : sf.length ≤ 16 := hR.1.2.2.2.2.1
   have hb8 : bl.length ≤ 8 := hR.1.2.2.2.2.2.1
   rw [if_neg (by decide), if_pos (by simp; omega)]
   have eA := pA hn hG i1 i2 i3 i4 sf bl ts [] py (List.replicate ((sf.length : Int)).toNat (0 : Int))
   rw [eA, ae]
   dsimp only
   rw [pB hn i1 i2 i3 i4 sf hb8 ts _ _ _, ae]
   dsimp only
   rw [ae]
   dsimp only
   rw [if_neg (by decide), if_pos (by simp; omega)]
   have hr0 := Rep.new [] ts
   generalize hf0 : ([] ++ ts.map mI : List gU) = fam0 at *
   rw [pA hn hG i1 i2 i3 i4 sf bl ts fam0 py (List.replicate ((sf.length : Int)).toNat (0 : Int)), ae]
   dsimp only
   rw [pB hn i1 i2 i3 i4 sf hb8 ts _ _ _, ae]
   dsimp only
   have hr1 := Rep.new fam0 ts
   have hr2 := hr0.app (ts.map mI)
   have hle := hr0.le
   generalize hf1 : fam0 ++ ts.map mI = fam1 at *
   obtain ⟨W, hWd⟩ : ∃ W : WM, W = ⟨List.replicate ts.length z8, sF bl bl.length, List.replicate ((sf.length : Int)).toNat (0 : Int)⟩ := ⟨_, rfl⟩
   have wr : W.ret = List.replicate ts.length z8 := by rw [hWd]
   have wm : W.mem = sF bl bl.length := by rw [hWd]
   have wo : W.out = List.replicate ((sf.length : Int)).toNat (0 : Int) := by rw [hWd]
   rw [← wr] at hr1 hr2
   rw [← wm, ← wo]
   have hm8 : W.mem.length = 8 := by rw [wm]; exact EB bl _
   have ho8 : W.out.length = sf.length := by rw [wo, ca, ag]
   have hq : ([] : List gU).length + ts.length ≤ fam0.length := hle
   have hKK : 5000 ≤ K ∧ K < 20000 := by omega
   obtain ⟨comm1, comm2, comm3, comm4, comm5⟩ := JU K hG hk hj (fun h => h4 (by rw [h])) hd ina inb W hm8
   -- the first model: a, then b
   obtain ⟨famA, p1, p2, p3, p4, p5⟩ := zK hKK hG hr2 ho8 (k : Int) ina
   rw [p1, ae]
   dsimp only
   have hr1A := hr1.far (fam' := famA) (by omega) (fun i h1 h2 => p4 i (.inr (by omega)))
   obtain ⟨famB, q1, q2, q3, q4, q5⟩ := zK hKK hG p2 p5 (j : Int) inb
   rw [q1, ae]
   dsimp only
   have hr1B := hr1A.far (fam' := famB) (by omega) (fun i h1 h2 => q4 i (.inr (by omega)))
   -- the second one: b, then a
   obtain ⟨famC, u1, u2, u3, u4, u5⟩ := zK hKK hG hr1B ho8 (j : Int) inb
   rw [u1, ae]
   dsimp only
   have q2C := q2.far (fam' := famC) (by omega) (fun i h1 h2 => u4 i (.inl (by omega)))
   obtain ⟨famD, v1, v2, v3, v4, v5⟩ := zK hKK hG u2 u5 (k : Int) ina
   rw [v1, ae]
   dsimp only
   have q2D := q2C.far (fam' := famD) (by omega) (fun i h1 h2 => v4 i (.inl (by omega)))
   rw [comm3] at q2D
   rw [Qk hn hR _ _ _ _ q2D v2 comm5 _ _, ae]
   dsimp only [Sum.elim_inr]
   have hlen : ∀ (i : Nat) (inp : List Int) (W : WM), i < ts.length → (fN K ts (i : Int) inp W).1.length ≤ 16 := fun i inp W hi => by
    rw [qS K hi]
    exact Bs _ _
   rw [comm1, comm2, Ek 30000 (hlen k _ _ hk) (by decide), ae, ae, El 30000 (hlen k _ _ hk) (by decide), ae, if_pos rfl]
   rw [Ek 30000 (hlen j _ _ hj) (by decide), ae, ae, El 30000 (hlen j _ _ hj) (by decide), ae, if_pos rfl]
   rw [comm4]
   rw [show fo 30000 famD i1 i2 i3 i4 sf bl ts (eT ([] : List gU).length ts.length) _ _ = _ from EE 30000 famD i1 i2 i3 i4 sf bl ts _ _ (by omega), ae]
   dsimp only
   rw [show fo 30000 famD i1 i2 i3 i4 sf bl ts (eT fam0.length ts.length) _ _ = _ from EE 30000 famD i1 i2 i3 i4 sf bl ts _ _ (by omega), ae]
   dsimp only
   rw [By 30000 (by decide) _ _ (by omega), ae, af rfl, if_pos rfl]
   rfl
  ·have hne : (e != 0) = true := aw.2 he
   rw [if_pos hne, ae]
   dsimp only
   rw [if_pos hne, if_pos hne, if_pos (bc e)]
   rfl
end Go.Proofs.Dk
