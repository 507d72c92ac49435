/- A part of the proofs: Plain: what is wrong with a task. -/
import Derived.Test.YtipefepnkpoiaaaGreatMB6
import Derived.Test.YtipefepnkpoiaaaGreatMB4
set_option linter.unusedVariables false
set_option linter.unusedSimpArgs false
noncomputable section
namespace Go.Proofs.Dk
open Go Go.IntKind
set_option maxRecDepth 100000
theorem uV (n : Nat) (hn : n < 1000000) (a b : List Int) (ha : a.length < n) : vw n a b = some (decide (a = b)) := by
 unfold vw xk
 by_cases hl : a.length = b.length
 ·rw [if_neg (fun h => aw.1 h (by rw [hl]))]
  have := iK (S := fun F => (C_ q_) (uA n F)) (fun f x r => ∃ i : Nat, x = (a, b, (i : Int)) ∧ i ≤ a.length ∧ a.length < f + i ∧ r = if a.drop i = b.drop i then .inr ((), ()) else .inl ((false, ()), ())) (fun x r ⟨i, _, h1, h2, _⟩ => by omega) (fun f x F hF r => ?_) n (a, b, 0) _ ⟨0, rfl, aA _, by omega, rfl⟩
  ·rw [this, bx, bx]
   by_cases h : a = b
   ·rw [if_pos h, af h]; rfl
   ·rw [if_neg h, bf h]; rfl
  ·rintro ⟨i, rfl, h1, h2, rfl⟩
   show uA n F a b (i : Int) = _
   unfold uA
   rcases am i a.length with hlt | hge
   ·rw [if_pos (af (by omega)), if_pos (dc hlt), if_pos (dc (by omega)), ag, en (d := (0 : Int)) hlt, en (l := b) (d := (0 : Int)) (by omega)]
    by_cases e : a.getD i 0 = b.getD i 0
    ·rw [if_neg (fun h => aw.1 h e), dw (by omega), e]
     refine hF _ _ ⟨i + 1, rfl, by omega, by omega, ?_⟩
     simp only [bm, true_and]
    ·rw [if_pos (aw.2 e), if_neg (fun h => e (List.cons.inj h).1)]
   ·have : i = a.length := by omega
    subst this
    rw [if_neg (by simp), bj, hl, bj]
    rfl
 ·rw [if_pos (show ((a.length : Int) != (b.length : Int)) = true from aw.2 (fun h => hl (Int.ofNat.inj h))), bf (fun h => hl (by rw [h]))]
theorem AY (l : List da) : ∀ (r i p : Nat), i ≤ p → p < i + r → opAt l p = 23 → de l p ∈ i8 l r i
 | 0, i, p, h1, h2, h3 => by omega
 | r + 1, i, p, h1, h2, h3 => by
  rw [show i8 l (r + 1) i = mE l i ++ i8 l r (i + 1) from rfl, az]
  by_cases h : i = p
  ·subst h
   left
   unfold mE
   rw [if_pos h3]
   exact aD
  ·exact .inr (AY l r (i + 1) p (by omega) (by omega) h3)
theorem yY {l : List da} (h : ed l = 0) {i : Nat} (hi : i < l.length) (ho : opAt l i = 17 ∨ opAt l i = 18) : de l i ∈ fV l := by
 have hb := K1 h hi
 unfold jQ at hb
 rw [if_neg (by omega), if_pos ho, Bool.not_eq_false'] at hb
 unfold uC at hb
 obtain ⟨k, h1, h2⟩ := anyB_iff.1 hb
 simp only [aj, ai] at h2
 unfold fV
 rw [if_pos h, ← h2.2.2]
 exact AY l _ _ k (aA _) (by omega) h2.2.1
theorem Bu {m : Img} {t : Tsk} (hl : ed t.code = 0) (hb : fV t.code = t.blocks) (ht : lH m t) : ∀ i ∈ t.code, i.1 = 17 ∨ i.1 = 18 → 0 ≤ i.2.1 ∧ i.2.1 < (m.blocks.length : Int) := by
 intro x hx ho
 obtain ⟨i, hi, e⟩ := co hx
 have e : t.code.getD i (0, 0, 0) = x := by rw [vx hi, e]
 have h := yY hl hi (by unfold opAt; rw [e]; exact ho)
 rw [hb] at h
 have := ht.2.1.mem _ h
 unfold de at this
 rw [e] at this
 omega
open Classical in
def nK (n : Nat) (m : Img) (i : Int) : Int :=
 if RightP m then
  if i < 0 ∨ i ≥ (m.tasks.length : Int) then 14
  else
   let t := m.tasks.getD i.toNat (0, 0, 0, 0, [], [], [])
   if (fB bM n t.code).2 ≠ 0 then (fB bM n t.code).2 else if fV t.code = t.blocks then (if t.code.all (lG m t) = true then 0 else 12) else 11
 else 12
theorem RightP.task {m : Img} (h : RightP m) {i : Int} (h0 : 0 ≤ i) (h1 : i < (m.tasks.length : Int)) : lH m (m.tasks.getD i.toNat (0, 0, 0, 0, [], [], [])) ∧ m.tasks.getD i.toNat (0, 0, 0, 0, [], [], []) ∈ m.tasks := by
 have hlt : i.toNat < m.tasks.length := by omega
 have hm : m.tasks.getD i.toNat ((0 : Int), (0 : Int), (0 : Int), (0 : Int), ([] : List Int), ([] : List Int), ([] : List da)) ∈ m.tasks := by rw [ao, ax hlt]; exact bi hlt
 exact ⟨(TasksOk.all.1 h.2.2).1 _ hm, hm⟩
theorem Ms (n : Nat) (hn : 200 < n) (hn2 : n < 1000000) (m : Img) (i : Int) : lv n m i = some (nK n m i) := by
 obtain ⟨b, e1, e2⟩ := uU n hn hn2 m
 unfold lv
 rw [show rA n (m.1, m.2.1, m.2.2.1, m.2.2.2.1, m.2.2.2.2.1, m.2.2.2.2.2.1, m.2.2.2.2.2.2) = some b from e1, ae]
 unfold nK
 cases b with
 | false =>
  rw [if_pos (show (!false) = true from rfl), if_neg (show ¬ RightP m from fun h => by have := e2.2 h; cases this)]
 | true =>
  have hR := e2.1 rfl
  rw [if_pos hR, if_neg (by decide)]
  by_cases h0 : i < 0
  ·rw [if_pos (af h0), if_pos (.inl h0)]
  rw [if_neg (by simpa using h0)]
  by_cases h1 : i ≥ (m.tasks.length : Int)
  ·rw [if_pos (show decide (i ≥ (m.2.2.2.2.2.2.length : Int)) = true from af h1), if_pos (.inr h1)]
  rw [if_neg (show ¬ decide (i ≥ (m.2.2.2.2.2.2.length : Int)) = true from fun h => h1 (aY h)), if_neg (show ¬ (i < 0 ∨ i ≥ (m.tasks.length : Int)) by omega), if_pos (show (decide (0 ≤ i) && decide (i < (m.2.2.2.2.2.2.length : Int))) = true by rw [af (by omega), af (show i < (m.2.2.2.2.2.2.length : Int) from by have : (m.tasks.length : Int) = (m.2.2.2.2.2.2.length : Int) := rfl; omega)]; rfl)]
  obtain ⟨ht, hm⟩ := hR.task (i := i) (by omega) (by omega)
  rw [show m.2.2.2.2.2.2.getD i.toNat (0, 0, 0, 0, [], [], []) = m.tasks.getD i.toNat (0, 0, 0, 0, [], [], []) from rfl]
  generalize m.tasks.getD i.toNat (0, 0, 0, 0, [], [], []) = t at ht ⊢
  have hc : t.code.length < n := by have := ht.2.2.2.2.1; omega
  have hol : t.outs.length < n := by have := ht.2.2.1.len (by omega); have := hR.1.2.2.2.2.1; omega
  have hS : gX n ((t.1, t.2.1, t.2.2.1, t.2.2.2.1, t.2.2.2.2.1, t.2.2.2.2.2.1, t.2.2.2.2.2.2), (m.1, m.2.1, m.2.2.1, m.2.2.2.1, m.2.2.2.2.1, m.2.2.2.2.2.1, m.2.2.2.2.2.2)) = some (fB bM n t.code).2 := by
   unfold gX
   rw [show gq n (((t.1, t.2.1, t.2.2.1, t.2.2.2.1, t.2.2.2.2.1, t.2.2.2.2.2.1, t.2.2.2.2.2.2), (m.1, m.2.1, m.2.2.1, m.2.2.2.1, m.2.2.2.2.1, m.2.2.2.2.2.1, m.2.2.2.2.2.2)) : Tsk × Img).1.2.2.2.2.2.2 = some (fB bM n t.code) from DA n t.code hc (by omega) hn2]
   rfl
  rw [hS, ae]
  dsimp only
  by_cases hz : (fB bM n t.code).2 ≠ 0
  ·rw [if_pos (aw.2 hz), if_pos hz]
  rw [if_neg (fun h => hz (aw.1 h)), if_neg hz]
  have hlk := (xC (Decidable.not_not.1 hz)).1
  have hB : ui n ((t.1, t.2.1, t.2.2.1, t.2.2.2.1, t.2.2.2.2.1, t.2.2.2.2.2.1, t.2.2.2.2.2.2), (m.1, m.2.1, m.2.2.1, m.2.2.2.1, m.2.2.2.2.1, m.2.2.2.2.2.1, m.2.2.2.2.2.2)) = some (if fV t.code = t.blocks then 0 else 11) := by
   have := IX n t m hc (by omega) hn2
   rw [if_neg (fun h => h hlk)] at this
   exact this
  rw [hB, ae]
  by_cases hb : fV t.code = t.blocks
  ·rw [if_pos hb, if_pos hb, if_neg (by decide)]
   have hN : yw n ((t.1, t.2.1, t.2.2.1, t.2.2.2.1, t.2.2.2.2.1, t.2.2.2.2.2.1, t.2.2.2.2.2.2), (m.1, m.2.1, m.2.2.1, m.2.2.2.1, m.2.2.2.2.1, m.2.2.2.2.2.1, m.2.2.2.2.2.2)) = _ := Ld n t m hc hol hn2 (Bu hlk hb ht)
   rw [hN, ae]
   cases t.code.all (lG m t) <;> rfl
  ·rw [if_neg hb, if_neg hb]
   rfl
def eW (k : Nat) : Int := if (100 : Int) < (k : Int) then 100 else (k : Int)
def eL (k : Nat) : Int := if (10000 : Int) < (k : Int) then 10000 else (k : Int)
theorem kY (k : Nat) : 0 ≤ eW k ∧ eW k ≤ 100 := by unfold eW; split <;> omega
theorem pD (k : Nat) : 0 ≤ eL k ∧ eL k ≤ 10000 := by unfold eL; split <;> omega
def j8 (a : Int) (l : List (List Int)) : Int := l.foldl (fun a b => a + eW b.length) a
def nb (a : Int) (l : List Tsk) : Int := l.foldl (fun a t => a + eW t.blocks.length + eW t.outs.length + (eL t.code.length).tdiv 20) a
theorem AZ : ∀ {l : List (List Int)} {a : Int}, a ≤ j8 a l ∧ j8 a l ≤ a + 100 * l.length
 | [], a => by simp [j8]
 | b :: l, a => by
  have := AZ (l := l) (a := a + eW b.length)
  have := kY b.length
  rw [show j8 a (b :: l) = j8 (a + eW b.length) l from rfl, aH]
  omega
theorem A3 : ∀ {l : List Tsk} {a : Int}, a ≤ nb a l ∧ ∀ t ∈ l, a + (eL t.code.length).tdiv 20 ≤ nb a l
 | [], a => by simp [nb]
 | t :: l, a => by
  obtain ⟨h1, h2⟩ := A3 (l := l) (a := a + eW t.blocks.length + eW t.outs.length + (eL t.code.length).tdiv 20)
  have h3 := kY t.blocks.length
  have h4 := kY t.outs.length
  have h5 := pD t.code.length
  have h6 : (eL t.code.length).tdiv 20 = eL t.code.length / 20 := cN h5.1
  rw [show nb a (t :: l) = nb (a + eW t.blocks.length + eW t.outs.length + (eL t.code.length).tdiv 20) l from rfl, List.forall_mem_cons]
  refine ⟨by omega, by omega, fun u hu => ?_⟩
  have := h2 u hu
  omega
theorem IZ (n : Nat) (hn : n < 1000000) (m : Img) (hT : m.blocks.length < n) (a : Int) (ha : 0 ≤ a ∧ a ≤ 80) : rq n (a, 0, m.1, m.2.1, m.2.2.1, m.2.2.2.1, m.2.2.2.2.1, m.2.2.2.2.2.1, m.2.2.2.2.2.2) = some (j8 a m.blocks, m.1, m.2.1, m.2.2.1, m.2.2.2.1, m.2.2.2.2.1, m.2.2.2.2.2.1, m.2.2.2.2.2.2) := by
 unfold rq
 refine iK (S := fun F => (eo (dZ (C_ q_))) (tB n F))
  (fun f x r => ∃ (i : Nat) (b : Int), x = (b, (i : Int), m.1, m.2.1, m.2.2.1, m.2.2.2.1, m.2.2.2.2.1, m.2.2.2.2.2.1, m.2.2.2.2.2.2) ∧ i ≤ m.blocks.length ∧ m.blocks.length < f + i ∧ (0 ≤ b ∧ b ≤ 80 + 100 * i) ∧ r = (j8 b (m.blocks.drop i), m.1, m.2.1, m.2.2.1, m.2.2.2.1, m.2.2.2.2.1, m.2.2.2.2.2.1, m.2.2.2.2.2.2)) (fun x r ⟨i, b, _, h1, h2, _⟩ => by omega) (fun f x F hF r => ?_) n _ _ ⟨0, a, rfl, aA _, by omega, by omega, rfl⟩
 rintro ⟨i, b, rfl, h1, h2, hb, rfl⟩
 show tB n F b (i : Int) m.1 m.2.1 m.2.2.1 m.2.2.2.1 m.2.2.2.2.1 m.2.2.2.2.2.1 m.2.2.2.2.2.2 = _
 unfold tB
 rcases am i m.blocks.length with hlt | hge
 ·rw [if_pos (show decide ((i : Int) < (m.2.2.2.2.2.1.length : Int)) = true from af (by exact_mod_cast hlt)), if_pos (show (decide (0 ≤ (i : Int)) && decide ((i : Int) < (m.2.2.2.2.2.1.length : Int))) = true from dc hlt), ag, dw (by omega), en (d := ([] : List Int)) hlt]
  have hc := kY (m.blocks.getD i []).length
  show F (wrap .i64 (b + eW (m.blocks.getD i []).length), _) = _
  rw [dS (show -9223372036854775808 ≤ b + eW (m.blocks.getD i []).length by omega) (show b + eW (m.blocks.getD i []).length ≤ 9223372036854775807 by omega)]
  exact hF _ _ ⟨i + 1, _, rfl, by omega, by omega, by omega, rfl⟩
 ·have : i = m.blocks.length := by omega
  subst this
  rw [if_neg (by simp), bj]
  rfl
theorem I8 (n : Nat) (hn : n < 1000000) (m : Img) (hT : m.tasks.length < n) (hB : m.blocks.length < n) (a : Int) (ha : 0 ≤ a ∧ a ≤ 80 + 100 * m.blocks.length) : ou n (a, 0, m.1, m.2.1, m.2.2.1, m.2.2.2.1, m.2.2.2.2.1, m.2.2.2.2.2.1, m.2.2.2.2.2.2) = some (nb a m.tasks, m.1, m.2.1, m.2.2.1, m.2.2.2.1, m.2.2.2.2.1, m.2.2.2.2.2.1, m.2.2.2.2.2.2) := by
 unfold ou
 refine iK (S := fun F => (eo (dZ (C_ q_))) (tC n F))
  (fun f x r => ∃ (i : Nat) (b : Int), x = (b, (i : Int), m.1, m.2.1, m.2.2.1, m.2.2.2.1, m.2.2.2.2.1, m.2.2.2.2.2.1, m.2.2.2.2.2.2) ∧ i ≤ m.tasks.length ∧ m.tasks.length < f + i ∧ (0 ≤ b ∧ b ≤ 80 + 100 * m.blocks.length + 700 * i) ∧ r = (nb b (m.tasks.drop i), m.1, m.2.1, m.2.2.1, m.2.2.2.1, m.2.2.2.2.1, m.2.2.2.2.2.1, m.2.2.2.2.2.2)) (fun x r ⟨i, b, _, h1, h2, _⟩ => by omega) (fun f x F hF r => ?_) n _ _ ⟨0, a, rfl, aA _, by omega, by omega, rfl⟩
 rintro ⟨i, b, rfl, h1, h2, hb, rfl⟩
 show tC n F b (i : Int) m.1 m.2.1 m.2.2.1 m.2.2.2.1 m.2.2.2.2.1 m.2.2.2.2.2.1 m.2.2.2.2.2.2 = _
 unfold tC
 rcases am i m.tasks.length with hlt | hge
 ·rw [if_pos (show decide ((i : Int) < (m.2.2.2.2.2.2.length : Int)) = true from af (by exact_mod_cast hlt)), if_pos (show (decide (0 ≤ (i : Int)) && decide ((i : Int) < (m.2.2.2.2.2.2.length : Int))) = true from dc hlt), ag, dw (by omega), en (d := ((0 : Int), (0 : Int), (0 : Int), (0 : Int), ([] : List Int), ([] : List Int), ([] : List da))) hlt]
  rw [show m.2.2.2.2.2.2.getD i (0, 0, 0, 0, [], [], []) = m.tasks.getD i (0, 0, 0, 0, [], [], []) from rfl]
  generalize m.tasks.getD i (0, 0, 0, 0, [], [], []) = t
  have h3 := kY t.blocks.length
  have h4 := kY t.outs.length
  have h5 := pD t.code.length
  have h6 : (eL t.code.length).tdiv 20 = eL t.code.length / 20 := cN h5.1
  show F (wrap .i64 (wrap .i64 (wrap .i64 (b + eW t.blocks.length) + eW t.outs.length) + wrap .i64 ((eL t.code.length).tdiv 20)), _) = _
  rw [dS (e := (eL t.code.length).tdiv 20) (by omega) (by omega), dS (e := b + eW t.blocks.length) (by omega) (by omega), dS (e := b + eW t.blocks.length + eW t.outs.length) (by omega) (by omega), dS (e := b + eW t.blocks.length + eW t.outs.length + (eL t.code.length).tdiv 20) (by omega) (by omega)]
  exact hF _ _ ⟨i + 1, _, rfl, by omega, by omega, by omega, rfl⟩
 ·have : i = m.tasks.length := by omega
  subst this
  rw [if_neg (by simp), bj]
  rfl
theorem Le (n : Nat) (hn0 : 200 < n) (hn : n < 1000000) (m : Img) (hs : m.safe.length < 9000000000000000 ∧ m.blocks.length < 9000000000000000 ∧ m.tasks.length < 9000000000000000) : nE n m = some 0 ∨ (nE n m = some 1 ∧ DS m) := by
 unfold nE
 have e : wrap .i64 (wrap .i64 ((m.safe.length : Int) + (m.blocks.length : Int)) + (m.tasks.length : Int)) = (m.safe.length : Int) + (m.blocks.length : Int) + (m.tasks.length : Int) := by
  rw [dS (e := (m.safe.length : Int) + (m.blocks.length : Int)) (by omega) (by omega), dS (by omega) (by omega)]
 rw [show wrap .i64 (wrap .i64 ((m.2.2.2.2.1.length : Int) + (m.2.2.2.2.2.1.length : Int)) + (m.2.2.2.2.2.2.length : Int)) = (m.safe.length : Int) + (m.blocks.length : Int) + (m.tasks.length : Int) from e]
 by_cases h : (m.safe.length : Int) + (m.blocks.length : Int) + (m.tasks.length : Int) > 80
 ·rw [if_pos (af h)]
  exact .inl rfl
 rw [if_neg (by simpa using h), IZ n hn m (by omega) _ (by omega), ae]
 obtain ⟨hB1, hB2⟩ := AZ (l := m.blocks) (a := (m.safe.length : Int) + (m.blocks.length : Int) + (m.tasks.length : Int))
 rw [show ou n _ = _ from I8 n hn m (by omega) (by omega) (j8 ((m.safe.length : Int) + (m.blocks.length : Int) + (m.tasks.length : Int)) m.blocks) (by omega), ae]
 dsimp only
 obtain ⟨hT1, hT2⟩ := A3 (l := m.tasks) (a := j8 ((m.safe.length : Int) + (m.blocks.length : Int) + (m.tasks.length : Int)) m.blocks)
 split
 ·exact .inl rfl
 ·rename_i h2
  have h2 : nb (j8 ((m.safe.length : Int) + (m.blocks.length : Int) + (m.tasks.length : Int)) m.blocks) m.tasks ≤ 200 := by simpa using h2
  refine .inr ⟨rfl, by omega, fun t ht => ?_⟩
  have h3 := hT2 t ht
  have h5 := pD t.code.length
  have h6 : (eL t.code.length).tdiv 20 = eL t.code.length / 20 := cN h5.1
  have h7 : eL t.code.length ≤ 4019 := by omega
  unfold eL at h7
  split at h7 <;> omega
abbrev qy (m : Img) (i : Int) : Tsk := m.tasks.getD i.toNat (0, 0, 0, 0, [], [], [])
theorem GD {n : Nat} {m : Img} {i : Int} (h : nK n m i = 0) : RightP m ∧ (0 ≤ i ∧ i < (m.tasks.length : Int)) ∧ (fB bM n (qy m i).code).2 = 0 ∧ fV (qy m i).code = (qy m i).blocks ∧ (qy m i).code.all (lG m (qy m i)) = true := by
 unfold nK at h
 split at h
 ·rename_i hR
  split at h
  ·cases h
  ·dsimp only at h
   split at h
   ·rename_i h1
    exact absurd h h1
   ·rename_i h1
    split at h
    ·rename_i h2
     split at h
     ·rename_i h3
      exact ⟨hR, by omega, Decidable.not_not.1 h1, h2, h3⟩
     ·cases h
    ·cases h
 ·cases h
theorem zI {i : Int} {k : Nat} (h0 : 0 ≤ i) (h1 : i < (k : Int)) : (decide (0 ≤ i) && decide (i < (k : Int))) = true := by rw [af h0, af h1]; rfl
abbrev Qp : Sh := .pair (.int .i64) (.pair (.int .i64) (.pair (.int .i64) (.pair (.int .i64) (.pair (.sl (.int .i64)) (.pair (.sl (.int .i64)) (.sl (.pair (.int .i64) (.pair (.int .i64) (.int .i64)))))))))
abbrev OQ : Sh := .pair (.int .i64) (.pair (.int .i64) (.pair (.int .i64) (.pair (.int .i64) (.pair (.sl (.int .i64)) (.pair (.sl (.sl (.int .i64))) (.sl Qp))))))
theorem I9 (n : Nat) (hn0 : 200 < n) (hn : n < 1000000) {m : Img} (h : Sh.Sm OQ m) : nE n m = some 0 ∨ (nE n m = some 1 ∧ DS m) :=
 Le n hn0 hn m (by
  have h1 : m.safe.length ≤ 140737488351232 := h.2.2.2.2.1
  have h2 : m.blocks.length ≤ 140737488351232 := h.2.2.2.2.2.1
  have h3 : m.tasks.length ≤ 140737488351232 := h.2.2.2.2.2.2
  omega)
abbrev gV : Type := (List da) × (List Int) × (List Int) × Bool × Int × (List Int) × (List Int) × (List Int) × (List Int) × Int × (List Int) × Int × Int × Int × Unit
abbrev dM : gV := ([], [], [], false, 0, [], [], [], [], 0, [], 0, 0, 0, ())
def i9 (l : List da) (m : List Int) (on : Bool) (s : MS) : gV := (l, m, s.ret, on, s.at_, s.stk, s.loc, s.inp, s.out, s.set, s.rds, s.held, s.flt, s.stp, ())
theorem nc {α β : Type} {xs : List α} {k : Nat} (d : α) (hk : k < xs.length) (f : α → Option β) : jm xs (k + 1) f = f (xs.getD k d) := by
 show (match xs[k]? with | some x => f x | none => none) = _
 rw [ax hk, ao, ax hk]
 rfl
theorem zJ {α : Type} {xs : List α} {k : Nat} {d x : α} (hk : k < xs.length) (h : xs.getD k d = x) : xs.set k x = xs := by
 subst h
 rw [ao, ax hk]
 exact List.set_getElem_self hk
theorem kA {α : Type} {xs : List α} {k : Nat} {d x : α} (hk : k < xs.length) : (xs.set k x).getD k d = x := by
 rw [ao, List.getElem?_set_self hk]
 rfl
theorem ml {α : Type} {xs : List α} {k j : Nat} {d x : α} (hk : k ≠ j) : (xs.set k x).getD j d = xs.getD j d := by
 rw [ao, List.getElem?_set_ne hk, ← ao]
theorem Ja {l : List da} {m h : List Int} {st : List ByteArray} (hR : Row l m h st) {c : CS} (hc : qv l m st c) (n : Nat) {fam : List gV} {k : Nat} (hk : k < fam.length) (hf : fam.getD k dM = i9 l m c.on c.s) (i1 i2 i3 i4 : Int) (sf : List Int) (bl : List (List Int)) (ts : List Tsk) (ms : List Nat) (out : List Int) :
  ∃ ev e, gx n (k + 1) fam i1 i2 i3 i4 sf bl ts ms c.mem out = some (ev, e, fam.set k (i9 l m (eH l m c).on (eH l m c).s), i1, i2, i3, i4, sf, bl, ts, ms, (eH l m c).mem, out) := by
 obtain ⟨⟨ev, e, he⟩, _⟩ := BF hR hc n
 refine ⟨(ev.1, ev.2), e, ?_⟩
 unfold yT at he
 unfold gx
 rw [nc dM hk, hf]
 unfold i9 CZ
 dsimp only
 rw [IG, he]
 rfl
theorem Ek (n : Nat) {fam : List gV} {k : Nat} (hk : k < fam.length) {l : List da} {m : List Int} {on : Bool} {s : MS} (hf : fam.getD k dM = i9 l m on s) : fg n (k + 1) fam = some (on, fam) := by
 have h2 := zJ hk hf
 unfold fg
 rw [nc dM hk, hf]
 show some (on, fam.set k (i9 l m on s)) = _
 rw [h2]
theorem DT (n : Nat) (hn : 16 < n) {fam : List gV} {k : Nat} (hk : k < fam.length) {l : List da} {m : List Int} {on : Bool} {s : MS} (hf : fam.getD k dM = i9 l m on s) : eK n (k + 1) fam = some (km s.out s.set, fam) := by
 have h2 := zJ hk hf
 unfold eK
 rw [nc dM hk, hf]
 unfold i9
 dsimp only
 rw [Mi n hn, ae]
 show some (km s.out s.set, fam.set k (i9 l m on s)) = _
 rw [h2]
theorem Mt (n : Nat) {fam : List gV} {k : Nat} (hk : k < fam.length) {l : List da} {m : List Int} {on : Bool} {s : MS} (hf : fam.getD k dM = i9 l m on s) : eV n (k + 1) fam = some (s.ret, fam) := by
 have h2 := zJ hk hf
 unfold eV
 rw [nc dM hk, hf]
 show some (s.ret, fam.set k (i9 l m on s)) = _
 rw [h2]
theorem Jb (n : Nat) {fam : List gV} {k : Nat} (hk : k < fam.length) {l : List da} {m : List Int} {s : MS} (hl : 0 < l.length) (hf : fam.getD k dM = i9 l m false s) (inp : List Int) : fA n (k + 1) inp fam = some (0, fam.set k (i9 l m true (jx s.ret inp))) := by
 unfold fA
 rw [nc dM hk, hf]
 unfold i9
 dsimp only
 rw [Lc n hl, ae]
 rfl
theorem DU {l : List da} {m : List Int} {c : CS} {i : Nat} (h : c.on = true) (hp : c.s.at_ = (i : Int)) : eH l m c = ⟨decide (opAt l i ≠ 25), e9 (l.getD i (0, 0, 0)) (m.getD i 0) c.s c.mem, pC (l.getD i (0, 0, 0)) c.s c.mem⟩ := by
 unfold eH
 rw [if_pos h, show c.s.at_.toNat = i by rw [hp]; exact ag i]
theorem GE (l : List da) (m : List Int) (k : Nat) (c : CS) : fI l m (k + 1) c = eH l m (fI l m k c) := AR k 1 c
theorem A4 {l : List da} {m h : List Int} {st : List ByteArray} (hR : Row l m h st) {n : Nat} (hf : l.length < n) (ret inp : List Int) (mem : dO) : ∀ k, (fI l m k ⟨true, jx ret inp, mem⟩).on = true → ∃ i rs, Ok l m st (fI l m k ⟨true, jx ret inp, mem⟩).s i rs ∧ InvP bM sB IM l m n 0 (l.length - 1) i rs (k : Int)
 | 0, _ => ⟨0, [], DJ hR ret inp, InvP.start zE hR.fine.all⟩
 | k + 1, hon => by
  rw [GE] at hon ⊢
  generalize hc : fI l m k ⟨true, jx ret inp, mem⟩ = c at hon ⊢
  cases h1 : c.on with
  | false =>
   unfold eH at hon
   rw [if_neg (by rw [h1]; decide), h1] at hon
   cases hon
  | true =>
   obtain ⟨i, rs, hO, hI⟩ := A4 hR hf ret inp mem k (by rw [hc]; exact h1)
   rw [hc] at hO
   have hF := hR.fine
   have hl := hF.len
   rw [DU h1 hO.place] at hon ⊢
   have h25 : opAt l i ≠ 25 := aY hon
   obtain ⟨q, rs', hq, hp, hg, he⟩ := (Ft hR hO c.mem h25).ex
   have hz : i ≠ l.length - 1 := fun e => h25 ((yV hF hO.lt).2 (by omega))
   exact ⟨q, rs', hq, hg bM sB IM n 0 (l.length - 1) _ zE hf hF.all hI hz⟩
theorem Lf {K : Nat} (hK : 5000 ≤ K) {l : List da} {m h : List Int} {st : List ByteArray} (hR : Row l m h st) {n : Nat} (hf : l.length < n) (hw : ew bM l m n 0 (l.length - 1) < 5000) (ret inp : List Int) (mem : dO) : (fI l m K ⟨true, jx ret inp, mem⟩).on = false := by
 cases hon : (fI l m K ⟨true, jx ret inp, mem⟩).on with
 | false => rfl
 | true =>
  exfalso
  obtain ⟨i, rs, hO, hI⟩ := A4 hR hf ret inp mem K hon
  obtain ⟨M, hM⟩ : ∃ M : Nat, nr l m i rs ≤ (M : Int) := ⟨(nr l m i rs).toNat, by omega⟩
  have := Fv hR hf (by omega) M hM hO hI
  omega
theorem uW {l : List da} {m h : List Int} {st : List ByteArray} (hR : Row l m h st) {P : CS → Prop} (hs : ∀ c i rs, c.on = true → Ok l m st c.s i rs → P c → P ⟨decide (opAt l i ≠ 25), e9 (l.getD i (0, 0, 0)) (m.getD i 0) c.s c.mem, pC (l.getD i (0, 0, 0)) c.s c.mem⟩) : ∀ k {c : CS}, qv l m st c → P c → P (fI l m k c)
 | 0, c, hc, h0 => h0
 | k + 1, c, hc, h0 => by
  refine uW hR hs k (BF hR hc 0).2 ?_
  cases hon : c.on with
  | false =>
   unfold eH
   rw [if_neg (by rw [hon]; decide)]
   exact h0
  | true =>
   obtain ⟨i, rs, hO⟩ := hc hon
   rw [DU hon hO.place]
   exact hs c i rs hon hO h0
theorem Jc (n : Nat) {l : List da} {m h : List Int} {st : List ByteArray} (hR : Row l m h st) (fam0 : List gV) {k : Nat} (hk : k < fam0.length) (i1 i2 i3 i4 : Int) (sf : List Int) (bl : List (List Int)) (ts : List Tsk) (ms : List Nat) (out : List Int) : ∀ (j f : Nat) (c : CS), j < f → qv l m st c → c.on = true → (fI l m (j + 1) c).on = false →
  it (fun F => (fL (dZ q_)) (uu n F)) f (fam0.set k (i9 l m c.on c.s), k + 1, i1, i2, i3, i4, sf, bl, ts, ms, c.mem, out) = some (fam0.set k (i9 l m false (fI l m (j + 1) c).s), k + 1, i1, i2, i3, i4, sf, bl, ts, ms, (fI l m (j + 1) c).mem, out)
 | j, 0, c, hj, _, _, _ => by omega
 | j, f + 1, c, hj, hc, hon, hoff => by
  show uu n (it _ f) (fam0.set k (i9 l m c.on c.s)) (k + 1) i1 i2 i3 i4 sf bl ts ms c.mem out = _
  unfold uu
  have hl : k < (fam0.set k (i9 l m c.on c.s)).length := by rw [aO]; exact hk
  obtain ⟨ev, e, he⟩ := Ja hR hc n hl (kA hk) i1 i2 i3 i4 sf bl ts ms out
  rw [he, ae]
  dsimp only
  rw [List.set_set]
  have hl2 : k < (fam0.set k (i9 l m (eH l m c).on (eH l m c).s)).length := by rw [aO]; exact hk
  rw [Ek n hl2 (kA hk), ae]
  dsimp only
  by_cases h1 : (eH l m c).on = true
  ·rw [if_pos h1]
   cases j with
   | zero =>
    have e2 : fI l m (0 + 1) c = eH l m c := rfl
    rw [e2, h1] at hoff
    cases hoff
   | succ j =>
    have h2 : fI l m (j + 1 + 1) c = fI l m (j + 1) (eH l m c) := rfl
    rw [h2] at hoff ⊢
    exact Jc n hR fam0 hk i1 i2 i3 i4 sf bl ts ms out j f (eH l m c) (by omega) (BF hR hc 0).2 h1 hoff
  ·have h3 : (eH l m c).on = false := by cases h : (eH l m c).on with | false => rfl | true => exact absurd h h1
   have e2 : fI l m (j + 1) c = eH l m c := AQ h3 j
   rw [if_neg h1, e2, h3]
abbrev tz : Tsk := (0, 0, 0, 0, [], [], [])
structure TaskG (m : Img) (t : Tsk) : Prop where
 row : Row t.code (scanI t.code).1 (scanI t.code).2.1 (nT t.code)
 lock : ed t.code = 0
 stk : eP t.code = 0
 own : fV t.code = t.blocks
 name : ∀ i, i < t.code.length → lG m t (t.code.getD i (0, 0, 0)) = true
 ok : lH m t
 fin : ew bM t.code (scanI t.code).1 30000 0 (t.code.length - 1) < 5000
structure GoodM (m : Img) : Prop where
 right : RightP m
 task : ∀ k, k < m.tasks.length → TaskG m (m.tasks.getD k tz)
theorem GF {m : Img} (h : Sh.Sm OQ m) : ∃ b, yq 30000 m = some b ∧ (b = true → DS m ∧ ∀ k, k < m.tasks.length → (fB bM 30000 (m.tasks.getD k tz).code).2 = 0 → (fB bM 30000 (m.tasks.getD k tz).code).1 ≤ 5000) := by
 have hn1 : 200 < 30000 := by decide
 have hn2 : 30000 < 1000000 := by decide
 unfold yq
 rcases I9 30000 hn1 hn2 h with hl | ⟨hl, hL⟩
 ·rw [show nE 30000 (m.1, m.2.1, m.2.2.1, m.2.2.2.1, m.2.2.2.2.1, m.2.2.2.2.2.1, m.2.2.2.2.2.2) = some 0 from hl, ae, if_pos (by decide)]
  exact ⟨false, rfl, fun h => by cases h⟩
 rw [show nE 30000 (m.1, m.2.1, m.2.2.1, m.2.2.2.1, m.2.2.2.2.1, m.2.2.2.2.2.1, m.2.2.2.2.2.2) = some 1 from hl, ae, if_neg (by decide)]
 obtain ⟨i1, i2, i3, i4, sf, bl, ts⟩ := m
 dsimp only
 have hts : ts.length ≤ 80 := by have := hL.1; dsimp only [Img.safe, Img.blocks, Img.tasks] at this; omega
 have key : ∃ r, t8 30000 (0, i1, i2, i3, i4, sf, bl, ts) = some r ∧ ((∃ X, r = .inl ((false, ()), X)) ∨ ((∃ X, r = .inr X) ∧ ∀ k, k < ts.length → (fB bM 30000 (ts.getD k tz).code).2 = 0 → (fB bM 30000 (ts.getD k tz).code).1 ≤ 5000)) := by
  show ∃ r, it _ 30000 _ = some r ∧ _
  refine kl (fun f x => ∃ k : Nat, k ≤ ts.length ∧ ts.length < f + k ∧ (∀ j, j < k → (fB bM 30000 (ts.getD j tz).code).2 = 0 → (fB bM 30000 (ts.getD j tz).code).1 ≤ 5000) ∧ x = ((k : Int), i1, i2, i3, i4, sf, bl, ts)) _ (fun x ⟨k, h1, h2, _⟩ => by omega) ?_ 30000 _ ⟨0, by omega, by omega, fun j hj => by omega, rfl⟩
  rintro f x F hF ⟨k, h1, h2, h3, rfl⟩
  show ∃ r, vu 30000 F (k : Int) i1 i2 i3 i4 sf bl ts = some r ∧ _
  unfold vu
  rcases am k ts.length with hk | hk
  ·have hc : (ts.getD k tz).code.length ≤ 4019 := hL.2 _ (by rw [ao, ax hk]; exact bi _)
   rw [if_pos (af (by omega)), if_pos (dc hk), ag]
   rw [show gq 30000 (ts.getD k (0, 0, 0, 0, [], [], [])).2.2.2.2.2.2 = _ from DA 30000 (ts.getD k tz).code (by omega) (by omega) hn2, ae, dw (by omega)]
   by_cases h0 : (fB bM 30000 (ts.getD k tz).code).2 = 0
   ·rw [if_pos (ai.2 h0)]
    by_cases hb : (fB bM 30000 (ts.getD k tz).code).1 > 5000
    ·rw [if_pos (af hb)]
     exact ⟨_, rfl, .inl ⟨_, rfl⟩⟩
    ·rw [if_neg (fun h => hb (aY h))]
     refine hF _ ⟨k + 1, by omega, by omega, fun j hj h0 => ?_, rfl⟩
     by_cases e : j = k
     ·subst e; omega
     ·exact h3 j (by omega) h0
   ·rw [if_neg (fun h => h0 (ai.1 h))]
    refine hF _ ⟨k + 1, by omega, by omega, fun j hj hz => ?_, rfl⟩
    by_cases e : j = k
    ·subst e; exact absurd hz h0
    ·exact h3 j (by omega) hz
  ·rw [if_neg (by simp; omega)]
   exact ⟨_, rfl, .inr ⟨⟨_, rfl⟩, fun j hj => h3 j (by omega)⟩⟩
 obtain ⟨r, e1, e2⟩ := key
 rw [e1, ae]
 rcases e2 with ⟨X, rfl⟩ | ⟨⟨X, rfl⟩, e2⟩
 ·exact ⟨false, rfl, fun h => by cases h⟩
 ·exact ⟨true, rfl, fun _ => ⟨hL, e2⟩⟩
theorem Lg (m : Img) : ∃ x e, mC 30000 m = some (x, e) ∧ (e = 0 → RightP m ∧ ∀ k : Nat, k < m.tasks.length → nK 30000 m (k : Int) = 0) := by
 have hn1 : 200 < 30000 := by decide
 have hn2 : 30000 < 1000000 := by decide
 unfold mC
 obtain ⟨b, hb1, hb2⟩ := uU 30000 hn1 hn2 m
 rw [show rA 30000 (m.1, m.2.1, m.2.2.1, m.2.2.2.1, m.2.2.2.2.1, m.2.2.2.2.2.1, m.2.2.2.2.2.2) = some b from hb1, ae]
 cases b with
 | false => exact ⟨-1, 12, rfl, fun h => by cases h⟩
 | true =>
  have hR := hb2.1 rfl
  rw [if_neg (by decide)]
  have ht8 : m.tasks.length ≤ 8 := hR.1.2.2.2.2.2.2.2
  obtain ⟨i1, i2, i3, i4, sf, bl, ts⟩ := m
  dsimp only [Img.tasks] at ht8 ⊢
  have key : ∃ r, l8 30000 ((ts.length : Int), 0, i1, i2, i3, i4, sf, bl, ts) = some r ∧ ((∃ a e X, r = .inl ((a, e, ()), X) ∧ e ≠ 0) ∨ ((∃ X, r = .inr X) ∧ ∀ k : Nat, k < ts.length → nK 30000 (i1, i2, i3, i4, sf, bl, ts) (k : Int) = 0)) := by
   show ∃ r, it _ 30000 _ = some r ∧ _
   refine kl (fun f x => ∃ k : Nat, k ≤ ts.length ∧ ts.length < f + k ∧ (∀ j : Nat, j < k → nK 30000 (i1, i2, i3, i4, sf, bl, ts) (j : Int) = 0) ∧ x = ((ts.length : Int), (k : Int), i1, i2, i3, i4, sf, bl, ts)) _ (fun x ⟨k, h1, h2, _⟩ => by omega) ?_ 30000 _ ⟨0, by omega, by omega, fun j hj => by omega, rfl⟩
   rintro f x F hF ⟨k, h1, h2, h3, rfl⟩
   show ∃ r, lw 30000 F (ts.length : Int) (k : Int) i1 i2 i3 i4 sf bl ts = some r ∧ _
   unfold lw
   rcases am k ts.length with hk | hk
   ·rw [if_pos (af (by omega)), Ms 30000 hn1 hn2 (i1, i2, i3, i4, sf, bl, ts) (k : Int), ae]
    by_cases h0 : nK 30000 (i1, i2, i3, i4, sf, bl, ts) (k : Int) = 0
    ·rw [if_neg (by rw [h0]; decide), dw (by omega)]
     refine hF _ ⟨k + 1, by omega, by omega, fun j hj => ?_, rfl⟩
     by_cases e : j = k
     ·subst e; exact h0
     ·exact h3 j (by omega)
    ·rw [if_pos (aw.2 h0)]
     exact ⟨_, rfl, .inl ⟨_, _, _, rfl, h0⟩⟩
   ·rw [if_neg (by simp; omega)]
    exact ⟨_, rfl, .inr ⟨⟨_, rfl⟩, fun j hj => h3 j (by omega)⟩⟩
  obtain ⟨r, e1, e2⟩ := key
  rw [e1, ae]
  rcases e2 with ⟨a, e, X, rfl, he⟩ | ⟨⟨X, rfl⟩, e2⟩
  ·exact ⟨a, e, rfl, fun h => absurd h he⟩
  ·exact ⟨-1, 0, rfl, fun _ => ⟨hR, e2⟩⟩
theorem Mu {m : Img} (hR : RightP m) (hT : ∀ k : Nat, k < m.tasks.length → nK 30000 m (k : Int) = 0) (hL : ∀ k, k < m.tasks.length → (fB bM 30000 (m.tasks.getD k tz).code).2 = 0 → (fB bM 30000 (m.tasks.getD k tz).code).1 ≤ 5000) : GoodM m := by
 refine ⟨hR, fun k hk => ?_⟩
 obtain ⟨_, h0, h2, h3, h4⟩ := GD (hT k hk)
 have e : qy m (k : Int) = m.tasks.getD k tz := by show m.tasks.getD (k : Int).toNat tz = _; rw [ag]
 rw [e] at h2 h3 h4
 obtain ⟨z1, z2⟩ := xC h2
 obtain ⟨q1, q2, q3, q4, q5⟩ := K4 30000 (m.tasks.getD k tz).code h2
 have hl := hL k hk h2
 have hok := (hR.task (i := (k : Int)) (by omega) (by omega)).1
 rw [ag] at hok
 refine ⟨OM z1 z2, z1, z2, h3, fun i hi => ?_, hok, by omega⟩
 exact aM.1 h4 ((m.tasks.getD k tz).code.getD i (0, 0, 0)) (by rw [vx hi]; exact bi _)
def DW (tq : List Int) (set : Int) : Prop := ∃ x : Nat, set = (x : Int) ∧ x < 65536 ∧ ∀ k, x.testBit k = true → (k : Int) ∈ tq
theorem Lh {tq out : List Int} {set : Int} (h : DW tq set) : ∀ e ∈ km out set, e.1 ∈ tq := by
 obtain ⟨x, h1, h2, h3⟩ := h
 subst h1
 have key : ∀ r k, r + k ≤ 16 → ∀ e ∈ nJ out (x : Int) r k, e.1 ∈ tq := by
  intro r
  induction r with
  | zero => intro k _ e he; cases he
  | succ r ih =>
   intro k hk e he
   unfold nJ at he
   rcases az.1 he with h | h
   ·rw [Mj h2 (by omega)] at h
    split at h
    ·rename_i hb
     have := aq.1 h
     rw [this]
     exact h3 k hb
    ·cases h
   ·exact ih (k + 1) (by omega) e h
 exact key 16 0 (by omega)
theorem Li {tq : List Int} {s : MS} {x : da} {mt : Int} {mem : dO} (hr : di x = true) (ho : DW tq s.set) (hx : x.1 = 16 → x.2.1 ∈ tq) : DW tq (e9 x mt s mem).set := by
 obtain ⟨w, h1, h2, h3⟩ := ho
 show DW tq (if x.1 = 16 then bits .or .i64 s.set (mg x.2.1) else s.set)
 split
 ·rename_i h16
  have ha := vE (o := x.1) (A := x.2.1) (B := x.2.2) (.inr h16) hr
  obtain ⟨b1, b2⟩ := Fu (A := x.2.1) (a := x.2.1.toNat) (by omega) (by omega)
  refine ⟨w ||| 2 ^ x.2.1.toNat, by rw [h1, b1, DL w _ h2 b2], Nat.or_lt_two_pow (n := 16) h2 b2, fun k hk => ?_⟩
  rw [Nat.testBit_or, aE] at hk
  rcases hk with hk | hk
  ·exact h3 k hk
  ·rw [Nat.testBit_two_pow, av] at hk
   have : (k : Int) = x.2.1 := by omega
   rw [this]
   exact hx h16
 ·exact ⟨w, h1, h2, h3⟩
structure WM where
 ret : List (List Int)
 mem : dO
 out : List Int
abbrev dV (ts : List Tsk) (k : Nat) : List da := (ts.getD k tz).code
structure Rep (fam : List gV) (p : Nat) (ts : List Tsk) (ret : List (List Int)) : Prop where
 le : p + ts.length ≤ fam.length
 len : ret.length = ts.length
 mb : ∀ k, k < ts.length → ∃ s : MS, fam.getD (p + k) dM = i9 (dV ts k) (scanI (dV ts k)).1 false s ∧ s.ret = ret.getD k []
abbrev f0 (p T : Nat) : List Nat := List.range' (p + 1) T
theorem A5 {p T k : Nat} (hk : k < T) : (f0 p T).getD k 0 = p + k + 1 := by
 rw [ao, List.getElem?_range' hk]
 show p + 1 + 1 * k = _
 omega
theorem Rep.put {fam : List gV} {p : Nat} {ts : List Tsk} {ret : List (List Int)} (h : Rep fam p ts ret) {k : Nat} (hk : k < ts.length) (s : MS) : Rep (fam.set (p + k) (i9 (dV ts k) (scanI (dV ts k)).1 false s)) p ts (ret.set k s.ret) := by
 have hle := h.le
 refine ⟨by rw [aO]; exact hle, by rw [aO]; exact h.len, fun j hj => ?_⟩
 by_cases e : k = j
 ·subst e
  exact ⟨s, kA (by omega), (kA (by rw [h.len]; exact hk)).symm⟩
 ·obtain ⟨s', h1, h2⟩ := h.mb j hj
  exact ⟨s', by rw [ml (by omega)]; exact h1, by rw [ml e]; exact h2⟩
theorem Rep.far {fam fam' : List gV} {p : Nat} {ts : List Tsk} {ret : List (List Int)} (h : Rep fam p ts ret) (hl : fam.length ≤ fam'.length) (hj : ∀ j, p ≤ j → j < p + ts.length → fam'.getD j dM = fam.getD j dM) : Rep fam' p ts ret := by
 have hle := h.le
 refine ⟨by omega, h.len, fun k hk => ?_⟩
 rw [hj _ (by omega) (by omega)]
 exact h.mb k hk
def iu (K : Nat) (l : List da) (ret inp : List Int) (mem : dO) : CS := fI l (scanI l).1 K ⟨true, jx ret inp, mem⟩
def uX (out : List Int) (os : List (Int × Int)) : List Int := os.foldl (fun o e => o.set e.1.toNat e.2) out
theorem DX : ∀ (os : List (Int × Int)) (out : List Int), (uX out os).length = out.length
 | [], out => rfl
 | e :: os, out => by
  show (uX (out.set e.1.toNat e.2) os).length = _
  rw [DX os, aO]
def uY (K : Nat) (ts : List Tsk) (i : Int) (inp : List Int) (W : WM) : List (Int × Int) × Int × WM :=
 if 0 ≤ i ∧ i < (ts.length : Int) then
  (km (iu K (dV ts i.toNat) (W.ret.getD i.toNat []) inp W.mem).s.out (iu K (dV ts i.toNat) (W.ret.getD i.toNat []) inp W.mem).s.set, 0,
   ⟨W.ret.set i.toNat (iu K (dV ts i.toNat) (W.ret.getD i.toNat []) inp W.mem).s.ret, (iu K (dV ts i.toNat) (W.ret.getD i.toNat []) inp W.mem).mem, uX W.out (km (iu K (dV ts i.toNat) (W.ret.getD i.toNat []) inp W.mem).s.out (iu K (dV ts i.toNat) (W.ret.getD i.toNat []) inp W.mem).s.set)⟩)
 else ([], 14, W)
theorem uZ {l : List da} {m h : List Int} {st : List ByteArray} (hR : Row l m h st) (ret inp : List Int) (mem : dO) : qv l m st ⟨true, jx ret inp, mem⟩ := fun _ => ⟨0, [], DJ hR ret inp⟩
theorem Mv {K : Nat} (hK : 5000 ≤ K) {m : Img} {t : Tsk} (h : TaskG m t) (ret inp : List Int) (mem : dO) : (iu K t.code ret inp mem).on = false := by
 have := h.row.fine.len
 have := h.fin
 unfold iu
 exact Lf hK h.row (n := 30000) (by omega) (by omega) ret inp mem
theorem Lj (K : Nat) {m : Img} {t : Tsk} (h : TaskG m t) (ret inp : List Int) (mem : dO) : ∀ e ∈ km (iu K t.code ret inp mem).s.out (iu K t.code ret inp mem).s.set, e.1 ∈ t.outs := by
 refine Lh ?_
 unfold iu
 refine uW h.row (P := fun c => DW t.outs c.s.set) (fun c i rs hon hO hP => ?_) K (uZ h.row ret inp mem) ⟨0, rfl, by decide, fun k hk => by rw [Nat.zero_testBit] at hk; cases hk⟩
 refine Li (h.row.fine.right hO.lt) hP (fun h16 => ?_)
 have := h.name i hO.lt
 unfold lG at this
 rw [if_neg (show ¬ (t.code.getD i (0, 0, 0)).1 = 15 by rw [h16]; decide), if_pos h16] at this
 exact List.contains_iff_mem.1 this
theorem OR (n : Nat) (N : Nat) (fam : List gV) (q : Nat) (i1 i2 i3 i4 : Int) (sf : List Int) (bl : List (List Int)) (ts : List Tsk) (ms : List Nat) (mem : dO) {os : List (Int × Int)} (h16 : os.length ≤ 16) (hn : 16 < n) (hos : ∀ e ∈ os, 0 ≤ e.1 ∧ e.1 < (N : Int)) {out : List Int} (ho : out.length = N) :
  rD n (os, (os.length : Int), 0, fam, q, i1, i2, i3, i4, sf, bl, ts, ms, mem, out) = some (fam, q, i1, i2, i3, i4, sf, bl, ts, ms, mem, uX out os) := by
 have key : ∃ r, rD n (os, (os.length : Int), 0, fam, q, i1, i2, i3, i4, sf, bl, ts, ms, mem, out) = some r ∧ r = (fam, q, i1, i2, i3, i4, sf, bl, ts, ms, mem, uX out os) := by
  show ∃ r, it _ n _ = some r ∧ _
  refine kl (fun f x => ∃ (k : Nat) (o : List Int), k ≤ os.length ∧ os.length < f + k ∧ o.length = N ∧ uX o (os.drop k) = uX out os ∧ x = (os, (os.length : Int), (k : Int), fam, q, i1, i2, i3, i4, sf, bl, ts, ms, mem, o)) _ (fun x ⟨k, o, h1, h2, _⟩ => by omega) ?_ n _ ⟨0, out, by omega, by omega, ho, rfl, rfl⟩
  rintro f x F hF ⟨k, o, h1, h2, h3, h4, rfl⟩
  show ∃ r, yB n F os (os.length : Int) (k : Int) fam q i1 i2 i3 i4 sf bl ts ms mem o = some r ∧ _
  unfold yB
  rcases am k os.length with hk | hk
  ·have hm : os.getD k (0, 0) ∈ os := by rw [ao, ax hk]; exact bi _
   have hb := hos _ hm
   rw [en (d := ((0 : Int), (0 : Int))) hk] at h4
   rw [if_pos (af (by omega)), if_pos (dc hk), ag, if_pos (zI hb.1 (by rw [h3]; exact hb.2)), dw (by omega)]
   exact hF _ ⟨k + 1, _, by omega, by omega, by rw [aO]; exact h3, h4, rfl⟩
  ·rw [if_neg (by simp; omega)]
   rw [List.drop_eq_nil_of_le hk] at h4
   exact ⟨_, rfl, by rw [← h4]; rfl⟩
 obtain ⟨r, e1, e2⟩ := key
 rw [e1, e2]
theorem OS {K : Nat} (hK : 5000 ≤ K ∧ K < 20000) {i1 i2 i3 i4 : Int} {sf : List Int} {bl : List (List Int)} {ts : List Tsk} (hG : GoodM (i1, i2, i3, i4, sf, bl, ts)) {fam : List gV} {p : Nat} {W : WM} (hr : Rep fam p ts W.ret) (ho : W.out.length = sf.length) (i : Int) (inp : List Int) :
  ∃ fam', BD 30000 i inp fam i1 i2 i3 i4 sf bl ts (f0 p ts.length) W.mem W.out = some ((uY K ts i inp W).1, (uY K ts i inp W).2.1, fam', i1, i2, i3, i4, sf, bl, ts, f0 p ts.length, (uY K ts i inp W).2.2.mem, (uY K ts i inp W).2.2.out) ∧ Rep fam' p ts (uY K ts i inp W).2.2.ret ∧ fam'.length = fam.length ∧ (∀ j, j < p ∨ p + ts.length ≤ j → fam'.getD j dM = fam.getD j dM) ∧ (uY K ts i inp W).2.2.out.length = sf.length := by
 have hT : 1 ≤ ts.length ∧ ts.length ≤ 8 := hG.right.1.2.2.2.2.2.2
 unfold BD uY
 rw [show (f0 p ts.length).length = ts.length from List.length_range', if_neg (fun h => by have := ai.1 h; omega)]
 by_cases h0 : 0 ≤ i
 ·by_cases h1 : i < (ts.length : Int)
  ·obtain ⟨k, rfl⟩ : ∃ k : Nat, i = (k : Int) := ⟨i.toNat, by omega⟩
   have hk : k < ts.length := by omega
   have ht := hG.task k hk
   have hle := hr.le
   have hpk : p + k < fam.length := by omega
   obtain ⟨s, hs1, hs2⟩ := hr.mb k hk
   rw [if_pos (af h0), if_neg (by rw [af h1]; decide), if_pos (zI h0 h1), if_pos ⟨h0, h1⟩, ag, A5 hk]
   rw [Jb 30000 hpk ht.row.fine.len.1 hs1, ae]
   dsimp only
   rw [hs2]
   have hoff := Mv hK.1 ht (W.ret.getD k []) inp W.mem
   obtain ⟨K0, hK0⟩ : ∃ K0, K = K0 + 1 := ⟨K - 1, by omega⟩
   unfold iu at hoff
   rw [hK0] at hoff
   have hrun := Jc 30000 ht.row fam hpk i1 i2 i3 i4 sf bl ts (f0 p ts.length) W.out K0 30000 ⟨true, jx (W.ret.getD k []) inp, W.mem⟩ (by omega) (uZ ht.row _ _ _) rfl hoff
   rw [← hK0] at hrun
   rw [show xf 30000 (fam.set (p + k) (i9 (dV ts k) (scanI (dV ts k)).1 true (jx (W.ret.getD k []) inp)), p + k + 1, i1, i2, i3, i4, sf, bl, ts, f0 p ts.length, W.mem, W.out) = some (fam.set (p + k) (i9 (dV ts k) (scanI (dV ts k)).1 false (iu K (dV ts k) (W.ret.getD k []) inp W.mem).s), p + k + 1, i1, i2, i3, i4, sf, bl, ts, f0 p ts.length, (iu K (dV ts k) (W.ret.getD k []) inp W.mem).mem, W.out) from hrun, ae]
   dsimp only
   have houts := Lj K ht (W.ret.getD k []) inp W.mem
   have hpos : ∀ e ∈ km (iu K (dV ts k) (W.ret.getD k []) inp W.mem).s.out (iu K (dV ts k) (W.ret.getD k []) inp W.mem).s.set, 0 ≤ e.1 ∧ e.1 < (sf.length : Int) := fun e he => by
    have := ht.ok.2.2.1.mem _ (houts e he)
    have h2 : e.1 < (sf.length : Int) := this.2
    omega
   generalize iu K (dV ts k) (W.ret.getD k []) inp W.mem = c at *
   have hpk2 : p + k < (fam.set (p + k) (i9 (dV ts k) (scanI (dV ts k)).1 false c.s)).length := by rw [aO]; exact hpk
   rw [DT 30000 (by decide) hpk2 (kA hpk), ae]
   dsimp only
   rw [OR 30000 sf.length _ _ i1 i2 i3 i4 sf bl ts _ c.mem (IU c.s.out c.s.set) (by decide) hpos ho, ae]
   dsimp only
   rw [DT 30000 (by decide) hpk2 (kA hpk), ae]
   exact ⟨_, rfl, hr.put hk c.s, aO, fun j hj => ml (by omega), by show (uX _ _).length = _; rw [DX]; exact ho⟩
  ·rw [if_pos (af h0), if_pos (by rw [bf h1]; rfl), if_neg (fun h => h1 h.2)]
   exact ⟨_, rfl, hr, rfl, fun j _ => rfl, ho⟩
 ·rw [if_neg (fun h => h0 (aY h)), if_neg (fun h => h0 h.1)]
  exact ⟨_, rfl, hr, rfl, fun j _ => rfl, ho⟩
theorem El {fam : List gV} {p : Nat} {ts : List Tsk} {ret : List (List Int)} (hr : Rep fam p ts ret) (n : Nat) (i : Int) (i1 i2 i3 i4 : Int) (sf : List Int) (bl : List (List Int)) (ts' : List Tsk) (mem : dO) (out : List Int) :
  gS n i fam i1 i2 i3 i4 sf bl ts' (f0 p ts.length) mem out = some (if 0 ≤ i ∧ i < (ts.length : Int) then ret.getD i.toNat [] else z8, fam, i1, i2, i3, i4, sf, bl, ts', f0 p ts.length, mem, out) := by
 unfold gS
 rw [show (f0 p ts.length).length = ts.length from List.length_range']
 by_cases h0 : 0 ≤ i
 ·by_cases h1 : i < (ts.length : Int)
  ·obtain ⟨k, rfl⟩ : ∃ k : Nat, i = (k : Int) := ⟨i.toNat, by omega⟩
   have hk : k < ts.length := by omega
   have hle := hr.le
   obtain ⟨s, hs1, hs2⟩ := hr.mb k hk
   rw [if_pos (af h0), if_neg (by rw [af h1]; decide), if_pos (zI h0 h1), ag, A5 hk, Mt n (by omega) hs1, ae, if_pos ⟨h0, h1⟩, hs2]
  ·rw [if_pos (af h0), if_pos (by rw [bf h1]; rfl), if_neg (fun h => h1 h.2)]
 ·rw [if_neg (fun h => h0 (aY h)), if_neg (fun h => h0 h.1)]
theorem OT {a : Nat} (h : a ≤ 8) : (decide (0 = 0) && decide (0 = 0) && decide (a * 8 ≤ 140737488355328) && decide (1 ≤ 8)) = true := by simp; omega
theorem DY (n : Nat) {i1 i2 i3 i4 : Int} {sf : List Int} {bl : List (List Int)} {ts : List Tsk} (hR : RightP (i1, i2, i3, i4, sf, bl, ts)) (i : Int) (fam : List gV) (ms : List Nat) (mem : dO) (out : List Int) :
  iT n i fam i1 i2 i3 i4 sf bl ts ms mem out = some (if 0 ≤ i ∧ i < (bl.length : Int) then (mem.getD i.toNat z8).take (bl.getD i.toNat []).length else [], fam, i1, i2, i3, i4, sf, bl, ts, ms, mem, out) := by
 have hb : bl.length ≤ 8 := hR.1.2.2.2.2.2.1
 unfold iT
 by_cases h0 : i < 0
 ·rw [if_pos (af h0), if_neg (by omega)]
 ·rw [if_neg (by simp; omega)]
  by_cases h1 : i ≥ (bl.length : Int)
  ·rw [if_pos (af h1), if_neg (by omega)]
  ·obtain ⟨k, rfl⟩ : ∃ k : Nat, i = (k : Int) := ⟨i.toNat, by omega⟩
   have hw : (bl.getD k []).length ≤ 8 := (hR.2.1 _ (by rw [ao, ax (show k < bl.length by omega)]; exact bi _)).2
   have hc : (0 ≤ (k : Int) ∧ (k : Int) < (bl.length : Int)) := by omega
   rw [if_pos hc, if_neg (by simp; omega), if_pos (jI (by omega)), if_pos (jI (by omega)), ag, if_pos (by simp only [aj, av]; omega), ag]
   have h8 : ((mem.getD k [0, 0, 0, 0, 0, 0, 0, 0]).take (bl.getD k []).length).length ≤ 8 := by
    rw [cw]
    exact aT (Nat.min_le_left _ _) hw
   rw [show (decide (0 = 0) && decide (0 = 0) && decide (((mem.getD k [0, 0, 0, 0, 0, 0, 0, 0]).take (bl.getD k []).length).length * 8 ≤ 140737488355328) && decide (1 ≤ 8)) = true from OT h8, if_pos rfl]
abbrev OU : MS := ⟨z8, 0, [], z8, z16, z16, 0, [], 0, 0, 0⟩
abbrev oN (t : Tsk) : gV := i9 t.code (scanI t.code).1 false OU
theorem Lk {m : Img} {t : Tsk} (h : TaskG m t) (fam : List gV) : jF 30000 t.code fam = some (fam.length + 1, 0, fam ++ [oN t]) := by
 have hl := h.row.fine.len
 unfold jF
 rw [uD 30000 t.code (by omega) (by omega), ae]
 dsimp only
 rw [if_neg (by simp [h.lock]), Gq 30000 t.code (by omega) (by omega) (by omega), ae]
 dsimp only
 rw [if_neg (by simp [h.stk]), rR 30000 t.code (by omega) (by omega), ae, if_pos (ON hl.2)]
 rfl
theorem Rep.new (fam : List gV) (ts : List Tsk) : Rep (fam ++ ts.map oN) fam.length ts (List.replicate ts.length z8) := by
 refine ⟨by rw [aF, ca]; omega, b8, fun k hk => ⟨OU, ?_, ?_⟩⟩
 ·rw [ao, aW (by omega), Nat.add_sub_cancel_left, bJ, ax hk]
  show oN ts[k] = _
  rw [show ts[k] = ts.getD k tz by rw [ao, ax hk]; rfl]
 ·rw [ao, bF, if_pos hk]
  rfl
theorem Ll {α : Type} {xs ys : List α} {d : α} {j : Nat} (h : j < xs.length) : (xs ++ ys).getD j d = xs.getD j d := by
 rw [ao, aN h, ← ao]
theorem Rep.app {fam : List gV} {p : Nat} {ts : List Tsk} {ret : List (List Int)} (h : Rep fam p ts ret) (ys : List gV) : Rep (fam ++ ys) p ts ret := by
 have := h.le
 exact h.far (by rw [aF]; omega) (fun j h1 h2 => Ll (by omega))
abbrev Lm (bl : List (List Int)) (mem : dO) (k : Nat) : dO := mem.set k ((bl.getD k []).take (min (bl.getD k []).length 8) ++ (mem.getD k z8).drop (min (bl.getD k []).length 8))
def gu (bl : List (List Int)) : Nat → dO
 | 0 => qw
 | k + 1 => Lm bl (gu bl k) k
theorem DZ (bl : List (List Int)) : ∀ k, (gu bl k).length = 8
 | 0 => rfl
 | k + 1 => by
  show (Lm bl (gu bl k) k).length = 8
  rw [aO]
  exact DZ bl k
theorem Fw (bl : List (List Int)) : ∀ k, k ≤ 8 → ∀ b, b < 8 → (gu bl k).getD b z8 = if b < k then (bl.getD b []).take 8 ++ z8.drop (min (bl.getD b []).length 8) else z8
 | 0, _, b, hb => by
  rw [if_neg (by omega)]
  have : b = 0 ∨ b = 1 ∨ b = 2 ∨ b = 3 ∨ b = 4 ∨ b = 5 ∨ b = 6 ∨ b = 7 := by omega
  rcases this with rfl | rfl | rfl | rfl | rfl | rfl | rfl | rfl <;> rfl
 | k + 1, hk, b, hb => by
  have ih := Fw bl k (by omega)
  show (Lm bl (gu bl k) k).getD b z8 = _
  by_cases e : k = b
  ·subst e
   rw [kA (by rw [DZ]; omega), if_pos (by omega), ih k hb, if_neg (by omega), List.take_eq_take_min (i := min (bl.getD k []).length 8), List.take_eq_take_min (i := 8)]
   congr 2
   omega
  ·rw [ml e, ih b hb]
   by_cases h : b < k
   ·rw [if_pos h, if_pos (by omega)]
   ·rw [if_neg h, if_neg (by omega)]
structure Agree (t : Tsk) (mem mem' : dO) : Prop where
 len : mem.length = 8 ∧ mem'.length = 8
 own : ∀ b ∈ t.blocks, mem.getD b.toNat z8 = mem'.getD b.toNat z8
theorem OV {m : Img} {t : Tsk} (h : TaskG m t) (hR : RightP m) {i : Nat} (hi : i < t.code.length) (ho : opAt t.code i = 17 ∨ opAt t.code i = 18) : de t.code i ∈ t.blocks ∧ 0 ≤ de t.code i ∧ de t.code i < 8 := by
 have h1 := yY h.lock hi ho
 rw [h.own] at h1
 have h2 := h.ok.2.1.mem _ h1
 have h3 : m.blocks.length ≤ 8 := hR.1.2.2.2.2.2.1
 exact ⟨h1, by omega, by omega⟩
theorem Ln {x : da} (h : x.1 ≠ 18) (s : MS) (mem : dO) : pC x s mem = mem := by
 unfold pC
 rw [if_neg h]
theorem Lo {x : da} (h : x.1 = 18) (s : MS) (mem : dO) : pC x s mem = mem.set x.2.1.toNat ((mem.getD x.2.1.toNat z8).set x.2.2.toNat (pv s.stk)) := by
 unfold pC
 rw [if_pos h]
theorem Jd {m : Img} {t : Tsk} (h : TaskG m t) (hR : RightP m) (K : Nat) (ret inp : List Int) (mem : dO) {b : Nat} (hb : (∀ i, i < t.code.length → opAt t.code i ≠ 18) ∨ (b : Int) ∉ t.blocks) : (iu K t.code ret inp mem).mem.getD b z8 = mem.getD b z8 := by
 unfold iu
 refine uW h.row (P := fun c => c.mem.getD b z8 = mem.getD b z8) (fun c i rs hon hO hP => ?_) K (uZ h.row ret inp mem) rfl
 show (pC _ _ _).getD b z8 = _
 by_cases h18 : (t.code.getD i (0, 0, 0)).1 = 18
 ·rcases hb with hb | hb
  ·exact absurd h18 (hb i hO.lt)
  ·obtain ⟨o1, o2, o3⟩ := OV h hR hO.lt (.inr h18)
   unfold de at o1 o2 o3
   rw [Lo h18, ml (fun e => hb ?_)]
   ·exact hP
   ·rw [← e, Int.toNat_of_nonneg o2]
    exact o1
 ·rw [Ln h18]
  exact hP
abbrev gz (ts : List Tsk) (k : Nat) : List Int := Tsk.blocks (ts.getD k tz)
theorem Mw : o8 30000 = some true := by kernel_rfl
theorem xG {i1 i2 i3 i4 : Int} {sf : List Int} {bl : List (List Int)} {ts : List Tsk} (hG : GoodM (i1, i2, i3, i4, sf, bl, ts)) (j1 j2 j3 j4 : Int) (jf : List Int) (jb : List (List Int)) (js : List Tsk) (fam : List gV) (mem : dO) (out : List Int) :
  rG 30000 (ts, (ts.length : Int), 0, fam, j1, j2, j3, j4, jf, jb, js, i1, i2, i3, i4, sf, bl, ts, [], mem, out) = some (fam ++ ts.map oN, j1, j2, j3, j4, jf, jb, js, i1, i2, i3, i4, sf, bl, ts, f0 fam.length ts.length, mem, out) := by
 have hT : ts.length ≤ 8 := hG.right.1.2.2.2.2.2.2.2
 have key : ∃ r, rG 30000 (ts, (ts.length : Int), 0, fam, j1, j2, j3, j4, jf, jb, js, i1, i2, i3, i4, sf, bl, ts, [], mem, out) = some r ∧ r = (fam ++ ts.map oN, j1, j2, j3, j4, jf, jb, js, i1, i2, i3, i4, sf, bl, ts, f0 fam.length ts.length, mem, out) := by
  show ∃ r, it _ 30000 _ = some r ∧ _
  refine kl (fun f x => ∃ k : Nat, k ≤ ts.length ∧ ts.length < f + k ∧ x = (ts, (ts.length : Int), (k : Int), fam ++ (ts.take k).map oN, j1, j2, j3, j4, jf, jb, js, i1, i2, i3, i4, sf, bl, ts, f0 fam.length k, mem, out)) _ (fun x ⟨k, h1, h2, _⟩ => by omega) ?_ 30000 _ ⟨0, by omega, by omega, by rw [List.take_zero, List.map_nil, aG]; rfl⟩
  rintro f x F hF ⟨k, h1, h2, rfl⟩
  show ∃ r, yC 30000 F ts (ts.length : Int) (k : Int) (fam ++ (ts.take k).map oN) j1 j2 j3 j4 jf jb js i1 i2 i3 i4 sf bl ts (f0 fam.length k) mem out = some r ∧ _
  unfold yC
  rcases am k ts.length with hk | hk
  ·rw [if_pos (af (by omega)), if_pos (dc hk), ag, show jF 30000 (ts.getD k (0, 0, 0, 0, [], [], [])).2.2.2.2.2.2 (fam ++ (ts.take k).map oN) = _ from Lk (hG.task k hk) _, ae]
   dsimp only
   rw [if_pos (by rw [show (f0 fam.length k).length = k from List.length_range']; simp; omega), dw (by omega)]
   refine hF _ ⟨k + 1, by omega, by omega, ?_⟩
   rw [List.take_add_one, ax hk, cB, ← aI]
   show _ = (_, _, _, _ ++ [oN ts[k]], _)
   rw [show ts[k] = ts.getD k tz by rw [ao, ax hk]; rfl, show f0 fam.length (k + 1) = f0 fam.length k ++ [fam.length + 1 + k] from List.range'_1_concat, show (fam ++ (ts.take k).map oN).length + 1 = fam.length + 1 + k by rw [aF, ca, cw]; omega]
  ·rw [if_neg (by simp; omega)]
   exact ⟨_, rfl, by rw [aR hk, show k = ts.length by omega]⟩
 obtain ⟨r, e1, e2⟩ := key
 rw [e1, e2]
theorem xH (i1 i2 i3 i4 : Int) (sf : List Int) {bl : List (List Int)} (hb : bl.length ≤ 8) (ts : List Tsk) (fam : List gV) (ms : List Nat) (out : List Int) :
  rH 30000 (bl, (bl.length : Int), 0, fam, i1, i2, i3, i4, sf, bl, ts, ms, qw, out) = some (fam, i1, i2, i3, i4, sf, bl, ts, ms, gu bl bl.length, out) := by
 have key : ∃ r, rH 30000 (bl, (bl.length : Int), 0, fam, i1, i2, i3, i4, sf, bl, ts, ms, qw, out) = some r ∧ r = (fam, i1, i2, i3, i4, sf, bl, ts, ms, gu bl bl.length, out) := by
  show ∃ r, it _ 30000 _ = some r ∧ _
  refine kl (fun f x => ∃ k : Nat, k ≤ bl.length ∧ bl.length < f + k ∧ x = (bl, (bl.length : Int), (k : Int), fam, i1, i2, i3, i4, sf, bl, ts, ms, gu bl k, out)) _ (fun x ⟨k, h1, h2, _⟩ => by omega) ?_ 30000 _ ⟨0, by omega, by omega, rfl⟩
  rintro f x F hF ⟨k, h1, h2, rfl⟩
  show ∃ r, yD 30000 F bl (bl.length : Int) (k : Int) fam i1 i2 i3 i4 sf bl ts ms (gu bl k) out = some r ∧ _
  unfold yD
  rcases am k bl.length with hk | hk
  ·rw [if_pos (af (by omega)), if_pos (dc hk), if_pos (jI (by omega)), ag, dw (by omega)]
   exact hF _ ⟨k + 1, by omega, by omega, rfl⟩
  ·rw [if_neg (by simp; omega)]
   exact ⟨_, rfl, by rw [show k = bl.length by omega]⟩
 obtain ⟨r, e1, e2⟩ := key
 rw [e1, e2]
theorem A6 {bl : List (List Int)} (hb : bl.length ≤ 8) (hW : kX bl) {k : Nat} (hk : k < bl.length) : ((gu bl bl.length).getD k z8).take (bl.getD k []).length = bl.getD k [] := by
 have hw := (hW (bl.getD k []) (by rw [ao, ax hk]; exact bi _)).2
 rw [Fw bl _ hb k (by omega), if_pos hk, aR hw, List.take_left' rfl]
theorem PH {i1 i2 i3 i4 : Int} {sf : List Int} {bl : List (List Int)} {ts : List Tsk} (hR : RightP (i1, i2, i3, i4, sf, bl, ts)) (fam : List gV) (a : Int) (inp : List Int) (ms : List Nat) (out : List Int) :
  rI 30000 (0, fam, i1, i2, i3, i4, sf, bl, ts, a, inp, i1, i2, i3, i4, sf, bl, ts, ms, gu bl bl.length, out) = some (.inr ((), ((fam, ()), (i1, i2, i3, i4, sf, bl, ts, ()), (a, inp, ()), (i1, i2, i3, i4, sf, bl, ts, ms, gu bl bl.length, out, ()), ()))) := by
 have hb : bl.length ≤ 8 := hR.1.2.2.2.2.2.1
 have key : ∃ r, rI 30000 (0, fam, i1, i2, i3, i4, sf, bl, ts, a, inp, i1, i2, i3, i4, sf, bl, ts, ms, gu bl bl.length, out) = some r ∧ r = (.inr ((), ((fam, ()), (i1, i2, i3, i4, sf, bl, ts, ()), (a, inp, ()), (i1, i2, i3, i4, sf, bl, ts, ms, gu bl bl.length, out, ()), ()))) := by
  show ∃ r, it _ 30000 _ = some r ∧ _
  refine kl (fun f x => ∃ k : Nat, k ≤ bl.length ∧ bl.length < f + k ∧ x = ((k : Int), fam, i1, i2, i3, i4, sf, bl, ts, a, inp, i1, i2, i3, i4, sf, bl, ts, ms, gu bl bl.length, out)) _ (fun x ⟨w, h1, h2, _⟩ => by omega) ?_ 30000 _ ⟨0, by omega, by omega, rfl⟩
  rintro f x F hF ⟨k, h1, h2, rfl⟩
  show ∃ r, yE 30000 F (k : Int) fam i1 i2 i3 i4 sf bl ts a inp i1 i2 i3 i4 sf bl ts ms (gu bl bl.length) out = some r ∧ _
  unfold yE
  rcases am k bl.length with hk | hk
  ·have hw : (bl.getD k []).length ≤ 8 := (hR.2.1 _ (by rw [ao, ax hk]; exact bi _)).2
   rw [if_pos (af (by omega)), show er 30000 (k : Int) fam i1 i2 i3 i4 sf bl ts ms (gu bl bl.length) out = _ from DY 30000 hR (k : Int) fam ms _ out, ae]
   dsimp only
   rw [if_pos (show 0 ≤ (k : Int) ∧ (k : Int) < (bl.length : Int) by omega), if_pos (dc hk), ag, A6 hb hR.2.1 hk, uV 30000 (by decide) _ _ (by omega), ae, af rfl, if_neg (by decide), dw (by omega)]
   exact hF _ ⟨k + 1, by omega, by omega, rfl⟩
  ·rw [if_neg (by simp; omega)]
   exact ⟨_, rfl, rfl⟩
 obtain ⟨r, e1, e2⟩ := key
 rw [e1, e2]
theorem PI (i1 i2 i3 i4 : Int) (sf : List Int) (bl : List (List Int)) {ts : List Tsk} {k : Nat} (hk : k < ts.length) (hc : (dV ts k).length ≤ 4019) (fam : List gV) (inp : List Int) (ms : List Nat) (mem : dO) (out : List Int) :
  ∃ r, xn 30000 (false, 0, fam, i1, i2, i3, i4, sf, bl, ts, (k : Int), inp, i1, i2, i3, i4, sf, bl, ts, ms, mem, out) = some r ∧ ∃ wr : Bool, (wr = false → ∀ i, i < (dV ts k).length → opAt (dV ts k) i ≠ 18) ∧ r = (wr, fam, i1, i2, i3, i4, sf, bl, ts, (k : Int), inp, i1, i2, i3, i4, sf, bl, ts, ms, mem, out) := by
 show ∃ r, it _ 30000 _ = some r ∧ _
 refine kl (fun f x => ∃ (j : Nat) (wr : Bool), j ≤ (dV ts k).length ∧ (dV ts k).length < f + j ∧ (wr = false → ∀ i, i < j → opAt (dV ts k) i ≠ 18) ∧ x = (wr, (j : Int), fam, i1, i2, i3, i4, sf, bl, ts, (k : Int), inp, i1, i2, i3, i4, sf, bl, ts, ms, mem, out)) _ (fun x ⟨j, wr, h1, h2, _⟩ => by omega) ?_ 30000 _ ⟨0, false, by omega, by omega, fun _ i hi => by omega, rfl⟩
 rintro f x F hF ⟨j, wr, h1, h2, h3, rfl⟩
 show ∃ r, yF 30000 F wr (j : Int) fam i1 i2 i3 i4 sf bl ts (k : Int) inp i1 i2 i3 i4 sf bl ts ms mem out = some r ∧ _
 unfold yF
 rw [if_pos (dc hk), ag]
 rcases am j (dV ts k).length with hj | hj
 ·rw [if_pos (show decide ((j : Int) < (((ts.getD k (0, 0, 0, 0, [], [], [])).2.2.2.2.2.2.length : Nat) : Int)) = true from af (show (j : Int) < ((dV ts k).length : Int) by omega))]
  cases wr with
  | true =>
   rw [if_pos rfl, dw (by omega)]
   exact hF _ ⟨j + 1, true, by omega, by omega, (fun h => by cases h), rfl⟩
  | false =>
   rw [if_neg (by decide), if_pos (dc hk), if_pos (show (decide (0 ≤ (j : Int)) && decide ((j : Int) < (((ts.getD k (0, 0, 0, 0, [], [], [])).2.2.2.2.2.2.length : Nat) : Int))) = true from dc (k := (dV ts k).length) hj), ag, dw (by omega)]
   refine hF _ ⟨j + 1, _, by omega, by omega, fun hw i hi => ?_, rfl⟩
   by_cases e : i = j
   ·subst e
    exact (aQ.1 hw : opAt (dV ts k) i ≠ 18)
   ·exact h3 rfl i (by omega)
 ·rw [if_neg (show ¬ decide ((j : Int) < (((ts.getD k (0, 0, 0, 0, [], [], [])).2.2.2.2.2.2.length : Nat) : Int)) = true from fun h => by have : (j : Int) < ((dV ts k).length : Int) := aY h; omega)]
  exact ⟨_, rfl, wr, fun hw i hi => h3 hw i (by omega), rfl⟩
theorem PJ (i1 i2 i3 i4 : Int) (sf : List Int) (bl : List (List Int)) {ts : List Tsk} {k : Nat} (hk : k < ts.length) (hc : (gz ts k).length ≤ 1000) (wr : Bool) (b : Nat) (fam : List gV) (inp : List Int) (ms : List Nat) (mem : dO) (out : List Int) :
  ∃ r, xo 30000 (wr, (b : Int), false, 0, fam, i1, i2, i3, i4, sf, bl, ts, (k : Int), inp, i1, i2, i3, i4, sf, bl, ts, ms, mem, out) = some r ∧ ∃ own : Bool, (own = false → (b : Int) ∉ gz ts k) ∧ r = (wr, (b : Int), own, fam, i1, i2, i3, i4, sf, bl, ts, (k : Int), inp, i1, i2, i3, i4, sf, bl, ts, ms, mem, out) := by
 show ∃ r, it _ 30000 _ = some r ∧ _
 refine kl (fun f x => ∃ (j : Nat) (own : Bool), j ≤ (gz ts k).length ∧ (gz ts k).length < f + j ∧ (own = false → (b : Int) ∉ (gz ts k).take j) ∧ x = (wr, (b : Int), own, (j : Int), fam, i1, i2, i3, i4, sf, bl, ts, (k : Int), inp, i1, i2, i3, i4, sf, bl, ts, ms, mem, out)) _ (fun x ⟨j, wr, h1, h2, _⟩ => by omega) ?_ 30000 _ ⟨0, false, by omega, by omega, fun _ => by rw [List.take_zero]; exact List.not_mem_nil, rfl⟩
 rintro f x F hF ⟨j, own, h1, h2, h3, rfl⟩
 show ∃ r, yG 30000 F wr (b : Int) own (j : Int) fam i1 i2 i3 i4 sf bl ts (k : Int) inp i1 i2 i3 i4 sf bl ts ms mem out = some r ∧ _
 unfold yG
 rw [if_pos (dc hk), ag]
 rcases am j (gz ts k).length with hj | hj
 ·rw [if_pos (show decide ((j : Int) < (((ts.getD k (0, 0, 0, 0, [], [], [])).2.2.2.2.1.length : Nat) : Int)) = true from af (show (j : Int) < ((gz ts k).length : Int) by omega))]
  cases own with
  | true =>
   rw [if_pos rfl, dw (by omega)]
   exact hF _ ⟨j + 1, true, by omega, by omega, (fun h => by cases h), rfl⟩
  | false =>
   rw [if_neg (by decide), if_pos (dc hk), if_pos (show (decide (0 ≤ (j : Int)) && decide ((j : Int) < (((ts.getD k (0, 0, 0, 0, [], [], [])).2.2.2.2.1.length : Nat) : Int))) = true from dc (k := (gz ts k).length) hj), ag, dw (by omega)]
   refine hF _ ⟨j + 1, _, by omega, by omega, fun hw => ?_, rfl⟩
   rw [List.take_add_one, az, not_or]
   refine ⟨h3 rfl, fun hm => ?_⟩
   rw [ax hj] at hm
   have e2 : (b : Int) = (gz ts k)[j] := aq.1 hm
   have e3 : (gz ts k).getD j 0 = (gz ts k)[j] := by rw [ao, ax hj]; rfl
   exact (aQ.1 hw : (gz ts k).getD j 0 ≠ (b : Int)) (e3.trans e2.symm)
 ·rw [if_neg (show ¬ decide ((j : Int) < (((ts.getD k (0, 0, 0, 0, [], [], [])).2.2.2.2.1.length : Nat) : Int)) = true from fun h => by have : (j : Int) < ((gz ts k).length : Int) := aY h; omega)]
  exact ⟨_, rfl, own, fun hw => by have := h3 hw; rwa [aR hj] at this, rfl⟩
theorem PK {i1 i2 i3 i4 : Int} {sf : List Int} {bl : List (List Int)} {ts : List Tsk} (hR : RightP (i1, i2, i3, i4, sf, bl, ts)) {k : Nat} (hk : k < ts.length) (hc : (gz ts k).length ≤ 1000) (wr : Bool) (fam : List gV) (inp : List Int) (ms : List Nat) (mem : dO) (out : List Int) (hm : ∀ b : Nat, wr = false ∨ (b : Int) ∉ gz ts k → mem.getD b z8 = (gu bl bl.length).getD b z8) :
  rJ 30000 (wr, 0, fam, i1, i2, i3, i4, sf, bl, ts, (k : Int), inp, i1, i2, i3, i4, sf, bl, ts, ms, mem, out) = some (.inr ((), ((fam, ()), (i1, i2, i3, i4, sf, bl, ts, ()), ((k : Int), inp, ()), (i1, i2, i3, i4, sf, bl, ts, ms, mem, out, ()), ()))) := by
 have hb : bl.length ≤ 8 := hR.1.2.2.2.2.2.1
 have key : ∃ r, rJ 30000 (wr, 0, fam, i1, i2, i3, i4, sf, bl, ts, (k : Int), inp, i1, i2, i3, i4, sf, bl, ts, ms, mem, out) = some r ∧ r = (.inr ((), ((fam, ()), (i1, i2, i3, i4, sf, bl, ts, ()), ((k : Int), inp, ()), (i1, i2, i3, i4, sf, bl, ts, ms, mem, out, ()), ()))) := by
  show ∃ r, it _ 30000 _ = some r ∧ _
  refine kl (fun f x => ∃ b : Nat, b ≤ bl.length ∧ bl.length < f + b ∧ x = (wr, (b : Int), fam, i1, i2, i3, i4, sf, bl, ts, (k : Int), inp, i1, i2, i3, i4, sf, bl, ts, ms, mem, out)) _ (fun x ⟨w, h1, h2, _⟩ => by omega) ?_ 30000 _ ⟨0, by omega, by omega, rfl⟩
  rintro f x F hF ⟨b, h1, h2, rfl⟩
  show ∃ r, yH 30000 F wr (b : Int) fam i1 i2 i3 i4 sf bl ts (k : Int) inp i1 i2 i3 i4 sf bl ts ms mem out = some r ∧ _
  unfold yH
  rcases am b bl.length with hbl | hbl
  ·have hw : (bl.getD b []).length ≤ 8 := (hR.2.1 _ (by rw [ao, ax hbl]; exact bi _)).2
   rw [if_pos (af (by omega))]
   obtain ⟨r, e1, own, o1, rfl⟩ := PJ i1 i2 i3 i4 sf bl hk hc wr b fam inp ms mem out
   rw [e1, ae]
   dsimp only
   have hblk := DY 30000 hR (b : Int) fam ms mem out
   rw [if_pos (show 0 ≤ (b : Int) ∧ (b : Int) < (bl.length : Int) by omega), ag] at hblk
   have hgo : F (wr, ((b + 1 : Nat) : Int), fam, i1, i2, i3, i4, sf, bl, ts, (k : Int), inp, i1, i2, i3, i4, sf, bl, ts, ms, mem, out) = some (.inr ((), ((fam, ()), (i1, i2, i3, i4, sf, bl, ts, ()), ((k : Int), inp, ()), (i1, i2, i3, i4, sf, bl, ts, ms, mem, out, ()), ()))) := by
    obtain ⟨r, g1, g2⟩ := hF _ ⟨b + 1, by omega, by omega, rfl⟩
    rw [g1, g2]
   have hsame : (mem.getD b z8 = (gu bl bl.length).getD b z8) → (mem.getD b z8).take (bl.getD b []).length = bl.getD b [] := fun h => by rw [h]; exact A6 hb hR.2.1 hbl
   cases wr with
   | false =>
    have e := hsame (hm b (.inl rfl))
    rw [e] at hblk
    rw [if_pos (by decide), show er 30000 (b : Int) fam i1 i2 i3 i4 sf bl ts ms mem out = _ from hblk, ae]
    dsimp only
    rw [if_pos (dc hbl), ag, uV 30000 (by decide) _ _ (by omega), ae, af rfl, if_neg (by decide), dw (by omega)]
    exact ⟨_, hgo, rfl⟩
   | true =>
    rw [if_neg (by decide)]
    cases own with
    | false =>
     have e := hsame (hm b (.inr (o1 rfl)))
     rw [e] at hblk
     rw [if_pos (by decide), show er 30000 (b : Int) fam i1 i2 i3 i4 sf bl ts ms mem out = _ from hblk, ae]
     dsimp only
     rw [if_pos (dc hbl), ag, uV 30000 (by decide) _ _ (by omega), ae, af rfl, if_neg (by decide), dw (by omega)]
     exact ⟨_, hgo, rfl⟩
    | true =>
     rw [if_neg (by decide), dw (by omega)]
     exact ⟨_, hgo, rfl⟩
  ·rw [if_neg (by simp; omega)]
   exact ⟨_, rfl, rfl⟩
 obtain ⟨r, e1, e2⟩ := key
 rw [e1, e2]
theorem PL (i1 i2 i3 i4 : Int) (sf : List Int) (bl : List (List Int)) {ts : List Tsk} (hT : ts.length ≤ 8) {k : Nat} (hk : k < ts.length) {fam : List gV} {p : Nat} {ret : List (List Int)} (hr : Rep fam p ts ret) (inp : List Int) (mem : dO) (out : List Int) (hz : ∀ j, j < ts.length → j ≠ k → ret.getD j [] = z8) :
  rK 30000 (0, fam, i1, i2, i3, i4, sf, bl, ts, (k : Int), inp, i1, i2, i3, i4, sf, bl, ts, f0 p ts.length, mem, out) = some (.inr ((), ((fam, ()), (i1, i2, i3, i4, sf, bl, ts, ()), ((k : Int), inp, ()), (i1, i2, i3, i4, sf, bl, ts, f0 p ts.length, mem, out, ()), ()))) := by
 have key : ∃ r, rK 30000 (0, fam, i1, i2, i3, i4, sf, bl, ts, (k : Int), inp, i1, i2, i3, i4, sf, bl, ts, f0 p ts.length, mem, out) = some r ∧ r = (.inr ((), ((fam, ()), (i1, i2, i3, i4, sf, bl, ts, ()), ((k : Int), inp, ()), (i1, i2, i3, i4, sf, bl, ts, f0 p ts.length, mem, out, ()), ()))) := by
  show ∃ r, it _ 30000 _ = some r ∧ _
  refine kl (fun f x => ∃ b : Nat, b ≤ ts.length ∧ ts.length < f + b ∧ x = ((b : Int), fam, i1, i2, i3, i4, sf, bl, ts, (k : Int), inp, i1, i2, i3, i4, sf, bl, ts, f0 p ts.length, mem, out)) _ (fun x ⟨w, h1, h2, _⟩ => by omega) ?_ 30000 _ ⟨0, by omega, by omega, rfl⟩
  rintro f x F hF ⟨b, h1, h2, rfl⟩
  show ∃ r, yI 30000 F (b : Int) fam i1 i2 i3 i4 sf bl ts (k : Int) inp i1 i2 i3 i4 sf bl ts (f0 p ts.length) mem out = some r ∧ _
  unfold yI
  rcases am b ts.length with hbl | hbl
  ·rw [if_pos (af (by omega))]
   by_cases e : b = k
   ·subst e
    rw [if_neg (by rw [bne_self_eq_false]; decide), dw (by omega)]
    exact hF _ ⟨b + 1, by omega, by omega, rfl⟩
   ·rw [if_pos (aw.2 (by omega)), show gt 30000 (b : Int) fam i1 i2 i3 i4 sf bl ts (f0 p ts.length) mem out = _ from El hr 30000 (b : Int) i1 i2 i3 i4 sf bl ts mem out, ae]
    dsimp only
    rw [if_pos (show 0 ≤ (b : Int) ∧ (b : Int) < (ts.length : Int) by omega), ag, hz b hbl e, if_neg (by rw [PG _ 8]; decide), dw (by omega)]
    exact hF _ ⟨b + 1, by omega, by omega, rfl⟩
  ·rw [if_neg (by simp; omega)]
   exact ⟨_, rfl, rfl⟩
 obtain ⟨r, e1, e2⟩ := key
 rw [e1, e2]
theorem lI (a0 : (Int × (Int × (Int × (Int × ((List Int) × ((List (List Int)) × (List (Int × (Int × (Int × (Int × ((List Int) × ((List Int) × (List (Int × (Int × Int))))))))))))))))) (a1 : (Int × (List Int))) (ok0 : Sh.Ok (.pair (.int .i64) (.pair (.int .i64) (.pair (.int .i64) (.pair (.int .i64) (.pair (.sl (.int .i64)) (.pair (.sl (.sl (.int .i64))) (.sl (.pair (.int .i64) (.pair (.int .i64) (.pair (.int .i64) (.pair (.int .i64) (.pair (.sl (.int .i64)) (.pair (.sl (.int .i64)) (.sl (.pair (.int .i64) (.pair (.int .i64) (.int .i64))))))))))))))))) a0) (ok1 : Sh.Ok (.pair (.int .i64) (.arr 16 (.int .i64))) a1) (sm0 : Sh.Sm (.pair (.int .i64) (.pair (.int .i64) (.pair (.int .i64) (.pair (.int .i64) (.pair (.sl (.int .i64)) (.pair (.sl (.sl (.int .i64))) (.sl (.pair (.int .i64) (.pair (.int .i64) (.pair (.int .i64) (.pair (.int .i64) (.pair (.sl (.int .i64)) (.pair (.sl (.int .i64)) (.sl (.pair (.int .i64) (.pair (.int .i64) (.int .i64))))))))))))))))) a0) (LF : Sh.Sm (.pair (.int .i64) (.arr 16 (.int .i64))) a1) : ∃ n, Gg n a0 a1 = some true := by
 refine ⟨30000, ?_⟩
 obtain ⟨K, hK⟩ : ∃ K : Nat, K = 6000 := ⟨6000, rfl⟩
 obtain ⟨i1, i2, i3, i4, sf, bl, ts⟩ := a0
 obtain ⟨a, inp⟩ := a1
 unfold Gg
 dsimp only
 rw [Mw]
 obtain ⟨b, hb1, hb2⟩ := GF sm0
 rw [hb1, ae]
 cases b with
 | false => rfl
 | true =>
  obtain ⟨hL, hW⟩ := hb2 rfl
  rw [if_neg (by decide)]
  by_cases h0 : a < 0
  ·rw [if_pos (af h0)]; rfl
  rw [if_neg (fun h => h0 (aY h))]
  by_cases h1 : a ≥ (ts.length : Int)
  ·rw [if_pos (af h1)]; rfl
  rw [if_neg (fun h => h1 (aY h))]
  obtain ⟨k, rfl⟩ : ∃ k : Nat, a = (k : Int) := ⟨a.toNat, by omega⟩
  have hk : k < ts.length := by omega
  have hc : (dV ts k).length ≤ 4019 := hL.2 _ (by show ts.getD k tz ∈ ts; rw [ao, ax hk]; exact bi _)
  obtain ⟨x, e, c1, c2⟩ := Lg (i1, i2, i3, i4, sf, bl, ts)
  rw [c1, ae]
  dsimp only
  by_cases he : e = 0
  ·obtain ⟨hR, hT⟩ := c2 he
   have hG := Mu hR hT hW
   subst he
   have hs16 : sf.length ≤ 16 := hR.1.2.2.2.2.1
   have hb8 : bl.length ≤ 8 := hR.1.2.2.2.2.2.1
   have hT8 : ts.length ≤ 8 := hR.1.2.2.2.2.2.2.2
   have ht := hG.task k hk
   have hown : (gz ts k).length ≤ 1000 := by
    have h5 : ((gz ts k).length : Int) ≤ (bl.length : Int) - 1 - -1 := ht.ok.2.1.len (by show (-1 : Int) < (bl.length : Int); omega)
    omega
   rw [if_neg (by decide), if_pos (by simp; omega)]
   have eA := xG hG i1 i2 i3 i4 sf bl ts [] qw (List.replicate ((sf.length : Int)).toNat (0 : Int))
   rw [eA, ae]
   dsimp only
   rw [xH i1 i2 i3 i4 sf hb8 ts _ _ _, ae]
   dsimp only
   rw [PH hR _ (k : Int) inp _ _, ae]
   dsimp only [Sum.elim_inr]
   obtain ⟨r3, e3, wr, w1, rfl⟩ := PI i1 i2 i3 i4 sf bl hk hc ([] ++ ts.map oN) inp (f0 ([] : List gV).length ts.length) (gu bl bl.length) (List.replicate ((sf.length : Int)).toNat (0 : Int))
   rw [e3, ae]
   dsimp only
   obtain ⟨fam1, q1, q2, q3, q4, q5⟩ := OS (K := K) ⟨by omega, by omega⟩ hG (W := ⟨List.replicate ts.length z8, gu bl bl.length, List.replicate ((sf.length : Int)).toNat (0 : Int)⟩) (Rep.new [] ts) (by rw [b8, ag]) (k : Int) inp
   dsimp only at q1
   rw [q1, ae]
   dsimp only
   have hin : (0 ≤ (k : Int) ∧ (k : Int) < (ts.length : Int)) := by omega
   unfold uY at q2 ⊢
   rw [if_pos hin, ag] at q2 ⊢
   dsimp only at q2 ⊢
   have hfr := fun (b : Nat) (h : (∀ i, i < (dV ts k).length → opAt (dV ts k) i ≠ 18) ∨ (b : Int) ∉ gz ts k) => Jd ht hR K ((List.replicate ts.length z8).getD k []) inp (gu bl bl.length) (b := b) h
   generalize iu K (dV ts k) ((List.replicate ts.length z8).getD k []) inp (gu bl bl.length) = c at *
   rw [PK hR hk hown wr fam1 inp _ c.mem _ (fun b h => hfr b (h.elim (fun h => .inl (w1 h)) .inr)), ae]
   dsimp only [Sum.elim_inr]
   rw [PL i1 i2 i3 i4 sf bl hT8 hk q2 inp c.mem _ (fun j hj hjk => by rw [ml (fun h => hjk h.symm), ao, bF, if_pos hj]; rfl), ae]
   rfl
  ·have hne : (e != 0) = true := aw.2 he
   rw [if_pos hne, if_pos hne, if_pos hne]
   rfl
end Go.Proofs.Dk
