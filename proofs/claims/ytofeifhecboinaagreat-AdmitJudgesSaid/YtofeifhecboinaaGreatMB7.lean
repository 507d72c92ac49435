/- A part of the proofs: Plain: whether an image can be. -/
import Derived.Test.YtofeifhecboinaaGreatMB6
import Derived.Test.YtofeifhecboinaaGreatMB5
set_option linter.unusedVariables false
set_option linter.unusedSimpArgs false
noncomputable section
namespace Go.Proofs.Dk
open Go Go.IntKind
set_option maxRecDepth 100000
def F8 (m : Img) : Prop := (0 ≤ m.1 ∧ m.1 ≤ 100) ∧ (1 ≤ m.2.1 ∧ m.2.1 ≤ 100) ∧ (1 ≤ m.2.2.1 ∧ m.2.2.1 ≤ 100) ∧ (0 ≤ m.2.2.2.1 ∧ m.2.2.2.1 ≤ 16) ∧ m.safe.length ≤ 16 ∧ m.blocks.length ≤ 8 ∧ (1 ≤ m.tasks.length ∧ m.tasks.length ≤ 8)
def gK (l : List (List Int)) : Prop := ∀ b ∈ l, 1 ≤ b.length ∧ b.length ≤ 8
def RightP (m : Img) : Prop := F8 m ∧ gK m.blocks ∧ TasksOk m [] m.tasks
theorem O1 (n : Nat) (hn2 : n < 1000000) (m : Img) (hT : m.blocks.length < n) (F : Option Bool) :
  ∃ c, (c = true ↔ gK m.blocks) ∧ rk n (m.blocks, (m.blocks.length : Int), 0, m.1, m.2.1, m.2.2.1, m.2.2.2.1, m.2.2.2.2.1, m.2.2.2.2.2.1, m.2.2.2.2.2.2) = some (if c = true then .inr ((), ((m.1, m.2.1, m.2.2.1, m.2.2.2.1, m.2.2.2.2.1, m.2.2.2.2.2.1, m.2.2.2.2.2.2, ()), ())) else .inl ((false, ()), ((m.1, m.2.1, m.2.2.1, m.2.2.2.1, m.2.2.2.2.1, m.2.2.2.2.2.1, m.2.2.2.2.2.2, ()), ()))) := by
 unfold rk
 have := Classical.propDecidable (gK m.blocks)
 refine ⟨decide (gK m.blocks), bj, ?_⟩
 refine dA (S := fun F => (fj q_) (sE n F))
  (fun f x r => ∃ (i : Nat) (c : Bool), x = (m.blocks, (m.blocks.length : Int), (i : Int), m.1, m.2.1, m.2.2.1, m.2.2.2.1, m.2.2.2.2.1, m.2.2.2.2.2.1, m.2.2.2.2.2.2) ∧ i ≤ m.blocks.length ∧ m.blocks.length < f + i ∧ (c = true ↔ gK (m.blocks.drop i)) ∧ r = if c = true then .inr ((), ((m.1, m.2.1, m.2.2.1, m.2.2.2.1, m.2.2.2.2.1, m.2.2.2.2.2.1, m.2.2.2.2.2.2, ()), ())) else .inl ((false, ()), ((m.1, m.2.1, m.2.2.1, m.2.2.2.1, m.2.2.2.2.1, m.2.2.2.2.2.1, m.2.2.2.2.2.2, ()), ()))) (fun x r ⟨i, c, _, h1, h2, _⟩ => by omega) (fun f x F hF r => ?_) n _ _ ⟨0, decide (gK m.blocks), rfl, ai _, by omega, bj, rfl⟩
 rintro ⟨i, c, rfl, h1, h2, hc, rfl⟩
 show sE n F m.blocks (m.blocks.length : Int) (i : Int) m.1 m.2.1 m.2.2.1 m.2.2.2.1 m.2.2.2.2.1 m.2.2.2.2.2.1 m.2.2.2.2.2.2 = _
 unfold sE
 rcases aj i m.blocks.length with hlt | hge
 ·rw [dq (d := ([] : List Int)) hlt] at hc
  rw [if_pos (af (by omega)), if_pos (cZ hlt), ah]
  generalize m.blocks.getD i [] = b at hc ⊢
  have hc : c = true ↔ (1 ≤ b.length ∧ b.length ≤ 8) ∧ gK (m.blocks.drop (i + 1)) := hc.trans cK
  have hno : ∀ (h : ¬ (1 ≤ b.length ∧ b.length ≤ 8)), c = false := fun h => by
   cases c with
   | false => rfl
   | true => exact absurd (hc.1 rfl).1 h
  by_cases g1 : b.length = 0
  ·rw [if_pos (ag.2 (by omega)), hno (by omega)]; rfl
  rw [if_neg (fun h => g1 (by have := ag.1 h; omega))]
  by_cases g2 : b.length ≤ 8
  ·rw [if_neg (by simp; omega), dd (by omega)]
   exact hF _ _ ⟨i + 1, c, rfl, by omega, by omega, hc.trans ⟨fun h => h.2, fun h => ⟨by omega, h⟩⟩, rfl⟩
  ·rw [if_pos (af (by omega)), hno (by omega)]; rfl
 ·have : i = m.blocks.length := by omega
  subst this
  rw [aD] at hc
  rw [if_neg (by simp), if_pos (hc.2 (fun b hb => by cases hb))]
theorem acN {a b c d e f g : Bool} {A B C D E F G : Prop} (ha : a = true ↔ A) (hb : b = true ↔ B) (hc : c = true ↔ C) (hd : d = true ↔ D) (he : e = true ↔ E) (hf : f = true ↔ F) (hg : g = true ↔ G) : (a && (b && (c && (d && (e && (f && g)))))) = true ↔ A ∧ B ∧ C ∧ D ∧ E ∧ F ∧ G := by
 simp only [aq, ha, hb, hc, hd, he, hf, hg]
theorem Ao (n : Nat) (hn : 200 < n) (hn2 : n < 1000000) (m : Img) : Says (kg n m) (RightP m) := by
 unfold kg
 have hN : ∀ {b : Bool}, (b = true ↔ F8 m) → ∀ {o : Option Bool}, (F8 m → Says o (RightP m)) → Says (if (!b) = true then some false else o) (RightP m) := fun {b} hb {o} ho => by
  cases b with
  | false => exact Says.no (fun h => by have := hb.2 h.1; cases this)
  | true => exact ho (hb.1 rfl)
 refine hN ?_ ?_
 ·refine acN ?_ ?_ ?_ ?_ ?_ ?_ ?_
  all_goals (rw [ag])
  ·generalize m.1 = a; constructor <;> intro h <;> (repeat' split at *) <;> omega
  ·generalize m.2.1 = a; constructor <;> intro h <;> (repeat' split at *) <;> omega
  ·generalize m.2.2.1 = a; constructor <;> intro h <;> (repeat' split at *) <;> omega
  ·generalize m.2.2.2.1 = a; constructor <;> intro h <;> (repeat' split at *) <;> omega
  ·show (m.safe.length : Int) = _ ↔ _
   generalize m.safe.length = a; constructor <;> intro h <;> (repeat' split at *) <;> omega
  ·show (m.blocks.length : Int) = _ ↔ _
   generalize m.blocks.length = a; constructor <;> intro h <;> (repeat' split at *) <;> omega
  ·show (m.tasks.length : Int) = _ ↔ _
   generalize m.tasks.length = a; constructor <;> intro h <;> (repeat' split at *) <;> omega
 ·intro hI
  obtain ⟨_, _, _, _, h5, h6, h7⟩ := id hI
  obtain ⟨c, hc, e⟩ := O1 n hn2 m (by omega) none
  rw [e, ab]
  cases c with
  | false => exact Says.no (fun h => by have := hc.2 h.2.1; cases this)
  | true => exact (O0 n hn hn2 m (by omega) h5 (by omega)).iff ⟨fun h => ⟨hI, hc.1 rfl, h⟩, fun h => h.2.2⟩
theorem IE (n : Nat) (hn2 : n < 1000000) (m : Img) (hT : m.blocks.length < n) :
  ∃ c, (c = true ↔ gK m.blocks) ∧ uU n (0, m.1, m.2.1, m.2.2.1, m.2.2.2.1, m.2.2.2.2.1, m.2.2.2.2.2.1, m.2.2.2.2.2.2) = some (if c = true then .inr ((), ((m.1, m.2.1, m.2.2.1, m.2.2.2.1, m.2.2.2.2.1, m.2.2.2.2.2.1, m.2.2.2.2.2.2, ()), ())) else .inl ((false, ()), ((m.1, m.2.1, m.2.2.1, m.2.2.2.1, m.2.2.2.2.1, m.2.2.2.2.2.1, m.2.2.2.2.2.2, ()), ()))) := by
 unfold uU
 have := Classical.propDecidable (gK m.blocks)
 refine ⟨decide (gK m.blocks), bj, ?_⟩
 refine dA (S := fun F => (dy (dk q_)) (yH n F))
  (fun f x r => ∃ (i : Nat) (c : Bool), x = ((i : Int), m.1, m.2.1, m.2.2.1, m.2.2.2.1, m.2.2.2.2.1, m.2.2.2.2.2.1, m.2.2.2.2.2.2) ∧ i ≤ m.blocks.length ∧ m.blocks.length < f + i ∧ (c = true ↔ gK (m.blocks.drop i)) ∧ r = if c = true then .inr ((), ((m.1, m.2.1, m.2.2.1, m.2.2.2.1, m.2.2.2.2.1, m.2.2.2.2.2.1, m.2.2.2.2.2.2, ()), ())) else .inl ((false, ()), ((m.1, m.2.1, m.2.2.1, m.2.2.2.1, m.2.2.2.2.1, m.2.2.2.2.2.1, m.2.2.2.2.2.2, ()), ()))) (fun x r ⟨i, c, _, h1, h2, _⟩ => by omega) (fun f x F hF r => ?_) n _ _ ⟨0, decide (gK m.blocks), rfl, ai _, by omega, bj, rfl⟩
 rintro ⟨i, c, rfl, h1, h2, hc, rfl⟩
 show yH n F (i : Int) m.1 m.2.1 m.2.2.1 m.2.2.2.1 m.2.2.2.2.1 m.2.2.2.2.2.1 m.2.2.2.2.2.2 = _
 unfold yH
 rcases aj i m.blocks.length with hlt | hge
 ·rw [dq (d := ([] : List Int)) hlt] at hc
  rw [if_pos (show decide ((i : Int) < (m.2.2.2.2.2.1.length : Int)) = true from af (by exact_mod_cast hlt)), if_pos (show (decide (0 ≤ (i : Int)) && decide ((i : Int) < (m.2.2.2.2.2.1.length : Int))) = true from cZ hlt), ah]
  rw [show m.2.2.2.2.2.1.getD i [] = m.blocks.getD i [] from rfl]
  generalize m.blocks.getD i [] = b at hc ⊢
  have hc : c = true ↔ (1 ≤ b.length ∧ b.length ≤ 8) ∧ gK (m.blocks.drop (i + 1)) := hc.trans cK
  obtain ⟨y, e1, e2⟩ := nr n (b.length : Int) 1 8
  rw [e1, ab]
  cases y with
  | false =>
   have : c = false := by cases c with
    | false => rfl
    | true => have := e2.2 (by have := (hc.1 rfl).1; omega); cases this
   rw [this]; rfl
  | true =>
   have := e2.1 rfl
   rw [if_neg (by decide), dd (by omega)]
   exact hF _ _ ⟨i + 1, c, rfl, by omega, by omega, hc.trans ⟨fun h => h.2, fun h => ⟨by omega, h⟩⟩, rfl⟩
 ·have : i = m.blocks.length := by omega
  subst this
  rw [aD] at hc
  rw [if_neg (by simp), if_pos (hc.2 (fun b hb => by cases hb))]
def jK (m : Img) : Prop := m.safe.length + m.blocks.length + m.tasks.length ≤ 80 ∧ ∀ t ∈ m.tasks, t.code.length ≤ 4019
theorem IF (n : Nat) (hn : 5000 < n) (hn2 : n < 1000000) (m : Img) (hL : jK m) (hi : ∀ t ∈ m.tasks, InR t.code) :
  ∃ c, (c = true ↔ ∀ t ∈ m.tasks, gg m t) ∧ uV n ([], 0, m.1, m.2.1, m.2.2.1, m.2.2.2.1, m.2.2.2.2.1, m.2.2.2.2.2.1, m.2.2.2.2.2.2) = some (if c = true then .inr ((m.tasks.flatMap Tsk.outs, ()), ((m.1, m.2.1, m.2.2.1, m.2.2.2.1, m.2.2.2.2.1, m.2.2.2.2.2.1, m.2.2.2.2.2.2, ()), ())) else .inl ((false, ()), ((m.1, m.2.1, m.2.2.1, m.2.2.2.1, m.2.2.2.2.1, m.2.2.2.2.2.1, m.2.2.2.2.2.2, ()), ()))) := by
 unfold uV
 have := Classical.propDecidable (∀ t ∈ m.tasks, gg m t)
 refine ⟨decide (∀ t ∈ m.tasks, gg m t), bj, ?_⟩
 obtain ⟨hL1, hL2⟩ := hL
 refine dA (S := fun F => (dy (dk (C_ q_))) (yI n F))
  (fun f x r => ∃ (i : Nat) (o : List Int) (c : Bool), x = (o, (i : Int), m.1, m.2.1, m.2.2.1, m.2.2.2.1, m.2.2.2.2.1, m.2.2.2.2.2.1, m.2.2.2.2.2.2) ∧ i ≤ m.tasks.length ∧ m.tasks.length < f + i ∧ o.length ≤ 100 * i ∧ (c = true ↔ ∀ t ∈ m.tasks.drop i, gg m t) ∧ r = if c = true then .inr ((o ++ (m.tasks.drop i).flatMap Tsk.outs, ()), ((m.1, m.2.1, m.2.2.1, m.2.2.2.1, m.2.2.2.2.1, m.2.2.2.2.2.1, m.2.2.2.2.2.2, ()), ())) else .inl ((false, ()), ((m.1, m.2.1, m.2.2.1, m.2.2.2.1, m.2.2.2.2.1, m.2.2.2.2.2.1, m.2.2.2.2.2.2, ()), ()))) (fun x r ⟨i, o, c, _, h1, h2, _⟩ => by omega) (fun f x F hF r => ?_) n _ _ ⟨0, [], decide (∀ t ∈ m.tasks, gg m t), rfl, ai _, by omega, by simp, bj, rfl⟩
 rintro ⟨i, o, c, rfl, h1, h2, ho, hc, rfl⟩
 show yI n F o (i : Int) m.1 m.2.1 m.2.2.1 m.2.2.2.1 m.2.2.2.2.1 m.2.2.2.2.2.1 m.2.2.2.2.2.2 = _
 unfold yI
 rcases aj i m.tasks.length with hlt | hge
 ·have hm : m.tasks.getD i ((0 : Int), (0 : Int), (0 : Int), (0 : Int), ([] : List Int), ([] : List Int), ([] : List dc)) ∈ m.tasks := by rw [ao, au hlt]; exact aL hlt
  have hix : (decide (0 ≤ (i : Int)) && decide ((i : Int) < (m.2.2.2.2.2.2.length : Int))) = true := cZ hlt
  rw [dq (d := ((0 : Int), (0 : Int), (0 : Int), (0 : Int), ([] : List Int), ([] : List Int), ([] : List dc))) hlt] at hc ⊢
  rw [if_pos (show decide ((i : Int) < (m.2.2.2.2.2.2.length : Int)) = true from af (by exact_mod_cast hlt)), if_pos hix, ah]
  rw [show m.2.2.2.2.2.2.getD i (0, 0, 0, 0, [], [], []) = m.tasks.getD i (0, 0, 0, 0, [], [], []) from rfl]
  generalize m.tasks.getD i (0, 0, 0, 0, [], [], []) = t at hc hm ⊢
  have hc : c = true ↔ gg m t ∧ ∀ t ∈ m.tasks.drop (i + 1), gg m t := hc.trans cK
  obtain ⟨y, e1, e2⟩ := aaU n hn2 m t (by omega) (by omega) (by have := hL2 t hm; omega) (hi t hm)
  rw [show yF n (m.1, m.2.1, m.2.2.1, m.2.2.2.1, m.2.2.2.2.1, m.2.2.2.2.2.1, m.2.2.2.2.2.2) (t.1, t.2.1, t.2.2.1, t.2.2.2.1, t.2.2.2.2.1, t.2.2.2.2.2.1, t.2.2.2.2.2.2) = some y from e1, ab]
  cases y with
  | false =>
   have : c = false := by cases c with
    | false => rfl
    | true => have := e2.2 (hc.1 rfl).1; cases this
   rw [this]; rfl
  | true =>
   have ht := e2.1 rfl
   have hlen := ht.2.2.1.len (by omega)
   have hlen : t.2.2.2.2.2.1.length ≤ 80 := by have : t.outs.length = t.2.2.2.2.2.1.length := rfl; omega
   rw [if_neg (by decide), if_pos hix, if_pos (by rw [af (by omega), af (by omega)]; rfl), dd (by omega)]
   refine hF _ _ ⟨i + 1, o ++ t.outs, c, rfl, by omega, by omega, by rw [aJ]; have : t.outs.length = t.2.2.2.2.2.1.length := rfl; omega, hc.trans ⟨fun h => h.2, fun h => ⟨ht, h⟩⟩, ?_⟩
   rw [co, aQ]
 ·have : i = m.tasks.length := by omega
  subst this
  rw [aD] at hc ⊢
  rw [if_neg (by simp), if_pos (hc.2 (fun b hb => by cases hb)), List.flatMap_nil, ba]
theorem La (n : Nat) (hn2 : n < 1000000) (m : Img) (o : List Int) {i : Nat} (hi : i < o.length) (ho : o.length < n) :
  uW n (o, (i : Int), 0, m.1, m.2.1, m.2.2.1, m.2.2.2.1, m.2.2.2.2.1, m.2.2.2.2.2.1, m.2.2.2.2.2.2) = some (if (o.take i).contains (o.getD i 0) = true then .inl ((false, ()), ((m.1, m.2.1, m.2.2.1, m.2.2.2.1, m.2.2.2.2.1, m.2.2.2.2.2.1, m.2.2.2.2.2.2, ()), ())) else .inr ((o, (i : Int), ()), ((m.1, m.2.1, m.2.2.1, m.2.2.2.1, m.2.2.2.2.1, m.2.2.2.2.2.1, m.2.2.2.2.2.2, ()), ()))) := by
 unfold uW
 refine dA (S := fun F => (fj q_) (yJ n F))
  (fun f x r => ∃ (k : Nat), x = (o, (i : Int), (k : Int), m.1, m.2.1, m.2.2.1, m.2.2.2.1, m.2.2.2.2.1, m.2.2.2.2.2.1, m.2.2.2.2.2.2) ∧ k ≤ i ∧ i < f + k ∧ r = if ((o.take i).drop k).contains (o.getD i 0) = true then .inl ((false, ()), ((m.1, m.2.1, m.2.2.1, m.2.2.2.1, m.2.2.2.2.1, m.2.2.2.2.2.1, m.2.2.2.2.2.2, ()), ())) else .inr ((o, (i : Int), ()), ((m.1, m.2.1, m.2.2.1, m.2.2.2.1, m.2.2.2.2.1, m.2.2.2.2.2.1, m.2.2.2.2.2.2, ()), ()))) (fun x r ⟨i, _, h1, h2, _⟩ => by omega) (fun f x F hF r => ?_) n _ _ ⟨0, rfl, ai _, by omega, rfl⟩
 rintro ⟨k, rfl, h1, h2, rfl⟩
 show yJ n F o (i : Int) (k : Int) m.1 m.2.1 m.2.2.1 m.2.2.2.1 m.2.2.2.2.1 m.2.2.2.2.2.1 m.2.2.2.2.2.2 = _
 unfold yJ
 rcases aj k i with hlt | hge
 ·have hk : k < (o.take i).length := by rw [bX]; omega
  rw [if_pos (af (by omega)), if_pos (cZ hi), if_pos (cZ (by omega)), ah, ah, dq (d := (0 : Int)) hk, List.contains_cons, show (o.take i).getD k 0 = o.getD k 0 by rw [ao, ao, List.getElem?_take_of_lt hlt]]
  cases h : (o.getD i 0 == o.getD k 0) with
  | true => rfl
  | false =>
   rw [if_neg (by decide), bD, dd (by omega)]
   exact hF _ _ ⟨k + 1, rfl, by omega, by omega, rfl⟩
 ·have : k = i := by omega
  subst this
  rw [if_neg (by simp), List.drop_eq_nil_of_le (by rw [bX]; omega)]
  rfl
theorem IG (n : Nat) (hn2 : n < 1000000) (m : Img) (o : List Int) (ho : o.length < n) :
  uX n (o, 0, m.1, m.2.1, m.2.2.1, m.2.2.2.1, m.2.2.2.2.1, m.2.2.2.2.2.1, m.2.2.2.2.2.2) = some (if apart [] o = true then .inr ((), ((m.1, m.2.1, m.2.2.1, m.2.2.2.1, m.2.2.2.2.1, m.2.2.2.2.2.1, m.2.2.2.2.2.2, ()), ())) else .inl ((false, ()), ((m.1, m.2.1, m.2.2.1, m.2.2.2.1, m.2.2.2.2.1, m.2.2.2.2.2.1, m.2.2.2.2.2.2, ()), ()))) := by
 unfold uX
 refine dA (S := fun F => (dy (dk (C_ q_))) (yK n F))
  (fun f x r => ∃ (i : Nat), x = (o, (i : Int), m.1, m.2.1, m.2.2.1, m.2.2.2.1, m.2.2.2.2.1, m.2.2.2.2.2.1, m.2.2.2.2.2.2) ∧ i ≤ o.length ∧ o.length < f + i ∧ r = if apart (o.take i) (o.drop i) = true then .inr ((), ((m.1, m.2.1, m.2.2.1, m.2.2.2.1, m.2.2.2.2.1, m.2.2.2.2.2.1, m.2.2.2.2.2.2, ()), ())) else .inl ((false, ()), ((m.1, m.2.1, m.2.2.1, m.2.2.2.1, m.2.2.2.2.1, m.2.2.2.2.2.1, m.2.2.2.2.2.2, ()), ()))) (fun x r ⟨i, _, h1, h2, _⟩ => by omega) (fun f x F hF r => ?_) n _ _ ⟨0, rfl, ai _, by omega, rfl⟩
 rintro ⟨i, rfl, h1, h2, rfl⟩
 show yK n F o (i : Int) m.1 m.2.1 m.2.2.1 m.2.2.2.1 m.2.2.2.2.1 m.2.2.2.2.2.1 m.2.2.2.2.2.2 = _
 unfold yK
 rcases aj i o.length with hlt | hge
 ·rw [if_pos (af (by omega)), La n hn2 m o hlt ho, ab, dq (d := (0 : Int)) hlt]
  unfold apart
  cases h : (o.take i).contains (o.getD i 0) with
  | true => rfl
  | false =>
   have e : o.take i ++ [o.getD i 0] = o.take (i + 1) := by
    rw [cj, ao, au hlt]
    rfl
   rw [if_neg (show ¬ (false = true) by decide), ci, az, e]
   dsimp only [Sum.elim_inr]
   rw [dd (by omega)]
   exact hF _ _ ⟨i + 1, rfl, by omega, by omega, rfl⟩
 ·have : i = o.length := by omega
  subst this
  rw [if_neg (by simp), aD]
  rfl
theorem Lb {m : Img} (hs : m.safe.length ≤ 80) : ∀ {l : List Tsk}, (∀ t ∈ l, gg m t) → (l.flatMap Tsk.outs).length ≤ 80 * l.length
 | [], _ => by simp
 | t :: l, h => by
  have := Lb hs (l := l) fun t ht => h t (aC _ ht)
  have := (h t aF).2.2.1.len (by omega)
  rw [co, aJ, aI]
  omega
theorem qR (n : Nat) (hn : 7000 < n) (hn2 : n < 1000000) (m : Img) (hL : jK m) (hi : ∀ t ∈ m.tasks, InR t.code) : Says (uY n m) (RightP m) := by
 unfold uY
 obtain ⟨c, hc, e⟩ := IE n hn2 m (by have := hL.1; omega)
 rw [e, ab]
 cases c with
 | false => exact Says.no (fun h => by have := hc.2 h.2.1; cases this)
 | true =>
  rw [if_pos rfl]
  dsimp only [Sum.elim_inr]
  obtain ⟨c1, hc1, e1⟩ := IF n (by omega) hn2 m hL hi
  rw [e1, ab]
  cases c1 with
  | false => exact Says.no (fun h => by have := hc1.2 (TasksOk.all.1 h.2.2).1; cases this)
  | true =>
   rw [if_pos rfl]
   dsimp only [Sum.elim_inr]
   have hT := hc1.1 rfl
   have hf := Lb (by have := hL.1; omega) hT
   rw [IG n hn2 m _ (by have := hL.1; omega), ab]
   cases ha : apart [] (m.tasks.flatMap Tsk.outs) with
   | false => exact Says.no (fun h => by have := (TasksOk.all.1 h.2.2).2; rw [ha] at this; cases this)
   | true =>
    rw [if_pos rfl]
    dsimp only [Sum.elim_inr]
    have hK : gK m.blocks ∧ TasksOk m [] m.tasks := ⟨hc.1 rfl, TasksOk.all.2 ⟨hT, ha⟩⟩
    refine Says.iff (p := (0 ≤ m.1 ∧ m.1 ≤ 100) ∧ (1 ≤ m.2.1 ∧ m.2.1 ≤ 100) ∧ (1 ≤ m.2.2.1 ∧ m.2.2.1 ≤ 100) ∧ (0 ≤ m.2.2.2.1 ∧ m.2.2.2.1 ≤ 16) ∧ (m.safe.length : Int) ≤ 16 ∧ (m.blocks.length : Int) ≤ 8 ∧ (1 ≤ (m.tasks.length : Int) ∧ (m.tasks.length : Int) ≤ 8)) ?_ ⟨fun ⟨h1, h2, h3, h4, h5, h6, h7⟩ => ⟨⟨h1, h2, h3, h4, by omega, by omega, by omega, by omega⟩, hK⟩, fun ⟨⟨h1, h2, h3, h4, h5, h6, h7⟩, _⟩ => ⟨h1, h2, h3, h4, by omega, by omega, by omega⟩⟩
    have hlast := nr n (m.tasks.length : Int) 1 8
    refine Says.and (nr n m.1 0 100) (Says.and (nr n m.2.1 1 100) (Says.and (nr n m.2.2.1 1 100) (Says.and (nr n m.2.2.2.1 0 16) ?_ rfl) rfl) rfl) rfl
    obtain ⟨b, e3, e4⟩ := hlast
    have hlast : Says ((dE n (m.tasks.length : Int) 1 8).bind fun y14 => some y14) (1 ≤ (m.tasks.length : Int) ∧ (m.tasks.length : Int) ≤ 8) := ⟨b, by rw [e3]; rfl, e4⟩
    show Says (if decide ((m.safe.length : Int) ≤ 16) = true then (if decide ((m.blocks.length : Int) ≤ 8) = true then ((dE n (m.tasks.length : Int) 1 8).bind fun y14 => some y14) else some false) else some false) _
    by_cases g1 : (m.safe.length : Int) ≤ 16
    ·rw [if_pos (af g1)]
     by_cases g2 : (m.blocks.length : Int) ≤ 8
     ·rw [if_pos (af g2)]
      exact hlast.iff ⟨fun h => ⟨g1, g2, h⟩, fun h => h.2.2⟩
     ·rw [if_neg (by simpa using g2)]
      exact Says.no (fun h => g2 h.2.1)
    ·rw [if_neg (by simpa using g1)]
     exact Says.no (fun h => g1 h.1)
theorem Ap (n : Nat) (hn : n < 1000000) (a b : List Int) (ha : a.length < n) : qD n a b = some (decide (a = b)) := by
 unfold qD yr
 by_cases hl : a.length = b.length
 ·rw [if_neg (fun h => ak.1 h (by rw [hl]))]
  have := dA (S := fun F => (C_ q_) (ti n F)) (fun f x r => ∃ i : Nat, x = (a, b, (i : Int)) ∧ i ≤ a.length ∧ a.length < f + i ∧ r = if a.drop i = b.drop i then .inr ((), ()) else .inl ((false, ()), ())) (fun x r ⟨i, _, h1, h2, _⟩ => by omega) (fun f x F hF r => ?_) n (a, b, 0) _ ⟨0, rfl, ai _, by omega, rfl⟩
  ·rw [this, aT, aT]
   by_cases h : a = b
   ·rw [if_pos h, af h]; rfl
   ·rw [if_neg h, bw h]; rfl
  ·rintro ⟨i, rfl, h1, h2, rfl⟩
   show ti n F a b (i : Int) = _
   unfold ti
   rcases aj i a.length with hlt | hge
   ·rw [if_pos (af (by omega)), if_pos (cZ hlt), if_pos (cZ (by omega)), ah, dq (d := (0 : Int)) hlt, dq (l := b) (d := (0 : Int)) (by omega)]
    by_cases e : a.getD i 0 = b.getD i 0
    ·rw [if_neg (fun h => ak.1 h e), dd (by omega), e]
     refine hF _ _ ⟨i + 1, rfl, by omega, by omega, ?_⟩
     simp only [bz, true_and]
    ·rw [if_pos (ak.2 e), if_neg (fun h => e (List.cons.inj h).1)]
   ·have : i = a.length := by omega
    subst this
    rw [if_neg (by simp), aD, hl, aD]
    rfl
 ·rw [if_pos (show ((a.length : Int) != (b.length : Int)) = true from ak.2 (fun h => hl (Int.ofNat.inj h))), bw (fun h => hl (by rw [h]))]
theorem aaV (n : Nat) (hn : n < 1000000) (l : List Int) (p : Int) (hl : l.length < n) : zh n l p = some (l.contains p) := by
 unfold zh zg
 have := dA (S := fun F => (C_ q_) (tF n F)) (fun f x r => ∃ i : Nat, x = (l, p, (i : Int)) ∧ i ≤ l.length ∧ l.length < f + i ∧ r = if (l.drop i).contains p = true then .inl ((true, ()), ()) else .inr ((), ())) (fun x r ⟨i, _, h1, h2, _⟩ => by omega) (fun f x F hF r => ?_) n (l, p, 0) _ ⟨0, rfl, ai _, by omega, rfl⟩
 ·rw [this, aT]
  cases h : l.contains p <;> rfl
 ·rintro ⟨i, rfl, h1, h2, rfl⟩
  show tF n F l p (i : Int) = _
  unfold tF
  rcases aj i l.length with hlt | hge
  ·rw [if_pos (af (by omega)), if_pos (cZ hlt), ah, dd (by omega), dq (d := (0 : Int)) hlt, List.contains_cons]
   by_cases e : l.getD i 0 = p
   ·rw [if_pos (ag.2 e), e, aY, cv, if_pos rfl]
   ·rw [if_neg (fun h => e (ag.1 h))]
    have e2 : (p == l.getD i 0) = false := by rw [aH]; exact fun h => e h.symm
    rw [e2, bD]
    exact hF _ _ ⟨i + 1, rfl, by omega, by omega, rfl⟩
  ·have : i = l.length := by omega
   subst this
   rw [if_neg (by simp), aD]
   rfl
theorem SO (n : Nat) (t : Tsk) (m : Img) (i : dc) (ho : t.outs.length < n) (hn : n < 1000000) (hb : i.1 = 17 ∨ i.1 = 18 → 0 ≤ i.2.1 ∧ i.2.1 < (m.blocks.length : Int)) : fU n m t i = some (i0 m t i) := by
 unfold fU i0
 by_cases h15 : i.1 = 15
 ·rw [if_pos (ag.2 h15), if_pos h15]
 rw [if_neg (fun h => h15 (ag.1 h)), if_neg h15]
 by_cases h16 : i.1 = 16
 ·rw [if_pos (ag.2 h16), if_pos h16]
  have := aaV n hn t.outs i.2.1 ho
  show ((zh n t.outs i.2.1).bind _) = _
  rw [this]; rfl
 rw [if_neg (fun h => h16 (ag.1 h)), if_neg h16]
 by_cases h17 : i.1 = 17
 ·have := hb (.inl h17)
  rw [if_pos (ag.2 h17), if_pos h17, if_pos (by rw [af this.1, af this.2]; rfl)]
 rw [if_neg (fun h => h17 (ag.1 h)), if_neg h17]
 by_cases h18 : i.1 = 18
 ·have := hb (.inr h18)
  rw [if_pos (ag.2 h18), if_pos h18, if_pos (by rw [af this.1, af this.2]; rfl)]
 rw [if_neg (fun h => h18 (ag.1 h)), if_neg h18]
theorem LZ (n : Nat) (t : Tsk) (m : Img) (hl : t.code.length < n) (ho : t.outs.length < n) (hn : n < 1000000) (hb : ∀ i ∈ t.code, i.1 = 17 ∨ i.1 = 18 → 0 ≤ i.2.1 ∧ i.2.1 < (m.blocks.length : Int)) : rN n (0, m.1, m.2.1, m.2.2.1, m.2.2.2.1, m.2.2.2.2.1, m.2.2.2.2.2.1, m.2.2.2.2.2.2, t.1, t.2.1, t.2.2.1, t.2.2.2.1, t.2.2.2.2.1, t.2.2.2.2.2.1, t.2.2.2.2.2.2) = some (if t.code.all (i0 m t) = true then .inr ((), ((m.1, m.2.1, m.2.2.1, m.2.2.2.1, m.2.2.2.2.1, m.2.2.2.2.2.1, m.2.2.2.2.2.2, ()), (t.1, t.2.1, t.2.2.1, t.2.2.2.1, t.2.2.2.2.1, t.2.2.2.2.2.1, t.2.2.2.2.2.2, ()), ())) else .inl ((12, ()), ((m.1, m.2.1, m.2.2.1, m.2.2.2.1, m.2.2.2.2.1, m.2.2.2.2.2.1, m.2.2.2.2.2.2, ()), (t.1, t.2.1, t.2.2.1, t.2.2.2.1, t.2.2.2.2.1, t.2.2.2.2.2.1, t.2.2.2.2.2.2, ()), ()))) := by
 unfold rN
 refine dA (S := fun F => (fj (dy (C_ q_))) (tG n F))
  (fun f x r => ∃ i : Nat, x = ((i : Int), m.1, m.2.1, m.2.2.1, m.2.2.2.1, m.2.2.2.2.1, m.2.2.2.2.2.1, m.2.2.2.2.2.2, t.1, t.2.1, t.2.2.1, t.2.2.2.1, t.2.2.2.2.1, t.2.2.2.2.2.1, t.2.2.2.2.2.2) ∧ i ≤ t.code.length ∧ t.code.length < f + i ∧ r = if (t.code.drop i).all (i0 m t) = true then .inr ((), ((m.1, m.2.1, m.2.2.1, m.2.2.2.1, m.2.2.2.2.1, m.2.2.2.2.2.1, m.2.2.2.2.2.2, ()), (t.1, t.2.1, t.2.2.1, t.2.2.2.1, t.2.2.2.2.1, t.2.2.2.2.2.1, t.2.2.2.2.2.2, ()), ())) else .inl ((12, ()), ((m.1, m.2.1, m.2.2.1, m.2.2.2.1, m.2.2.2.2.1, m.2.2.2.2.2.1, m.2.2.2.2.2.2, ()), (t.1, t.2.1, t.2.2.1, t.2.2.2.1, t.2.2.2.2.1, t.2.2.2.2.2.1, t.2.2.2.2.2.2, ()), ()))) (fun x r ⟨i, _, h1, h2, _⟩ => by omega) (fun f x F hF r => ?_) n _ _ ⟨0, rfl, ai _, by omega, rfl⟩
 rintro ⟨i, rfl, h1, h2, rfl⟩
 show tG n F (i : Int) m.1 m.2.1 m.2.2.1 m.2.2.2.1 m.2.2.2.2.1 m.2.2.2.2.2.1 m.2.2.2.2.2.2 t.1 t.2.1 t.2.2.1 t.2.2.2.1 t.2.2.2.2.1 t.2.2.2.2.2.1 t.2.2.2.2.2.2 = _
 unfold tG
 rcases aj i t.code.length with hlt | hge
 ·have hm : t.code.getD i (0, 0, 0) ∈ t.code := by rw [ao, au hlt]; exact aL hlt
  rw [if_pos (show decide ((i : Int) < (t.2.2.2.2.2.2.length : Int)) = true from af (by have : t.code.length = t.2.2.2.2.2.2.length := rfl; omega)), if_pos (show (decide (0 ≤ (i : Int)) && decide ((i : Int) < (t.2.2.2.2.2.2.length : Int))) = true from cZ hlt), ah, dd (by omega), dq (d := ((0 : Int), (0 : Int), (0 : Int))) hlt, bN]
  rw [show fU n (m.1, m.2.1, m.2.2.1, m.2.2.2.1, m.2.2.2.2.1, m.2.2.2.2.2.1, m.2.2.2.2.2.2) (t.1, t.2.1, t.2.2.1, t.2.2.2.1, t.2.2.2.2.1, t.2.2.2.2.2.1, t.2.2.2.2.2.2) ((t.2.2.2.2.2.2.getD i (0, 0, 0)).1, (t.2.2.2.2.2.2.getD i (0, 0, 0)).2.1, (t.2.2.2.2.2.2.getD i (0, 0, 0)).2.2) = some (i0 m t (t.code.getD i (0, 0, 0))) from SO n t m _ ho hn (hb _ hm), ab]
  cases hb : i0 m t (t.code.getD i (0, 0, 0)) with
  | false => rfl
  | true =>
   rw [if_neg (by decide), az]
   exact hF _ _ ⟨i + 1, rfl, by omega, by omega, rfl⟩
 ·have : i = t.code.length := by omega
  subst this
  rw [if_neg (by simp), aD]
  rfl
theorem H5 (l : List dc) : ∀ (r i p : Nat), i ≤ p → p < i + r → de l p = 23 → dB l p ∈ fH l r i
 | 0, i, p, h1, h2, h3 => by omega
 | r + 1, i, p, h1, h2, h3 => by
  rw [show fH l (r + 1) i = iZ l i ++ fH l r (i + 1) from rfl, aA]
  by_cases h : i = p
  ·subst h
   left
   unfold iZ
   rw [if_pos h3]
   exact aF
  ·exact .inr (H5 l r (i + 1) p (by omega) (by omega) h3)
theorem O2 {l : List dc} (h : d5 l = 0) {i : Nat} (hi : i < l.length) (ho : de l i = 17 ∨ de l i = 18) : dB l i ∈ fd l := by
 have hb := Do h hi
 unfold iP at hb
 rw [if_neg (by omega), if_pos ho, Bool.not_eq_false'] at hb
 unfold qL at hb
 obtain ⟨k, h1, h2⟩ := anyB_iff.1 hb
 simp only [aq, ag] at h2
 unfold fd
 rw [if_pos h, ← h2.2.2]
 exact H5 l _ _ k (ai _) (by omega) h2.2.1
theorem vG {m : Img} {t : Tsk} (hl : d5 t.code = 0) (hb : fd t.code = t.blocks) (ht : gg m t) : ∀ i ∈ t.code, i.1 = 17 ∨ i.1 = 18 → 0 ≤ i.2.1 ∧ i.2.1 < (m.blocks.length : Int) := by
 intro x hx ho
 obtain ⟨i, hi, e⟩ := ck hx
 have e : t.code.getD i (0, 0, 0) = x := by rw [pX hi, e]
 have h := O2 hl hi (by unfold de; rw [e]; exact ho)
 rw [hb] at h
 have := ht.2.1.mem _ h
 unfold dB at this
 rw [e] at this
 omega
open Classical in
def fg (n : Nat) (m : Img) (i : Int) : Int :=
 if RightP m then
  if i < 0 ∨ i ≥ (m.tasks.length : Int) then 14
  else
   let t := m.tasks.getD i.toNat (0, 0, 0, 0, [], [], [])
   if (eJ bM n t.code).2 ≠ 0 then (eJ bM n t.code).2 else if fd t.code = t.blocks then (if t.code.all (i0 m t) = true then 0 else 12) else 11
 else 12
theorem RightP.task {m : Img} (h : RightP m) {i : Int} (h0 : 0 ≤ i) (h1 : i < (m.tasks.length : Int)) : gg m (m.tasks.getD i.toNat (0, 0, 0, 0, [], [], [])) ∧ m.tasks.getD i.toNat (0, 0, 0, 0, [], [], []) ∈ m.tasks := by
 have hlt : i.toNat < m.tasks.length := by omega
 have hm : m.tasks.getD i.toNat ((0 : Int), (0 : Int), (0 : Int), (0 : Int), ([] : List Int), ([] : List Int), ([] : List dc)) ∈ m.tasks := by rw [ao, au hlt]; exact aL hlt
 exact ⟨(TasksOk.all.1 h.2.2).1 _ hm, hm⟩
theorem F9 (n : Nat) (hn : 200 < n) (hn2 : n < 1000000) (m : Img) (i : Int) : fS n m i = some (fg n m i) := by
 obtain ⟨b, e1, e2⟩ := Ao n hn hn2 m
 unfold fS
 rw [show kg n (m.1, m.2.1, m.2.2.1, m.2.2.2.1, m.2.2.2.2.1, m.2.2.2.2.2.1, m.2.2.2.2.2.2) = some b from e1, ab]
 unfold fg
 cases b with
 | false =>
  rw [if_pos (show (!false) = true from rfl), if_neg (show ¬ RightP m from fun h => by have := e2.2 h; cases this)]
 | true =>
  have hR := e2.1 rfl
  rw [if_pos hR, if_neg (by decide)]
  by_cases h0 : i < 0
  ·rw [if_pos (af h0), if_pos (.inl h0)]
  rw [if_neg (by simpa using h0)]
  by_cases h1 : i ≥ (m.tasks.length : Int)
  ·rw [if_pos (show decide (i ≥ (m.2.2.2.2.2.2.length : Int)) = true from af h1), if_pos (.inr h1)]
  rw [if_neg (show ¬ decide (i ≥ (m.2.2.2.2.2.2.length : Int)) = true from fun h => h1 (ay h)), if_neg (show ¬ (i < 0 ∨ i ≥ (m.tasks.length : Int)) by omega), if_pos (show (decide (0 ≤ i) && decide (i < (m.2.2.2.2.2.2.length : Int))) = true by rw [af (by omega), af (show i < (m.2.2.2.2.2.2.length : Int) from by have : (m.tasks.length : Int) = (m.2.2.2.2.2.2.length : Int) := rfl; omega)]; rfl)]
  obtain ⟨ht, hm⟩ := hR.task (i := i) (by omega) (by omega)
  rw [show m.2.2.2.2.2.2.getD i.toNat (0, 0, 0, 0, [], [], []) = m.tasks.getD i.toNat (0, 0, 0, 0, [], [], []) from rfl]
  generalize m.tasks.getD i.toNat (0, 0, 0, 0, [], [], []) = t at ht ⊢
  have hc : t.code.length < n := by have := ht.2.2.2.2.1; omega
  have hol : t.outs.length < n := by have := ht.2.2.1.len (by omega); have := hR.1.2.2.2.2.1; omega
  have hS : iT n ((t.1, t.2.1, t.2.2.1, t.2.2.2.1, t.2.2.2.2.1, t.2.2.2.2.2.1, t.2.2.2.2.2.2), (m.1, m.2.1, m.2.2.1, m.2.2.2.1, m.2.2.2.2.1, m.2.2.2.2.2.1, m.2.2.2.2.2.2)) = some (eJ bM n t.code).2 := by
   unfold iT
   rw [show gz n (((t.1, t.2.1, t.2.2.1, t.2.2.2.1, t.2.2.2.2.1, t.2.2.2.2.2.1, t.2.2.2.2.2.2), (m.1, m.2.1, m.2.2.1, m.2.2.2.1, m.2.2.2.2.1, m.2.2.2.2.2.1, m.2.2.2.2.2.2)) : Tsk × Img).1.2.2.2.2.2.2 = some (eJ bM n t.code) from Dn n t.code hc (by omega) hn2]
   rfl
  rw [hS, ab]
  dsimp only
  by_cases hz : (eJ bM n t.code).2 ≠ 0
  ·rw [if_pos (ak.2 hz), if_pos hz]
  rw [if_neg (fun h => hz (ak.1 h)), if_neg hz]
  have hlk := (nY (Decidable.not_not.1 hz)).1
  have hB : xx n ((t.1, t.2.1, t.2.2.1, t.2.2.2.1, t.2.2.2.2.1, t.2.2.2.2.2.1, t.2.2.2.2.2.2), (m.1, m.2.1, m.2.2.1, m.2.2.2.1, m.2.2.2.2.1, m.2.2.2.2.2.1, m.2.2.2.2.2.2)) = some (if fd t.code = t.blocks then 0 else 11) := by
   have := SM n t m hc (by omega) hn2
   rw [if_neg (fun h => h hlk)] at this
   exact this
  rw [hB, ab]
  by_cases hb : fd t.code = t.blocks
  ·rw [if_pos hb, if_pos hb, if_neg (by decide)]
   have hN : xE n ((t.1, t.2.1, t.2.2.1, t.2.2.2.1, t.2.2.2.2.1, t.2.2.2.2.2.1, t.2.2.2.2.2.2), (m.1, m.2.1, m.2.2.1, m.2.2.2.1, m.2.2.2.2.1, m.2.2.2.2.2.1, m.2.2.2.2.2.2)) = _ := VV n t m hc hol hn2 (vG hlk hb ht)
   rw [hN, ab]
   cases t.code.all (i0 m t) <;> rfl
  ·rw [if_neg hb, if_neg hb]
   rfl
theorem sr (n : Nat) (hn : 7000 < n) (hn2 : n < 1000000) (m : Img) (i : Int) (hL : jK m) (hi : ∀ t ∈ m.tasks, InR t.code) : ni n m i = some (fg n m i) := by
 obtain ⟨b, e1, e2⟩ := qR n hn hn2 m hL hi
 unfold ni
 rw [show uY n (m.1, m.2.1, m.2.2.1, m.2.2.2.1, m.2.2.2.2.1, m.2.2.2.2.2.1, m.2.2.2.2.2.2) = some b from e1, ab]
 unfold fg
 cases b with
 | false =>
  rw [if_pos (show (!false) = true from rfl), if_neg (show ¬ RightP m from fun h => by have := e2.2 h; cases this)]
 | true =>
  have hR := e2.1 rfl
  rw [if_pos hR, if_neg (by decide)]
  by_cases h0 : i < 0
  ·rw [if_pos (af h0), if_pos (.inl h0)]
  rw [if_neg (by simpa using h0)]
  by_cases h1 : i ≥ (m.tasks.length : Int)
  ·rw [if_pos (show decide (i ≥ (m.2.2.2.2.2.2.length : Int)) = true from af h1), if_pos (.inr h1)]
  rw [if_neg (show ¬ decide (i ≥ (m.2.2.2.2.2.2.length : Int)) = true from fun h => h1 (ay h)), if_neg (show ¬ (i < 0 ∨ i ≥ (m.tasks.length : Int)) by omega), if_pos (show (decide (0 ≤ i) && decide (i < (m.2.2.2.2.2.2.length : Int))) = true by rw [af (by omega), af (show i < (m.2.2.2.2.2.2.length : Int) from by have : (m.tasks.length : Int) = (m.2.2.2.2.2.2.length : Int) := rfl; omega)]; rfl)]
  obtain ⟨ht, hm⟩ := hR.task (i := i) (by omega) (by omega)
  rw [show m.2.2.2.2.2.2.getD i.toNat (0, 0, 0, 0, [], [], []) = m.tasks.getD i.toNat (0, 0, 0, 0, [], [], []) from rfl]
  generalize m.tasks.getD i.toNat (0, 0, 0, 0, [], [], []) = t at ht hm ⊢
  have hc : t.code.length < n := by have := ht.2.2.2.2.1; omega
  have hol : t.outs.length < n := by have := ht.2.2.1.len (by omega); have := hR.1.2.2.2.2.1; omega
  rw [show eo n t.2.2.2.2.2.2 = some (eJ bM n t.code) from qO n t.code (hi t hm) hc (by omega) hn2, ab]
  dsimp only
  by_cases hz : (eJ bM n t.code).2 ≠ 0
  ·rw [if_pos (ak.2 hz), if_pos hz]
  rw [if_neg (fun h => hz (ak.1 h)), if_neg hz]
  have hlk := (nY (Decidable.not_not.1 hz)).1
  rw [show qH n t.2.2.2.2.2.2 = some (fd t.code, d5 t.code) from vF n t.code (hi t hm) hc hn2, ab]
  rw [show qD n ((fd t.code, d5 t.code) : List Int × Int).1 t.2.2.2.2.1 = _ from Ap n hn2 (fd t.code) t.blocks (by have := HY t.code; omega), ab]
  by_cases hb : fd t.code = t.blocks
  ·rw [if_pos hb, af hb, if_neg (by decide), LZ n t m hc hol hn2 (vG hlk hb ht), ab]
   cases t.code.all (i0 m t) <;> rfl
  ·rw [if_neg hb, bw hb]
   rfl
theorem O3 (n : Nat) (hn : n < 1000000) (m : Img) (hT : m.tasks.length < n) : yy n m = some m := by
 unfold yy yx
 have := dA (S := fun F => (i9 (dy q_)) (tp n F))
  (fun f x r => ∃ i : Nat, x = ((i : Int), m.1, m.2.1, m.2.2.1, m.2.2.2.1, m.2.2.2.2.1, m.2.2.2.2.2.1, m.2.2.2.2.2.2, 0, 0, 0, 0, [], [], [], m.1, m.2.1, m.2.2.1, m.2.2.2.1, m.2.2.2.2.1, m.2.2.2.2.2.1, m.tasks.take i) ∧ i ≤ m.tasks.length ∧ m.tasks.length < f + i ∧ r = (m.1, m.2.1, m.2.2.1, m.2.2.2.1, m.2.2.2.2.1, m.2.2.2.2.2.1, m.2.2.2.2.2.2, 0, 0, 0, 0, [], [], [], m.1, m.2.1, m.2.2.1, m.2.2.2.1, m.2.2.2.2.1, m.2.2.2.2.2.1, m.tasks)) (fun x r ⟨i, _, h1, h2, _⟩ => by omega) (fun f x F hF r => ?_) n (0, m.1, m.2.1, m.2.2.1, m.2.2.2.1, m.2.2.2.2.1, m.2.2.2.2.2.1, m.2.2.2.2.2.2, 0, 0, 0, 0, [], [], [], m.1, m.2.1, m.2.2.1, m.2.2.2.1, m.2.2.2.2.1, m.2.2.2.2.2.1, []) _ ⟨0, rfl, ai _, by omega, rfl⟩
 ·rw [this]; rfl
 rintro ⟨i, rfl, h1, h2, rfl⟩
 show tp n F (i : Int) m.1 m.2.1 m.2.2.1 m.2.2.2.1 m.2.2.2.2.1 m.2.2.2.2.2.1 m.2.2.2.2.2.2 0 0 0 0 [] [] [] m.1 m.2.1 m.2.2.1 m.2.2.2.1 m.2.2.2.2.1 m.2.2.2.2.2.1 (m.tasks.take i) = _
 unfold tp
 rcases aj i m.tasks.length with hlt | hge
 ·rw [if_pos (show decide ((i : Int) < (m.2.2.2.2.2.2.length : Int)) = true from af (by exact_mod_cast hlt)), if_pos (show (decide (0 ≤ (i : Int)) && decide ((i : Int) < (m.2.2.2.2.2.2.length : Int))) = true from cZ hlt), ah, dd (by omega)]
  have hl : (m.tasks.take i).length = i := by rw [bX]; omega
  rw [if_pos (by rw [af (by omega), af (by omega)]; rfl)]
  refine hF _ _ ⟨i + 1, ?_, by omega, by omega, rfl⟩
  have e : m.tasks.take i ++ [m.tasks.getD i (0, 0, 0, 0, [], [], [])] = m.tasks.take (i + 1) := by
   rw [cj, ao, au hlt]
   rfl
  rw [← e]
 ·have : i = m.tasks.length := by omega
  subst this
  rw [if_neg (by simp), cy]
def fm (k : Nat) : Int := if (100 : Int) < (k : Int) then 100 else (k : Int)
def eW (k : Nat) : Int := if (10000 : Int) < (k : Int) then 10000 else (k : Int)
theorem ml (k : Nat) : 0 ≤ fm k ∧ fm k ≤ 100 := by unfold fm; split <;> omega
theorem ss (k : Nat) : 0 ≤ eW k ∧ eW k ≤ 10000 := by unfold eW; split <;> omega
def lB (a : Int) (l : List (List Int)) : Int := l.foldl (fun a b => a + fm b.length) a
def oU (a : Int) (l : List Tsk) : Int := l.foldl (fun a t => a + fm t.blocks.length + fm t.outs.length + (eW t.code.length).tdiv 20) a
theorem H6 : ∀ {l : List (List Int)} {a : Int}, a ≤ lB a l ∧ lB a l ≤ a + 100 * l.length
 | [], a => by simp [lB]
 | b :: l, a => by
  have := H6 (l := l) (a := a + fm b.length)
  have := ml b.length
  rw [show lB a (b :: l) = lB (a + fm b.length) l from rfl, aI]
  omega
theorem H7 : ∀ {l : List Tsk} {a : Int}, a ≤ oU a l ∧ ∀ t ∈ l, a + (eW t.code.length).tdiv 20 ≤ oU a l
 | [], a => by simp [oU]
 | t :: l, a => by
  obtain ⟨h1, h2⟩ := H7 (l := l) (a := a + fm t.blocks.length + fm t.outs.length + (eW t.code.length).tdiv 20)
  have h3 := ml t.blocks.length
  have h4 := ml t.outs.length
  have h5 := ss t.code.length
  have h6 : (eW t.code.length).tdiv 20 = eW t.code.length / 20 := b9 h5.1
  rw [show oU a (t :: l) = oU (a + fm t.blocks.length + fm t.outs.length + (eW t.code.length).tdiv 20) l from rfl, cK]
  refine ⟨by omega, by omega, fun u hu => ?_⟩
  have := h2 u hu
  omega
theorem SP (n : Nat) (hn : n < 1000000) (m : Img) (hT : m.blocks.length < n) (a : Int) (ha : 0 ≤ a ∧ a ≤ 80) : uP n (a, 0, m.1, m.2.1, m.2.2.1, m.2.2.2.1, m.2.2.2.2.1, m.2.2.2.2.2.1, m.2.2.2.2.2.2) = some (lB a m.blocks, m.1, m.2.1, m.2.2.1, m.2.2.2.1, m.2.2.2.2.1, m.2.2.2.2.2.1, m.2.2.2.2.2.2) := by
 unfold uP
 refine dA (S := fun F => (dy (dk (C_ q_))) (wK n F))
  (fun f x r => ∃ (i : Nat) (b : Int), x = (b, (i : Int), m.1, m.2.1, m.2.2.1, m.2.2.2.1, m.2.2.2.2.1, m.2.2.2.2.2.1, m.2.2.2.2.2.2) ∧ i ≤ m.blocks.length ∧ m.blocks.length < f + i ∧ (0 ≤ b ∧ b ≤ 80 + 100 * i) ∧ r = (lB b (m.blocks.drop i), m.1, m.2.1, m.2.2.1, m.2.2.2.1, m.2.2.2.2.1, m.2.2.2.2.2.1, m.2.2.2.2.2.2)) (fun x r ⟨i, b, _, h1, h2, _⟩ => by omega) (fun f x F hF r => ?_) n _ _ ⟨0, a, rfl, ai _, by omega, by omega, rfl⟩
 rintro ⟨i, b, rfl, h1, h2, hb, rfl⟩
 show wK n F b (i : Int) m.1 m.2.1 m.2.2.1 m.2.2.2.1 m.2.2.2.2.1 m.2.2.2.2.2.1 m.2.2.2.2.2.2 = _
 unfold wK
 rcases aj i m.blocks.length with hlt | hge
 ·rw [if_pos (show decide ((i : Int) < (m.2.2.2.2.2.1.length : Int)) = true from af (by exact_mod_cast hlt)), if_pos (show (decide (0 ≤ (i : Int)) && decide ((i : Int) < (m.2.2.2.2.2.1.length : Int))) = true from cZ hlt), ah, dd (by omega), dq (d := ([] : List Int)) hlt]
  have hc := ml (m.blocks.getD i []).length
  show F (wrap .i64 (b + fm (m.blocks.getD i []).length), _) = _
  rw [dn (show -9223372036854775808 ≤ b + fm (m.blocks.getD i []).length by omega) (show b + fm (m.blocks.getD i []).length ≤ 9223372036854775807 by omega)]
  exact hF _ _ ⟨i + 1, _, rfl, by omega, by omega, by omega, rfl⟩
 ·have : i = m.blocks.length := by omega
  subst this
  rw [if_neg (by simp), aD]
  rfl
theorem SQ (n : Nat) (hn : n < 1000000) (m : Img) (hT : m.tasks.length < n) (hB : m.blocks.length < n) (a : Int) (ha : 0 ≤ a ∧ a ≤ 80 + 100 * m.blocks.length) : qk n (a, 0, m.1, m.2.1, m.2.2.1, m.2.2.2.1, m.2.2.2.2.1, m.2.2.2.2.2.1, m.2.2.2.2.2.2) = some (oU a m.tasks, m.1, m.2.1, m.2.2.1, m.2.2.2.1, m.2.2.2.2.1, m.2.2.2.2.2.1, m.2.2.2.2.2.2) := by
 unfold qk
 refine dA (S := fun F => (dy (dk (C_ q_))) (wL n F))
  (fun f x r => ∃ (i : Nat) (b : Int), x = (b, (i : Int), m.1, m.2.1, m.2.2.1, m.2.2.2.1, m.2.2.2.2.1, m.2.2.2.2.2.1, m.2.2.2.2.2.2) ∧ i ≤ m.tasks.length ∧ m.tasks.length < f + i ∧ (0 ≤ b ∧ b ≤ 80 + 100 * m.blocks.length + 700 * i) ∧ r = (oU b (m.tasks.drop i), m.1, m.2.1, m.2.2.1, m.2.2.2.1, m.2.2.2.2.1, m.2.2.2.2.2.1, m.2.2.2.2.2.2)) (fun x r ⟨i, b, _, h1, h2, _⟩ => by omega) (fun f x F hF r => ?_) n _ _ ⟨0, a, rfl, ai _, by omega, by omega, rfl⟩
 rintro ⟨i, b, rfl, h1, h2, hb, rfl⟩
 show wL n F b (i : Int) m.1 m.2.1 m.2.2.1 m.2.2.2.1 m.2.2.2.2.1 m.2.2.2.2.2.1 m.2.2.2.2.2.2 = _
 unfold wL
 rcases aj i m.tasks.length with hlt | hge
 ·rw [if_pos (show decide ((i : Int) < (m.2.2.2.2.2.2.length : Int)) = true from af (by exact_mod_cast hlt)), if_pos (show (decide (0 ≤ (i : Int)) && decide ((i : Int) < (m.2.2.2.2.2.2.length : Int))) = true from cZ hlt), ah, dd (by omega), dq (d := ((0 : Int), (0 : Int), (0 : Int), (0 : Int), ([] : List Int), ([] : List Int), ([] : List dc))) hlt]
  rw [show m.2.2.2.2.2.2.getD i (0, 0, 0, 0, [], [], []) = m.tasks.getD i (0, 0, 0, 0, [], [], []) from rfl]
  generalize m.tasks.getD i (0, 0, 0, 0, [], [], []) = t
  have h3 := ml t.blocks.length
  have h4 := ml t.outs.length
  have h5 := ss t.code.length
  have h6 : (eW t.code.length).tdiv 20 = eW t.code.length / 20 := b9 h5.1
  show F (wrap .i64 (wrap .i64 (wrap .i64 (b + fm t.blocks.length) + fm t.outs.length) + wrap .i64 ((eW t.code.length).tdiv 20)), _) = _
  rw [dn (e := (eW t.code.length).tdiv 20) (by omega) (by omega), dn (e := b + fm t.blocks.length) (by omega) (by omega), dn (e := b + fm t.blocks.length + fm t.outs.length) (by omega) (by omega), dn (e := b + fm t.blocks.length + fm t.outs.length + (eW t.code.length).tdiv 20) (by omega) (by omega)]
  exact hF _ _ ⟨i + 1, _, rfl, by omega, by omega, by omega, rfl⟩
 ·have : i = m.tasks.length := by omega
  subst this
  rw [if_neg (by simp), aD]
  rfl
theorem VW (n : Nat) (hn0 : 200 < n) (hn : n < 1000000) (m : Img) (hs : m.safe.length < 9000000000000000 ∧ m.blocks.length < 9000000000000000 ∧ m.tasks.length < 9000000000000000) : pC n m = some 0 ∨ (pC n m = some 1 ∧ jK m) := by
 unfold pC
 have e : wrap .i64 (wrap .i64 ((m.safe.length : Int) + (m.blocks.length : Int)) + (m.tasks.length : Int)) = (m.safe.length : Int) + (m.blocks.length : Int) + (m.tasks.length : Int) := by
  rw [dn (e := (m.safe.length : Int) + (m.blocks.length : Int)) (by omega) (by omega), dn (by omega) (by omega)]
 rw [show wrap .i64 (wrap .i64 ((m.2.2.2.2.1.length : Int) + (m.2.2.2.2.2.1.length : Int)) + (m.2.2.2.2.2.2.length : Int)) = (m.safe.length : Int) + (m.blocks.length : Int) + (m.tasks.length : Int) from e]
 by_cases h : (m.safe.length : Int) + (m.blocks.length : Int) + (m.tasks.length : Int) > 80
 ·rw [if_pos (af h)]
  exact .inl rfl
 rw [if_neg (by simpa using h), SP n hn m (by omega) _ (by omega), ab]
 obtain ⟨hB1, hB2⟩ := H6 (l := m.blocks) (a := (m.safe.length : Int) + (m.blocks.length : Int) + (m.tasks.length : Int))
 rw [show qk n _ = _ from SQ n hn m (by omega) (by omega) (lB ((m.safe.length : Int) + (m.blocks.length : Int) + (m.tasks.length : Int)) m.blocks) (by omega), ab]
 dsimp only
 obtain ⟨hT1, hT2⟩ := H7 (l := m.tasks) (a := lB ((m.safe.length : Int) + (m.blocks.length : Int) + (m.tasks.length : Int)) m.blocks)
 split
 ·exact .inl rfl
 ·rename_i h2
  have h2 : oU (lB ((m.safe.length : Int) + (m.blocks.length : Int) + (m.tasks.length : Int)) m.blocks) m.tasks ≤ 200 := by simpa using h2
  refine .inr ⟨rfl, by omega, fun t ht => ?_⟩
  have h3 := hT2 t ht
  have h5 := ss t.code.length
  have h6 : (eW t.code.length).tdiv 20 = eW t.code.length / 20 := b9 h5.1
  have h7 : eW t.code.length ≤ 4019 := by omega
  unfold eW at h7
  split at h7 <;> omega
abbrev dI (m : Img) (i : Int) : Tsk := m.tasks.getD i.toNat (0, 0, 0, 0, [], [], [])
theorem kM {n : Nat} {m : Img} {i : Int} (h : fg n m i = 0) : RightP m ∧ (0 ≤ i ∧ i < (m.tasks.length : Int)) ∧ (eJ bM n (dI m i).code).2 = 0 ∧ fd (dI m i).code = (dI m i).blocks ∧ (dI m i).code.all (i0 m (dI m i)) = true := by
 unfold fg at h
 split at h
 ·rename_i hR
  split at h
  ·cases h
  ·dsimp only at h
   split at h
   ·rename_i h1
    exact absurd h h1
   ·rename_i h1
    split at h
    ·rename_i h2
     split at h
     ·rename_i h3
      exact ⟨hR, by omega, Decidable.not_not.1 h1, h2, h3⟩
     ·cases h
    ·cases h
 ·cases h
def kz (n : Nat) (m : Img) (i : Int) : Int × Int :=
 if fg n m i ≠ 0 then (0, fg n m i) else ((eJ bM n (dI m i).code).1 + 2 * m.1 + m.2.1 + m.2.2.1, 0)
def kN (n : Nat) (m : Img) (i : Int) : List Int × Int :=
 if fg n m i ≠ 0 then ([], fg n m i) else ((jX n (dI m i).code).1.map Prod.snd, 0)
theorem nZ {i : Int} {k : Nat} (h0 : 0 ≤ i) (h1 : i < (k : Int)) : (decide (0 ≤ i) && decide (i < (k : Int))) = true := by rw [af h0, af h1]; rfl
theorem VX (n : Nat) (hn : 200 < n) (hn2 : n < 1000000) (m : Img) (i : Int) : jH n m i = some (kz n m i) := by
 unfold jH kz
 rw [show fS n (m.1, m.2.1, m.2.2.1, m.2.2.2.1, m.2.2.2.2.1, m.2.2.2.2.2.1, m.2.2.2.2.2.2) i = _ from F9 n hn hn2 m i, ab]
 by_cases h : fg n m i ≠ 0
 ·rw [if_pos (ak.2 h), if_pos h]
 rw [if_neg (fun k => h (ak.1 k)), if_neg h]
 obtain ⟨hR, ⟨h0, h1⟩, h2, h3, h4⟩ := kM (Decidable.not_not.1 h)
 obtain ⟨ht, hm⟩ := hR.task h0 h1
 have hc : (dI m i).code.length < n := cI ht.2.2.2.2.1 (by omega)
 rw [if_pos (show (decide (0 ≤ i) && decide (i < (m.2.2.2.2.2.2.length : Int))) = true from nZ h0 h1)]
 rw [show gz n (m.2.2.2.2.2.2.getD i.toNat (0, 0, 0, 0, [], [], [])).2.2.2.2.2.2 = _ from Dn n (dI m i).code hc (by omega) hn2, ab]
 try dsimp only
 obtain ⟨_, a1, a2, _, a3⟩ := qQ n _ h2
 obtain ⟨n1, n2, n3, _⟩ := hR.1
 rw [h2, dn (e := m.1 + m.2.1) (by omega) (by omega), dn (e := m.1 + m.2.1 + (eJ bM n (dI m i).code).1) (by omega) (by omega), dn (e := m.1 + m.2.1 + (eJ bM n (dI m i).code).1 + m.2.2.1) (by omega) (by omega), dn (by omega) (by omega)]
 congr 2
 omega
theorem Lc (n : Nat) (hn : 7000 < n) (hn2 : n < 1000000) (m : Img) (i : Int) (hL : jK m) (hi : ∀ t ∈ m.tasks, InR t.code) : fE n m i = some (kz n m i) := by
 unfold fE kz
 rw [show ni n (m.1, m.2.1, m.2.2.1, m.2.2.2.1, m.2.2.2.2.1, m.2.2.2.2.2.1, m.2.2.2.2.2.2) i = _ from sr n hn hn2 m i hL hi, ab]
 by_cases h : fg n m i ≠ 0
 ·rw [if_pos (ak.2 h), if_pos h]
 rw [if_neg (fun k => h (ak.1 k)), if_neg h]
 obtain ⟨hR, ⟨h0, h1⟩, h2, h3, h4⟩ := kM (Decidable.not_not.1 h)
 obtain ⟨ht, hm⟩ := hR.task h0 h1
 have hc : (dI m i).code.length < n := cI ht.2.2.2.2.1 (by omega)
 rw [if_pos (show (decide (0 ≤ i) && decide (i < (m.2.2.2.2.2.2.length : Int))) = true from nZ h0 h1)]
 rw [show eo n (m.2.2.2.2.2.2.getD i.toNat (0, 0, 0, 0, [], [], [])).2.2.2.2.2.2 = _ from qO n (dI m i).code (hi _ hm) hc (by omega) hn2, ab]
 try dsimp only
 obtain ⟨_, a1, a2, _, a3⟩ := qQ n _ h2
 obtain ⟨n1, n2, n3, _⟩ := hR.1
 rw [dn (e := 2 * m.1) (by omega) (by omega), dn (e := (eJ bM n (dI m i).code).1 + 2 * m.1) (by omega) (by omega), dn (e := (eJ bM n (dI m i).code).1 + 2 * m.1 + m.2.1) (by omega) (by omega), dn (by omega) (by omega)]
theorem VY (n : Nat) (hn : n < 1000000) (e : Int) (s : List (Int × Int)) (hs : s.length < n) : iU n (e, [], s, (s.length : Int), 0) = some (e, s.map Prod.snd) := by
 unfold iU
 refine dA (S := fun F => (dk (C_ q_)) (iE n F))
  (fun f x r => ∃ i : Nat, x = (e, (s.take i).map Prod.snd, s, (s.length : Int), (i : Int)) ∧ i ≤ s.length ∧ s.length < f + i ∧ r = (e, s.map Prod.snd)) (fun x r ⟨i, _, h1, h2, _⟩ => by omega) (fun f x F hF r => ?_) n _ _ ⟨0, rfl, ai _, by omega, rfl⟩
 rintro ⟨i, rfl, h1, h2, rfl⟩
 show iE n F e ((s.take i).map Prod.snd) s (s.length : Int) (i : Int) = _
 unfold iE
 rcases aj i s.length with hlt | hge
 ·have hl : ((s.take i).map Prod.snd).length = i := by rw [aO, bX]; omega
  rw [if_pos (af (by omega)), if_pos (cZ hlt), if_pos (by rw [af (by omega), af (by omega)]; rfl), ah, dd (by omega)]
  refine hF _ _ ⟨i + 1, ?_, by omega, by omega, rfl⟩
  have e : (s.take i).map Prod.snd ++ [(s.getD i (0, 0)).2] = (s.take (i + 1)).map Prod.snd := by
   rw [cj, ao, au hlt, bR]
   rfl
  rw [← e]
 ·have : i = s.length := by omega
  subst this
  rw [if_neg (by simp), cy]
theorem L0 (n : Nat) (hn : n < 1000000) (s : List (Int × Int)) (hs : s.length < n) : rO n (s, [], 0) = some (s.map Prod.snd) := by
 unfold rO
 refine dA (S := fun F => (C_ q_) (tI n F))
  (fun f x r => ∃ i : Nat, x = (s, (s.take i).map Prod.snd, (i : Int)) ∧ i ≤ s.length ∧ s.length < f + i ∧ r = s.map Prod.snd) (fun x r ⟨i, _, h1, h2, _⟩ => by omega) (fun f x F hF r => ?_) n _ _ ⟨0, rfl, ai _, by omega, rfl⟩
 rintro ⟨i, rfl, h1, h2, rfl⟩
 show tI n F s ((s.take i).map Prod.snd) (i : Int) = _
 unfold tI
 rcases aj i s.length with hlt | hge
 ·have hl : ((s.take i).map Prod.snd).length = i := by rw [aO, bX]; omega
  rw [if_pos (af (by omega)), if_pos (cZ hlt), if_pos (by rw [af (by omega), af (by omega)]; rfl), ah, dd (by omega)]
  refine hF _ _ ⟨i + 1, ?_, by omega, by omega, rfl⟩
  have e : (s.take i).map Prod.snd ++ [(s.getD i (0, 0)).2] = (s.take (i + 1)).map Prod.snd := by
   rw [cj, ao, au hlt, bR]
   rfl
  rw [← e]
 ·have : i = s.length := by omega
  subst this
  rw [if_neg (by simp), cy]
theorem SR {n : Nat} {l : List dc} (h : (eJ bM n l).2 = 0) : (jX n l).2 = 0 := by
 unfold jX
 rw [if_neg (fun k => k h)]
theorem H8 : ∀ {l : List dc} {m : List Int} {n : Nat} (r i : Nat), (gt l m n r i).length ≤ r
 | l, m, n, 0, i => by simp [gt]
 | l, m, n, r + 1, i => by
  have := H8 (l := l) (m := m) (n := n) r (i + 1)
  unfold gt
  rw [aJ]
  split <;> simp <;> omega
theorem E1 (n : Nat) (l : List dc) : (jX n l).1.length ≤ l.length := by
 unfold jX
 split
 ·simp
 ·exact H8 _ _
theorem SS (n : Nat) (hn : 200 < n) (hn2 : n < 1000000) (m : Img) (i : Int) : jg n m i = some (kN n m i) := by
 unfold jg kN
 rw [show fS n (m.1, m.2.1, m.2.2.1, m.2.2.2.1, m.2.2.2.2.1, m.2.2.2.2.2.1, m.2.2.2.2.2.2) i = _ from F9 n hn hn2 m i, ab]
 by_cases h : fg n m i ≠ 0
 ·rw [if_pos (ak.2 h), if_pos h]
 rw [if_neg (fun k => h (ak.1 k)), if_neg h]
 obtain ⟨hR, ⟨h0, h1⟩, h2, h3, h4⟩ := kM (Decidable.not_not.1 h)
 obtain ⟨ht, hm⟩ := hR.task h0 h1
 have hc : (dI m i).code.length < n := cI ht.2.2.2.2.1 (by omega)
 have hsl := E1 n (dI m i).code
 rw [if_pos (show (decide (0 ≤ i) && decide (i < (m.2.2.2.2.2.2.length : Int))) = true from nZ h0 h1)]
 rw [show iD n (m.2.2.2.2.2.2.getD i.toNat (0, 0, 0, 0, [], [], [])).2.2.2.2.2.2 = _ from LW n (dI m i).code hc (by omega) hn2, ab, VY n hn2 _ _ (by omega), ab, SR h2]
theorem IH (n : Nat) (hn : 7000 < n) (hn2 : n < 1000000) (m : Img) (i : Int) (hL : jK m) (hi : ∀ t ∈ m.tasks, InR t.code) : zp n m i = some (kN n m i) := by
 unfold zp kN
 rw [show ni n (m.1, m.2.1, m.2.2.1, m.2.2.2.1, m.2.2.2.2.1, m.2.2.2.2.2.1, m.2.2.2.2.2.2) i = _ from sr n hn hn2 m i hL hi, ab]
 by_cases h : fg n m i ≠ 0
 ·rw [if_pos (ak.2 h), if_pos h]
 rw [if_neg (fun k => h (ak.1 k)), if_neg h]
 obtain ⟨hR, ⟨h0, h1⟩, h2, h3, h4⟩ := kM (Decidable.not_not.1 h)
 obtain ⟨ht, hm⟩ := hR.task h0 h1
 have hc : (dI m i).code.length < n := cI ht.2.2.2.2.1 (by omega)
 have hsl := E1 n (dI m i).code
 rw [if_pos (show (decide (0 ≤ i) && decide (i < (m.2.2.2.2.2.2.length : Int))) = true from nZ h0 h1)]
 rw [show zn n (m.2.2.2.2.2.2.getD i.toNat (0, 0, 0, 0, [], [], [])).2.2.2.2.2.2 = _ from EY n (dI m i).code (hi _ hm) hc (by omega) hn2, ab, L0 n hn2 _ (by omega), ab]
def ju (e : Nat → Int) : Nat → Nat → Option (Int × Int)
 | 0, i => none
 | r + 1, i => if e i ≠ 0 then some ((i : Int), e i) else ju e r (i + 1)
open Classical in
def fG (n : Nat) (m : Img) : Int × Int :=
 if RightP m then (ju (fun i => fg n m (i : Int)) m.tasks.length 0).getD (-1, 0) else (-1, 12)
theorem VZ (n : Nat) (hn : 200 < n) (hn2 : n < 1000000) (m : Img) (hT : m.tasks.length < n) : je n ((m.tasks.length : Int), 0, m.1, m.2.1, m.2.2.1, m.2.2.2.1, m.2.2.2.2.1, m.2.2.2.2.2.1, m.2.2.2.2.2.2) = some (match ju (fun i => fg n m (i : Int)) m.tasks.length 0 with | some p => .inl ((p.1, p.2, ()), ((m.1, m.2.1, m.2.2.1, m.2.2.2.1, m.2.2.2.2.1, m.2.2.2.2.2.1, m.2.2.2.2.2.2, ()), ())) | none => .inr ((), ((m.1, m.2.1, m.2.2.1, m.2.2.2.1, m.2.2.2.2.1, m.2.2.2.2.2.1, m.2.2.2.2.2.2, ()), ()))) := by
 unfold je
 refine dA (S := fun F => (dy (dk (C_ q_))) (kh n F))
  (fun f x r => ∃ (i : Nat), x = ((m.tasks.length : Int), (i : Int), m.1, m.2.1, m.2.2.1, m.2.2.2.1, m.2.2.2.2.1, m.2.2.2.2.2.1, m.2.2.2.2.2.2) ∧ i ≤ m.tasks.length ∧ m.tasks.length < f + i ∧ r = (match ju (fun i => fg n m (i : Int)) (m.tasks.length - i) i with | some p => .inl ((p.1, p.2, ()), ((m.1, m.2.1, m.2.2.1, m.2.2.2.1, m.2.2.2.2.1, m.2.2.2.2.2.1, m.2.2.2.2.2.2, ()), ())) | none => .inr ((), ((m.1, m.2.1, m.2.2.1, m.2.2.2.1, m.2.2.2.2.1, m.2.2.2.2.2.1, m.2.2.2.2.2.2, ()), ())))) (fun x r ⟨i, _, h1, h2, _⟩ => by omega) (fun f x F hF r => ?_) n _ _ ⟨0, rfl, ai _, by omega, rfl⟩
 rintro ⟨i, rfl, h1, h2, rfl⟩
 show kh n F (m.tasks.length : Int) (i : Int) m.1 m.2.1 m.2.2.1 m.2.2.2.1 m.2.2.2.2.1 m.2.2.2.2.2.1 m.2.2.2.2.2.2 = _
 unfold kh
 rcases aj i m.tasks.length with hlt | hge
 ·rw [if_pos (af (by omega)), show fS n (m.1, m.2.1, m.2.2.1, m.2.2.2.1, m.2.2.2.2.1, m.2.2.2.2.2.1, m.2.2.2.2.2.2) (i : Int) = _ from F9 n hn hn2 m i, ab, show m.tasks.length - i = (m.tasks.length - (i + 1)) + 1 by omega]
  unfold ju
  try dsimp only
  by_cases h : fg n m (i : Int) ≠ 0
  ·rw [if_pos (ak.2 h), if_pos h]
  ·rw [if_neg (fun k => h (ak.1 k)), if_neg h, dd (by omega)]
   exact hF _ _ ⟨i + 1, rfl, by omega, by omega, rfl⟩
 ·have : i = m.tasks.length := by omega
  subst this
  rw [if_neg (by simp), aU]
  rfl
theorem L1 (n : Nat) (hn : 7000 < n) (hn2 : n < 1000000) (m : Img) (hT : m.tasks.length < n) (hL : jK m) (hi : ∀ t ∈ m.tasks, InR t.code) : oQ n (0, m.1, m.2.1, m.2.2.1, m.2.2.2.1, m.2.2.2.2.1, m.2.2.2.2.2.1, m.2.2.2.2.2.2) = some (match ju (fun i => fg n m (i : Int)) m.tasks.length 0 with | some p => .inl ((p.1, p.2, ()), ((m.1, m.2.1, m.2.2.1, m.2.2.2.1, m.2.2.2.2.1, m.2.2.2.2.2.1, m.2.2.2.2.2.2, ()), ())) | none => .inr ((), ((m.1, m.2.1, m.2.2.1, m.2.2.2.1, m.2.2.2.2.1, m.2.2.2.2.2.1, m.2.2.2.2.2.2, ()), ()))) := by
 unfold oQ
 refine dA (S := fun F => (dy (dk q_)) (tH n F))
  (fun f x r => ∃ (i : Nat), x = ((i : Int), m.1, m.2.1, m.2.2.1, m.2.2.2.1, m.2.2.2.2.1, m.2.2.2.2.2.1, m.2.2.2.2.2.2) ∧ i ≤ m.tasks.length ∧ m.tasks.length < f + i ∧ r = (match ju (fun i => fg n m (i : Int)) (m.tasks.length - i) i with | some p => .inl ((p.1, p.2, ()), ((m.1, m.2.1, m.2.2.1, m.2.2.2.1, m.2.2.2.2.1, m.2.2.2.2.2.1, m.2.2.2.2.2.2, ()), ())) | none => .inr ((), ((m.1, m.2.1, m.2.2.1, m.2.2.2.1, m.2.2.2.2.1, m.2.2.2.2.2.1, m.2.2.2.2.2.2, ()), ())))) (fun x r ⟨i, _, h1, h2, _⟩ => by omega) (fun f x F hF r => ?_) n _ _ ⟨0, rfl, ai _, by omega, rfl⟩
 rintro ⟨i, rfl, h1, h2, rfl⟩
 show tH n F (i : Int) m.1 m.2.1 m.2.2.1 m.2.2.2.1 m.2.2.2.2.1 m.2.2.2.2.2.1 m.2.2.2.2.2.2 = _
 unfold tH
 rcases aj i m.tasks.length with hlt | hge
 ·rw [if_pos (show decide ((i : Int) < (m.2.2.2.2.2.2.length : Int)) = true from af (by exact_mod_cast hlt)), show ni n (m.1, m.2.1, m.2.2.1, m.2.2.2.1, m.2.2.2.2.1, m.2.2.2.2.2.1, m.2.2.2.2.2.2) (i : Int) = _ from sr n hn hn2 m i hL hi, ab, show m.tasks.length - i = (m.tasks.length - (i + 1)) + 1 by omega]
  unfold ju
  try dsimp only
  by_cases h : fg n m (i : Int) ≠ 0
  ·rw [if_pos (ak.2 h), if_pos h]
  ·rw [if_neg (fun k => h (ak.1 k)), if_neg h, dd (by omega)]
   exact hF _ _ ⟨i + 1, rfl, by omega, by omega, rfl⟩
 ·have : i = m.tasks.length := by omega
  subst this
  rw [if_neg (by simp), aU]
  rfl
theorem V0 (n : Nat) (hn : 200 < n) (hn2 : n < 1000000) (m : Img) : lj n m = some (fG n m) := by
 obtain ⟨b, e1, e2⟩ := Ao n hn hn2 m
 unfold lj fG
 rw [show kg n (m.1, m.2.1, m.2.2.1, m.2.2.2.1, m.2.2.2.2.1, m.2.2.2.2.2.1, m.2.2.2.2.2.2) = some b from e1, ab]
 cases b with
 | false =>
  rw [if_pos (show (!false) = true from rfl), if_neg (show ¬ RightP m from fun h => by have := e2.2 h; cases this)]
 | true =>
  have hR := e2.1 rfl
  rw [if_pos hR, if_neg (by decide)]
  rw [show je n _ = _ from VZ n hn hn2 m (by have := hR.1.2.2.2.2.2.2; omega), ab]
  cases ju (fun i => fg n m (i : Int)) m.tasks.length 0 <;> rfl
theorem Ld (n : Nat) (hn : 7000 < n) (hn2 : n < 1000000) (m : Img) (hL : jK m) (hi : ∀ t ∈ m.tasks, InR t.code) : zk n m = some (fG n m) := by
 obtain ⟨b, e1, e2⟩ := qR n hn hn2 m hL hi
 unfold zk fG
 rw [show uY n (m.1, m.2.1, m.2.2.1, m.2.2.2.1, m.2.2.2.2.1, m.2.2.2.2.2.1, m.2.2.2.2.2.2) = some b from e1, ab]
 cases b with
 | false =>
  rw [if_pos (show (!false) = true from rfl), if_neg (show ¬ RightP m from fun h => by have := e2.2 h; cases this)]
 | true =>
  have hR := e2.1 rfl
  rw [if_pos hR, if_neg (by decide)]
  rw [show oQ n _ = _ from L1 n hn hn2 m (by have := hR.1.2.2.2.2.2.2; omega) hL hi, ab]
  cases ju (fun i => fg n m (i : Int)) m.tasks.length 0 <;> rfl
abbrev acO : Sh := .pair (.int .i64) (.pair (.int .i64) (.pair (.int .i64) (.pair (.int .i64) (.pair (.sl (.int .i64)) (.pair (.sl (.int .i64)) (.sl (.pair (.int .i64) (.pair (.int .i64) (.int .i64)))))))))
abbrev V1 : Sh := .pair (.int .i64) (.pair (.int .i64) (.pair (.int .i64) (.pair (.int .i64) (.pair (.sl (.int .i64)) (.pair (.sl (.sl (.int .i64))) (.sl acO))))))
theorem aaW {m : Img} (h : Sh.Ok V1 m) : ∀ t ∈ m.tasks, InR t.code := fun t ht => InR.of (h.2.2.2.2.2.2.2 t ht).2.2.2.2.2.2
theorem ST (n : Nat) (hn0 : 200 < n) (hn : n < 1000000) {m : Img} (h : Sh.Sm V1 m) : pC n m = some 0 ∨ (pC n m = some 1 ∧ jK m) :=
 VW n hn0 hn m (by
  have h1 : m.safe.length ≤ 140737488351232 := h.2.2.2.2.1
  have h2 : m.blocks.length ≤ 140737488351232 := h.2.2.2.2.2.1
  have h3 : m.tasks.length ≤ 140737488351232 := h.2.2.2.2.2.2
  omega)
theorem H9 {l : List dc} {m : List Int} {n : Nat} : ∀ (r i : Nat), (gt l m n r i).length = (fH l r i).length
 | 0, i => rfl
 | r + 1, i => by
  have := H9 (l := l) (m := m) (n := n) r (i + 1)
  rw [show fH l (r + 1) i = iZ l i ++ fH l r (i + 1) from rfl]
  unfold gt iZ
  rw [aJ, aJ, this]
  split <;> rfl
abbrev Row := Int × Int × Int × Int × Int × Int
abbrev Row.C (r : Row) : Int := r.1
abbrev Row.B (r : Row) : Int := r.2.1
abbrev Row.T (r : Row) : Int := r.2.2.1
abbrev Row.D (r : Row) : Int := r.2.2.2.1
abbrev Row.P (r : Row) : Int := r.2.2.2.2.2
abbrev dv : Row := ((0 : Int), ((0 : Int), ((0 : Int), ((0 : Int), ((0 : Int), (0 : Int))))))
structure RowB (r : Row) : Prop where
 c : 1 ≤ r.1 ∧ r.1 ≤ 2000000
 b : 0 ≤ r.2.1 ∧ r.2.1 ≤ 2000000
 t : 1 ≤ r.2.2.1 ∧ r.2.2.1 ≤ 1048576
 d : 1 ≤ r.2.2.2.1 ∧ r.2.2.2.1 ≤ 1048576
 j : 0 ≤ r.2.2.2.2.1 ∧ r.2.2.2.2.1 ≤ 1048576
 p : 1 ≤ r.2.2.2.2.2 ∧ r.2.2.2.2.2 ≤ 100
structure RowsB (l : List Row) : Prop where
 len : l.length ≤ 8
 all : ∀ r ∈ l, RowB r
theorem RowsB.get {l : List Row} (h : RowsB l) {i : Nat} (hi : i < l.length) : RowB (l.getD i dv) := h.all _ (by rw [ao, au hi]; exact aL hi)
theorem gC (n : Nat) (a : Int) (h0 : 0 ≤ a) (h1 : a < 4611686018427387904) : fx n a = some true := by
 unfold fx
 rw [if_pos (af h0), af h1]
theorem eT (n : Nat) (a : Int) (h0 : 0 ≤ a) (h1 : a < 4611686018427387904) : gA n a = some true := by
 unfold gA
 rw [if_pos (af h0), af h1]
def small (a : Int) : Prop := 0 ≤ a ∧ a ≤ 1000000000000000
theorem O4 (n : Nat) (hn : n < 1000000) (l : List Int) (hl : l.length < n) (hs : ∀ a ∈ l, small a) : rz n l = some true := by
 unfold rz qy
 have := dA (S := fun F => (C_ q_) (mU n F)) (fun f x r => ∃ i : Nat, x = (l, (l.length : Int), (i : Int)) ∧ i ≤ l.length ∧ l.length < f + i ∧ r = .inr ((), ())) (fun x r ⟨i, _, h1, h2, _⟩ => by omega) (fun f x F hF r => ?_) n (l, (l.length : Int), 0) _ ⟨0, rfl, ai _, by omega, rfl⟩
 ·rw [this]; rfl
 ·rintro ⟨i, rfl, h1, h2, rfl⟩
  show mU n F l (l.length : Int) (i : Int) = _
  unfold mU
  rcases aj i l.length with hlt | hge
  ·have hm : l.getD i 0 ∈ l := by rw [ao, au hlt]; exact aL hlt
   have := hs _ hm
   unfold small at this
   rw [if_pos (af (by omega)), if_pos (cZ hlt), ah, gC n _ this.1 (by omega), ab, if_neg (by decide), dd (by omega)]
   exact hF _ _ ⟨i + 1, rfl, by omega, by omega, rfl⟩
  ·have : i = l.length := by omega
   subst this
   rw [if_neg (by simp)]
theorem Nz (a : Int) : ¬ (((a, (0 : Int)) : Int × Int).2 != 0) = true := by simp
theorem eq0 (a : Int) : (((a, (0 : Int)) : Int × Int).2 == 0) = true := by simp
theorem Dq {l : List Int} (hs : ∀ a ∈ l, small a) : ∀ i, i ≤ l.length → 0 ≤ (l.take i).sum ∧ (l.take i).sum ≤ 1000000000000000 * (i : Int) := by
 intro i
 induction i with
 | zero => intro _; simp
 | succ i ih =>
  intro hi
  have := ih (by omega)
  have hm : l.getD i 0 ∈ l := by rw [ao, au (by omega)]; exact aL (by omega)
  have h2 := hs _ hm
  unfold small at h2
  rw [cj, List.sum_append, au (by omega)]
  rw [ao, au (by omega)] at h2
  simp only [bu, Option.toList_some, List.sum_cons, List.sum_nil, ca] at h2 ⊢
  omega
theorem Ic {l : List Int} {i : Nat} (hlt : i < l.length) : (l.take i).sum + l.getD i 0 = (l.take (i + 1)).sum := by
 rw [cj, List.sum_append, au hlt, ao, au hlt]
 simp only [bu, Option.toList_some, List.sum_cons, List.sum_nil, ca]
theorem SU (n : Nat) (hn : n < 1000000) (l : List Int) (hl : l.length < n) (h100 : l.length ≤ 100) (hs : ∀ a ∈ l, small a) : iG n l = some (l.sum, 0) := by
 unfold iG qA
 rw [O4 n hn l hl hs, ab, if_neg (by decide)]
 have := dA (S := fun F => (dk q_) (mV n F)) (fun f x r => ∃ i : Nat, x = ((l.take i).sum, l, (l.length : Int), (i : Int)) ∧ i ≤ l.length ∧ l.length < f + i ∧ r = .inr ((l.sum, ()), ())) (fun x r ⟨i, _, h1, h2, _⟩ => by omega) (fun f x F hF r => ?_) n (0, l, (l.length : Int), 0) _ ⟨0, rfl, ai _, by omega, rfl⟩
 ·rw [this]; rfl
 ·rintro ⟨i, rfl, h1, h2, rfl⟩
  show mV n F (l.take i).sum l (l.length : Int) (i : Int) = _
  unfold mV
  rcases aj i l.length with hlt | hge
  ·have h4 := Dq hs i h1
   have h5 := Dq hs (i + 1) hlt
   rw [if_pos (af (by omega)), if_pos (cZ hlt), ah, Ic hlt, dn (e := (l.take (i + 1)).sum) (by omega) (by omega), gC n _ h5.1 (by omega), ab, if_neg (by decide), dd (by omega)]
   exact hF _ _ ⟨i + 1, rfl, by omega, by omega, rfl⟩
  ·have : i = l.length := by omega
   subst this
   rw [if_neg (by simp), cy]
theorem aaX {a b x : Int} (ha : small a) (hb : small b) (hx : x ∈ [a, b]) : small x := by
 rcases aB.1 hx with rfl | hx
 ·exact ha
 rcases aB.1 hx with rfl | hx
 ·exact hb
 cases hx
theorem Ga (n : Nat) (hn0 : 10 < n) (hn : n < 1000000) (a b : Int) (ha : small a) (hb : small b) : iG n [a, b] = some (a + b, 0) := by
 rw [SU n hn [a, b] (by simp; omega) (by simp) (fun x hx => aaX ha hb hx)]
 simp
def gL (a b : Int) : Int := if a = 0 then 0 else (a - 1) / b + 1
theorem oV {a b : Int} (ha : 0 ≤ a) (hb : 1 ≤ b) : 0 ≤ a / b ∧ a / b ≤ a := ⟨Int.ediv_nonneg ha (by omega), Int.ediv_le_self _ ha⟩
theorem V2 {a b : Int} (ha : 0 ≤ a) (hb : 1 ≤ b) : 0 ≤ gL a b ∧ gL a b ≤ a := by
 unfold gL
 split
 ·omega
 ·have := oV (a := a - 1) (b := b) (by omega) hb
  omega
theorem W9 (n : Nat) (a b : Int) (ha : small a) (hb : 1 ≤ b ∧ b ≤ 1048576) : pD n a b = some (gL a b, 0) := by
 unfold small at ha
 unfold pD gL
 rw [gC n a ha.1 (by omega), ab, if_neg (by decide), gC n b (by omega) (by omega), ab, if_neg (by decide), if_neg (fun h => by have := ag.1 h; omega)]
 by_cases h : a = 0
 ·rw [if_pos (ag.2 h), if_pos h]
 ·have hd := oV (a := a - 1) (b := b) (by omega) hb.1
  rw [if_neg (fun e => h (ag.1 e)), if_neg h, if_neg (fun h => by have := ag.1 h; omega), dn (e := a - 1) (by omega) (by omega), b9 (by omega), dn (e := (a - 1) / b) (by omega) (by omega), dn (by omega) (by omega)]
theorem V3 {a b : Int} (ha : 0 ≤ a) (hb : 1 ≤ b) : gL a b = if 0 < a % b then a / b + 1 else a / b := by
 unfold gL
 have e := Int.emod_add_mul_ediv a b
 have h0 := Int.emod_nonneg a (show b ≠ 0 by omega)
 have h1 := Int.emod_lt_of_pos a (show 0 < b by omega)
 have hd := (oV ha hb).1
 by_cases h : a = 0
 ·subst h; simp
 ·rw [if_neg h]
  split
  ·rename_i hp
   have : (a - 1) / b = a / b := by
    have : a - 1 = (a % b - 1) + b * (a / b) := by omega
    rw [this, Int.add_mul_ediv_left _ _ (by omega), Int.ediv_eq_zero_of_lt (by omega) (by omega), Int.zero_add]
   rw [this]
  ·have hz : a % b = 0 := by omega
   have : (a - 1) / b = a / b - 1 := by
    have h2 : a - 1 = (b - 1) + b * (a / b - 1) := by rw [Int.mul_sub, Int.mul_one]; omega
    rw [h2, Int.add_mul_ediv_left _ _ (by omega), Int.ediv_eq_zero_of_lt (by omega) (by omega), Int.zero_add]
   omega
theorem L2 (n : Nat) (a b : Int) (ha : small a) (hb : 1 ≤ b ∧ b ≤ 1048576) : fV n a b = some (gL a b, 0) := by
 unfold small at ha
 unfold fV
 have hd := oV (a := a) (b := b) (by omega) hb.1
 rw [eT n a ha.1 (by omega), ab, if_neg (by decide), eT n b (by omega) (by omega), ab, if_neg (by decide), if_neg (fun h => by have := ag.1 h; omega), if_neg (fun h => by have := ag.1 h; omega), Int.tmod_eq_emod_of_nonneg ha.1, b9 ha.1, V3 ha.1 hb.1]
 by_cases h : 0 < a % b
 ·rw [if_pos (af h), if_neg (fun h => by have := ag.1 h; omega), if_pos h, dn (e := a / b) (by omega) (by omega), dn (by omega) (by omega)]
 ·rw [if_neg (fun e => h (ay e)), if_neg (fun h => by have := ag.1 h; omega), if_neg h, dn (by omega) (by omega)]
theorem Aq {a b : Int} (ha : 0 ≤ a ∧ a ≤ 100000000) (hb : 0 ≤ b ∧ b ≤ 2000000) : 0 ≤ a * b ∧ a * b ≤ 200000000000000 := by
 refine ⟨cw ha.1 hb.1, ?_⟩
 have h1 : a * b ≤ 100000000 * b := Int.mul_le_mul_of_nonneg_right ha.2 hb.1
 omega
theorem NA {a b : Int} (ha : 0 ≤ a ∧ a ≤ 100000000) (hb : 1 ≤ b ∧ b ≤ 2000000) : ¬ a > 4611686018427387903 / b := by
 have h := Aq ha ⟨by omega, hb.2⟩
 have : a ≤ 4611686018427387903 / b := (Int.le_ediv_iff_mul_le (by omega)).2 (by omega)
 omega
theorem SV (n : Nat) (a b : Int) (ha : 0 ≤ a ∧ a ≤ 100000000) (hb : 1 ≤ b ∧ b ≤ 2000000) : ku n a b = some (a * b, 0) := by
 unfold ku
 have h := Aq ha ⟨by omega, hb.2⟩
 rw [gC n a ha.1 (by omega), ab, if_neg (by decide), gC n b (by omega) (by omega), ab, if_neg (by decide)]
 by_cases hz : a = 0
 ·subst hz; rw [if_pos (show ((0 : Int) == 0) = true from rfl), Int.zero_mul]
 ·have hd := oV (a := 4611686018427387903) (b := b) (by omega) hb.1
  rw [if_neg (fun e => hz (ag.1 e)), if_neg (fun h => by have := ag.1 h; omega), if_neg (fun h => by have := ag.1 h; omega), b9 (by omega), dn (e := 4611686018427387903 / b) (by omega) (by omega), if_neg (fun e => NA ha hb (ay e)), dn (by omega) (by omega)]
theorem E2 (n : Nat) (a b : Int) (ha : 0 ≤ a ∧ a ≤ 100000000) (hb : 1 ≤ b ∧ b ≤ 2000000) : eV n a b = some (a * b, 0) := by
 unfold eV
 have h := Aq ha ⟨by omega, hb.2⟩
 have hd := oV (a := 4611686018427387903) (b := b) (by omega) hb.1
 rw [eT n a ha.1 (by omega), ab, if_neg (by decide), eT n b (by omega) (by omega), ab, if_neg (by decide), if_pos (af (by omega)), if_neg (fun h => by have := ag.1 h; omega), b9 (by omega), dn (e := 4611686018427387903 / b) (by omega) (by omega), if_neg (fun e => NA ha hb (ay e)), dn (by omega) (by omega)]
def jw (r : Row) (w p : Int) : Int := (gL (w + r.2.2.2.2.1) r.2.2.1 + if r.2.2.2.2.2 = p then 1 else 0) * r.1
theorem Ar {r : Row} (hr : RowB r) {w p : Int} (hw : 0 ≤ w ∧ w ≤ 2000000) : 0 ≤ gL (w + r.2.2.2.2.1) r.2.2.1 + (if r.2.2.2.2.2 = p then 1 else 0) ∧ gL (w + r.2.2.2.2.1) r.2.2.1 + (if r.2.2.2.2.2 = p then 1 else 0) ≤ 10000000 := by
 have := V2 (a := w + r.2.2.2.2.1) (b := r.2.2.1) (by have := hr.j; omega) hr.t.1
 have h2 : w + r.2.2.2.2.1 ≤ 4000000 := by have := hr.j; omega
 split <;> omega
theorem Dr {r : Row} (hr : RowB r) {w p : Int} (hw : 0 ≤ w ∧ w ≤ 2000000) : 0 ≤ jw r w p ∧ jw r w p ≤ 20000000000000 := by
 have h1 := Ar hr (p := p) hw
 refine ⟨cw h1.1 (by have := hr.c; omega), ?_⟩
 have h2 : jw r w p ≤ 10000000 * r.1 := Int.mul_le_mul_of_nonneg_right h1.2 (by have := hr.c; omega)
 have := hr.c
 omega
theorem Xa (n : Nat) (hn0 : 10 < n) (hn : n < 1000000) {r : Row} (hr : RowB r) {w p : Int} (hw : 0 ≤ w ∧ w ≤ 2000000) : ji n r w p = some (jw r w p, 0) := by
 have hj := hr.j
 have hf := Ar hr (p := p) hw
 unfold ji
 have hs : small (w + r.2.2.2.2.1) := ⟨by omega, by omega⟩
 rw [Ga n hn0 hn w r.2.2.2.2.1 ⟨hw.1, by omega⟩ ⟨hj.1, by omega⟩, ab, if_neg (Nz _), W9 n _ _ hs hr.t, ab]
 unfold jw
 by_cases hp : r.2.2.2.2.2 = p
 ·rw [if_pos hp] at hf
  rw [if_pos (ag.2 hp), if_pos hp]
  show (ku n (wrap .i64 (gL (w + r.2.2.2.2.1) r.2.2.1 + 1)) r.1).bind _ = _
  rw [dn (by omega) (by omega), SV n _ _ ⟨hf.1, by omega⟩ hr.c]
  rfl
 ·rw [if_neg hp, ca] at hf
  rw [if_neg (fun e => hp (ag.1 e)), if_neg hp, ca]
  show (ku n (gL (w + r.2.2.2.2.1) r.2.2.1) r.1).bind _ = _
  rw [SV n _ _ ⟨hf.1, by omega⟩ hr.c]
  rfl
theorem BX (n : Nat) (hn : n < 1000000) (l : List Int) (hl : l.length < n) (h100 : l.length ≤ 100) (hs : ∀ a ∈ l, small a) : tS n l = some (l.sum, 0) := by
 unfold tS zN
 have hsum := Dq hs
 have := dA (S := fun F => (dk q_) (tR n F)) (fun f x r => ∃ i : Nat, x = (l, (l.take i).sum, 0, (i : Int)) ∧ i ≤ l.length ∧ l.length < f + i ∧ r = .inr ((l.sum, 0, ()), ())) (fun x r ⟨i, _, h1, h2, _⟩ => by omega) (fun f x F hF r => ?_) n (l, 0, 0, 0) _ ⟨0, rfl, ai _, by omega, rfl⟩
 ·rw [this]; rfl
 ·rintro ⟨i, rfl, h1, h2, rfl⟩
  show tR n F l (l.take i).sum 0 (i : Int) = _
  unfold tR
  rcases aj i l.length with hlt | hge
  ·have hm : l.getD i 0 ∈ l := by rw [ao, au hlt]; exact aL hlt
   have h3 := hs _ hm
   unfold small at h3
   have h4 := hsum i h1
   rw [if_pos (af (by omega)), if_pos (cZ hlt), ah, eT n _ h3.1 (by omega), ab, if_neg (by decide), if_pos (cZ hlt), dn (e := 4611686018427387904 - l.getD i 0) (by omega) (by omega), if_neg (fun e => by have := ay e; omega), if_pos (by decide), if_pos (cZ hlt), dd (by omega), dn (by omega) (by omega), Ic hlt]
   exact hF _ _ ⟨i + 1, rfl, by omega, by omega, rfl⟩
  ·have : i = l.length := by omega
   subst this
   rw [if_neg (by simp), cy]
theorem Xb (n : Nat) (hn0 : 10 < n) (hn : n < 1000000) {r : Row} (hr : RowB r) {w p : Int} (hw : 0 ≤ w ∧ w ≤ 2000000) : fW n r w (r.2.2.2.2.2 == p) = some (jw r w p, 0) := by
 have hj := hr.j
 have hf := Ar hr (p := p) hw
 unfold fW
 have hs : small (w + r.2.2.2.2.1) := ⟨by omega, by omega⟩
 rw [BX n hn [w, r.2.2.2.2.1] (by simp; omega) (by simp) (fun x hx => aaX ⟨hw.1, by omega⟩ ⟨hj.1, by omega⟩ hx), ab, if_neg (Nz _)]
 rw [show ([w, r.2.2.2.2.1] : List Int).sum = w + r.2.2.2.2.1 by simp]
 show (fV n (w + r.2.2.2.2.1) r.2.2.1).bind _ = _
 rw [L2 n _ _ hs hr.t, ab]
 unfold jw
 by_cases hp : r.2.2.2.2.2 = p
 ·rw [if_pos hp] at hf
  rw [if_pos (ag.2 hp), if_pos hp]
  show (eV n (wrap .i64 (gL (w + r.2.2.2.2.1) r.2.2.1 + 1)) r.1).bind _ = _
  rw [dn (by omega) (by omega), E2 n _ _ ⟨hf.1, by omega⟩ hr.c]
  rfl
 ·rw [if_neg hp, ca] at hf
  rw [if_neg (fun e => hp (ag.1 e)), if_neg hp, ca]
  show (eV n (gL (w + r.2.2.2.2.1) r.2.2.1) r.1).bind _ = _
  rw [E2 n _ _ ⟨hf.1, by omega⟩ hr.c]
  rfl
theorem Le (n : Nat) (hn0 : 10 < n) (hn : n < 1000000) {r : Row} (hr : RowB r) : iF n r = some true := by
 have hc := hr.c
 have hb := hr.b
 have ht := hr.t
 have hj := hr.j
 have hd := hr.d
 have hp := hr.p
 unfold iF kp
 rw [dn (e := r.1 - 1) (by omega) (by omega), dn (e := r.2.2.1 - 1) (by omega) (by omega)]
 generalize hL : [r.1 - 1, r.2.2.1 - 1, r.1, r.2.2.1, r.2.1, r.2.2.2.2.1] = L
 have hlen : L.length = 6 := by rw [← hL]; rfl
 have hs : ∀ a ∈ L, small a := by
  intro a ha
  rw [← hL] at ha
  unfold small
  simp only [aB, List.not_mem_nil, or_false] at ha
  rcases ha with rfl | rfl | rfl | rfl | rfl | rfl <;> omega
 have := dA (S := fun F => (dy (dk q_)) (ia n F)) (fun f x q => ∃ i : Nat, x = (L, (i : Int), r.1, r.2.1, r.2.2.1, r.2.2.2.1, r.2.2.2.2.1, r.2.2.2.2.2) ∧ i ≤ 6 ∧ 6 < f + i ∧ q = .inr ((), ((r.1, r.2.1, r.2.2.1, r.2.2.2.1, r.2.2.2.2.1, r.2.2.2.2.2, ()), ()))) (fun x r ⟨i, _, h1, h2, _⟩ => by omega) (fun f x F hF q => ?_) n (L, 0, r.1, r.2.1, r.2.2.1, r.2.2.2.1, r.2.2.2.2.1, r.2.2.2.2.2) _ ⟨0, rfl, ai _, by omega, rfl⟩
 ·rw [this]
  show (if decide (r.2.2.2.1 ≥ 1) = true then _ else _) = _
  rw [if_pos (af (by omega))]
  show (if decide (r.2.2.2.1 ≤ 1048576) = true then _ else _) = _
  rw [if_pos (af (by omega))]
  show (if decide (r.2.2.2.2.2 ≥ 1) = true then some (decide (r.2.2.2.2.2 ≤ 100)) else _) = _
  rw [if_pos (af (by omega)), af (by omega)]
 ·rintro ⟨i, rfl, h1, h2, rfl⟩
  show ia n F L (i : Int) _ _ _ _ _ _ = _
  unfold ia
  rcases aj i 6 with hlt | hge
  ·have hm : L.getD i 0 ∈ L := by rw [ao, au (by omega)]; exact aL (by omega)
   have h3 := hs _ hm
   unfold small at h3
   rw [if_pos (af (by omega)), if_pos (show (decide (0 ≤ (i : Int)) && decide ((i : Int) < 6)) = true by simp; omega), ah, gC n _ h3.1 (by omega), ab, if_neg (by decide), dd (by omega)]
   exact hF _ _ ⟨i + 1, rfl, by omega, by omega, rfl⟩
  ·have : i = 6 := by omega
   subst this
   rw [if_neg (by simp)]
theorem As (n : Nat) (hn0 : 10 < n) (hn : n < 1000000) {l : List Row} (h : RowsB l) : ll n l = some true := by
 have h8 := h.len
 unfold ll nT
 have := dA (S := fun F => (dk q_) (kr n F)) (fun f x r => ∃ i : Nat, x = (l, l, (l.length : Int), (i : Int)) ∧ i ≤ l.length ∧ l.length < f + i ∧ r = .inr ((l, ()), ())) (fun x r ⟨i, _, h1, h2, _⟩ => by omega) (fun f x F hF r => ?_) n (l, l, (l.length : Int), 0) _ ⟨0, rfl, ai _, by omega, rfl⟩
 ·rw [this]
  show some (decide ((l.length : Int) ≤ 8)) = _
  rw [af (by omega)]
 ·rintro ⟨i, rfl, h1, h2, rfl⟩
  show kr n F l l (l.length : Int) (i : Int) = _
  unfold kr
  rcases aj i l.length with hlt | hge
  ·rw [if_pos (af (by omega)), if_pos (cZ hlt), ah]
   show ((iF n (l.getD i dv)).bind _) = _
   rw [Le n hn0 hn (h.get hlt), ab, if_neg (by decide), dd (by omega)]
   exact hF _ _ ⟨i + 1, rfl, by omega, by omega, rfl⟩
  ·have : i = l.length := by omega
   subst this
   rw [if_neg (by simp)]
theorem n5 (n : Nat) (hn0 : 10 < n) (hn : n < 1000000) {l : List Row} (h : RowsB l) : tQ n l = some true := by
 have h8 := h.len
 unfold tQ zL
 have := dA (S := fun F => q_ (tP n F)) (fun f x r => ∃ i : Nat, x = (l, (i : Int)) ∧ i ≤ l.length ∧ l.length < f + i ∧ r = .inr ((l, ()), ())) (fun x r ⟨i, _, h1, h2, _⟩ => by omega) (fun f x F hF r => ?_) n (l, 0) _ ⟨0, rfl, ai _, by omega, rfl⟩
 ·rw [this]
  show some (decide ((l.length : Int) ≤ 8)) = _
  rw [af (by omega)]
 ·rintro ⟨i, rfl, h1, h2, rfl⟩
  show tP n F l (i : Int) = _
  unfold tP
  rcases aj i l.length with hlt | hge
  ·have hr := h.get hlt
   have hc := hr.c
   have hb := hr.b
   have ht := hr.t
   have hj := hr.j
   have hd := hr.d
   have hp := hr.p
   rw [if_pos (af (by omega)), if_pos (cZ hlt), ah]
   show ((gA n (l.getD i dv).1).bind _) = _
   generalize l.getD i dv = q at *
   simp only [WH]
   rw [eT n _ (by omega) (by omega), ab, if_neg (by decide)]
   show ((gA n q.2.1).bind _) = _
   rw [eT n _ (by omega) (by omega), ab, if_neg (by decide)]
   show ((gA n q.2.2.1).bind _) = _
   rw [eT n _ (by omega) (by omega), ab, if_neg (by decide)]
   show ((gA n q.2.2.2.2.1).bind _) = _
   rw [eT n _ (by omega) (by omega), ab, if_neg (by decide)]
   rw [if_neg (fun e => by have := ay e; omega), if_neg (fun e => by have := ay e; omega), if_neg (fun e => by have := ay e; omega), if_neg (fun e => by have := ay e; omega), if_neg (fun e => by have := ay e; omega), if_neg (fun e => by have := ay e; omega), dd (by omega)]
   exact hF _ _ ⟨i + 1, rfl, by omega, by omega, rfl⟩
  ·have : i = l.length := by omega
   subst this
   rw [if_neg (by simp)]
theorem Lf (n : Nat) (hn0 : 10 < n) (hn : n < 1000000) {l : List Row} (h : RowsB l) {i : Nat} (hi : i < l.length) : lm n l (i : Int) = some true := by
 unfold lm
 rw [As n hn0 hn h, ab, if_pos rfl, if_pos (af (by omega)), af (by omega)]
def jY (i : Nat) (w p : Int) : List Row → Nat → Int
 | [], _ => 0
 | r :: t, k => (if k = i ∨ r.2.2.2.2.2 < p then 0 else jw r w p) + jY i w p t (k + 1)
def kA (i : Nat) (w p : Int) : List Row → Nat → List Int
 | [], _ => []
 | r :: t, k => (if k = i ∨ r.2.2.2.2.2 < p then [] else [jw r w p]) ++ kA i w p t (k + 1)
theorem E3 (i : Nat) (w p : Int) : ∀ (l : List Row) (k : Nat), (kA i w p l k).sum = jY i w p l k
 | [], _ => rfl
 | r :: t, k => by
  unfold kA jY
  rw [List.sum_append, E3 i w p t (k + 1)]
  split <;> simp
theorem E4 (i : Nat) (w p : Int) : ∀ (l : List Row) (k : Nat), (kA i w p l k).length ≤ l.length
 | [], _ => ar _
 | r :: t, k => by
  unfold kA
  have := E4 i w p t (k + 1)
  rw [aJ, aI]
  split <;> simp only [bC, aI] <;> omega
theorem At (i : Nat) {w p : Int} (hw : 0 ≤ w ∧ w ≤ 2000000) : ∀ (l : List Row) (k : Nat), (∀ r ∈ l, RowB r) → ∀ a ∈ kA i w p l k, small a
 | [], _, _, a, h => by cases h
 | r :: t, k, hr, a, h => by
  unfold kA at h
  rcases aA.1 h with h | h
  ·split at h
   ·cases h
   ·rw [aE] at h
    subst h
    have := Dr (hr r (aF ..)) (p := p) hw
    unfold small
    omega
  ·exact At i hw t (k + 1) (fun r h => hr r (aC _ h)) a h
theorem Lg (i : Nat) {w p : Int} (hw : 0 ≤ w ∧ w ≤ 2000000) : ∀ (l : List Row) (k : Nat), (∀ r ∈ l, RowB r) → 0 ≤ jY i w p l k ∧ jY i w p l k ≤ 20000000000000 * (l.length : Int)
 | [], _, _ => by unfold jY; simp
 | r :: t, k, hr => by
  unfold jY
  have h1 := Lg i (p := p) hw t (k + 1) (fun r h => hr r (aC _ h))
  have h2 := Dr (hr r (aF ..)) (p := p) hw
  rw [aI]
  split <;> omega
def ew (l : List Row) (i : Nat) (w : Int) : Int := (l.getD i dv).1 + (l.getD i dv).2.1 + jY i w (l.getD i dv).2.2.2.2.2 l 0
theorem NB (n : Nat) (hn0 : 10 < n) (hn : n < 1000000) {l : List Row} (h : RowsB l) {i : Nat} (hi : i < l.length) {w : Int} (hw : 0 ≤ w ∧ w ≤ 2000000) : mW n l (i : Int) w = some (ew l i w, 0) := by
 have h8 := h.len
 have hr := h.get hi
 have hc := hr.c
 have hb := hr.b
 unfold mW
 rw [Lf n hn0 hn h hi, ab, if_neg (by decide), gC n w hw.1 (by omega), ab, if_neg (by decide), if_pos (cZ hi), ah]
 show ((iG n [(l.getD i dv).1, (l.getD i dv).2.1]).bind _) = _
 unfold ew
 generalize l.getD i dv = q at *
 rw [Ga n hn0 hn _ _ ⟨by omega, by omega⟩ ⟨hb.1, by omega⟩, ab]
 show ((lH n ((i : Int), w, q.1 + q.2.1, 0, l, (l.length : Int), 0, q.1, q.2.1, q.2.2.1, q.2.2.2.1, q.2.2.2.2.1, q.2.2.2.2.2)).bind _) = _
 unfold lH
 have := dA (S := fun F => (fj (dk (C_ q_))) (ln n F)) (fun f x r => ∃ (j : Nat) (s : Int), x = ((i : Int), w, s, 0, l, (l.length : Int), (j : Int), q.1, q.2.1, q.2.2.1, q.2.2.2.1, q.2.2.2.2.1, q.2.2.2.2.2) ∧ j ≤ l.length ∧ l.length < f + j ∧ (0 ≤ s ∧ s ≤ 4000000 + 20000000000000 * (j : Int)) ∧ r = (s + jY i w q.2.2.2.2.2 (l.drop j) j, 0, q.1, q.2.1, q.2.2.1, q.2.2.2.1, q.2.2.2.2.1, q.2.2.2.2.2)) (fun x r ⟨j, s, _, h1, h2, _⟩ => by omega) (fun f x F hF r => ?_) n ((i : Int), w, q.1 + q.2.1, 0, l, (l.length : Int), 0, q.1, q.2.1, q.2.2.1, q.2.2.2.1, q.2.2.2.2.1, q.2.2.2.2.2) _ ⟨0, q.1 + q.2.1, rfl, ai _, by omega, by omega, rfl⟩
 ·rw [this, aT, ab, if_neg (by simp)]
 ·rintro ⟨j, s, rfl, h1, h2, h3, rfl⟩
  show ln n F (i : Int) w s 0 l (l.length : Int) (j : Int) _ _ _ _ _ _ = _
  unfold ln
  rcases aj j l.length with hlt | hge
  ·rw [if_pos (af (by omega)), if_pos (cZ hlt), if_neg (by decide), dd (by omega), ah, dq (d := dv) hlt]
   have hrj := h.get hlt
   have hin := Dr hrj (p := q.2.2.2.2.2) hw
   unfold jY
   by_cases hji : j = i
   ·rw [if_pos (by rw [hji]; exact aY _), if_pos (.inl hji), Int.zero_add]
    exact hF _ _ ⟨j + 1, s, rfl, by omega, by omega, by omega, rfl⟩
   ·rw [if_neg (fun e => hji (by have := ag.1 e; omega))]
    by_cases hp : (l.getD j dv).2.2.2.2.2 < q.2.2.2.2.2
    ·rw [if_pos (af hp), if_pos (.inr hp), Int.zero_add]
     exact hF _ _ ⟨j + 1, s, rfl, by omega, by omega, by omega, rfl⟩
    ·rw [if_neg (fun e => hp (ay e)), if_neg (by omega)]
     show ((ji n (l.getD j dv) w q.2.2.2.2.2).bind _) = _
     rw [Xa n hn0 hn hrj hw, ab, if_pos (eq0 _)]
     show ((iG n [s, jw (l.getD j dv) w q.2.2.2.2.2]).bind _) = _
     rw [Ga n hn0 hn _ _ ⟨h3.1, by omega⟩ ⟨hin.1, by omega⟩, ab]
     refine hF _ _ ⟨j + 1, s + jw (l.getD j dv) w q.2.2.2.2.2, rfl, by omega, by omega, by omega, ?_⟩
     rw [Int.add_assoc]
  ·have : j = l.length := by omega
   subst this
   rw [if_neg (by simp), aD]
   unfold jY
   rw [ca]
theorem L3 (n : Nat) (hn0 : 200 < n) (hn : n < 1000000) {l : List Row} (h : RowsB l) {i : Nat} (hi : i < l.length) {w : Int} (hw : 0 ≤ w ∧ w ≤ 2000000) : EP n l (i : Int) w = some (ew l i w, 0) := by
 have h8 := h.len
 have hr := h.get hi
 have hc := hr.c
 have hb := hr.b
 unfold EP
 rw [n5 n (by omega) hn h, ab, if_neg (by decide), if_neg (by simp), if_neg (by simp; omega), eT n w hw.1 (by omega), ab, if_neg (by decide), if_pos (cZ hi), if_pos (cZ hi), ah]
 show ((rP n (l, (i : Int), w, [(l.getD i dv).1, (l.getD i dv).2.1], 0)).bind _) = _
 unfold ew rP
 have := dA (S := fun F => (dk (C_ q_)) (tT n F)) (fun f x r => ∃ (j : Nat) (s : List Int), x = (l, (i : Int), w, s, (j : Int)) ∧ j ≤ l.length ∧ l.length < f + j ∧ s.length ≤ j + 2 ∧ r = .inr ((s ++ kA i w (l.getD i dv).2.2.2.2.2 (l.drop j) j, ()), ())) (fun x r ⟨j, s, _, h1, h2, _⟩ => by omega) (fun f x F hF r => ?_) n (l, (i : Int), w, [(l.getD i dv).1, (l.getD i dv).2.1], 0) _ ⟨0, [(l.getD i dv).1, (l.getD i dv).2.1], rfl, ai _, by omega, by simp, rfl⟩
 ·rw [this, aT]
  have hl2 := E4 i w (l.getD i dv).2.2.2.2.2 l 0
  show ((tS n ([(l.getD i dv).1, (l.getD i dv).2.1] ++ kA i w (l.getD i dv).2.2.2.2.2 l 0)).bind _) = _
  rw [BX n hn _ (by simp only [aJ, aI, bC]; omega) (by simp only [aJ, aI, bC]; omega) (fun a ha => ?_), ab]
  ·rw [List.sum_append, E3]
   simp only [List.sum_cons, List.sum_nil, ca]
  ·rcases aA.1 ha with ha | ha
   ·unfold small
    rcases aB.1 ha with rfl | ha
    ·omega
    rcases aB.1 ha with rfl | ha
    ·omega
    cases ha
   ·exact At i hw l 0 h.all a ha
 ·rintro ⟨j, s, rfl, h1, h2, h3, rfl⟩
  show tT n F l (i : Int) w s (j : Int) = _
  unfold tT
  rcases aj j l.length with hlt | hge
  ·rw [if_pos (af (by omega)), dd (by omega), ah, ah, dq (d := dv) hlt]
   have hrj := h.get hlt
   unfold kA
   by_cases hji : j = i
   ·rw [if_pos (by rw [hji]; exact aY _), if_pos (.inl hji), bn]
    exact hF _ _ ⟨j + 1, s, rfl, by omega, by omega, by omega, rfl⟩
   ·rw [if_neg (fun e => hji (by have := ag.1 e; omega)), if_pos (cZ hlt), if_pos (cZ hi)]
    by_cases hp : (l.getD j dv).2.2.2.2.2 < (l.getD i dv).2.2.2.2.2
    ·rw [if_pos (af hp), if_pos (.inr hp), bn]
     exact hF _ _ ⟨j + 1, s, rfl, by omega, by omega, by omega, rfl⟩
    ·rw [if_neg (fun e => hp (ay e)), if_neg (show ¬ (j = i ∨ (l.getD j dv).2.2.2.2.2 < (l.getD i dv).2.2.2.2.2) from fun e => e.elim hji hp), if_pos (cZ hlt), if_pos (cZ hlt), if_pos (cZ hi)]
     show ((fW n (l.getD j dv) w ((l.getD j dv).2.2.2.2.2 == (l.getD i dv).2.2.2.2.2)).bind _) = _
     rw [Xb n (by omega) hn hrj hw, ab, if_neg (Nz _), if_pos (by rw [af (show (s.length + 1) * 8 ≤ 140737488355328 by omega)]; rfl)]
     refine hF _ _ ⟨j + 1, s ++ [jw (l.getD j dv) w (l.getD i dv).2.2.2.2.2], rfl, by omega, by omega, by rw [aJ]; simp; omega, ?_⟩
     rw [aQ]
  ·have : j = l.length := by omega
   subst this
   rw [if_neg (by simp), aD]
   unfold kA
   rw [ba]
theorem O5 {a a' b b' : Int} (ha : 0 ≤ a) (h : a ≤ a') (hb : 1 ≤ b') (hbb : b' ≤ b) : gL a b ≤ gL a' b' := by
 unfold gL
 split
 ·split
  ·omega
  ·have := oV (a := a' - 1) (b := b') (by omega) hb
   omega
 ·rw [if_neg (by omega)]
  have h1 := (oV (a := a - 1) (b := b) (by omega) (by omega)).1
  have h2 : (a - 1) / b * b ≤ a - 1 := Int.ediv_mul_le _ (by omega)
  have h3 : (a - 1) / b * b' ≤ (a - 1) / b * b := Int.mul_le_mul_of_nonneg_left hbb h1
  have : (a - 1) / b ≤ (a' - 1) / b' := (Int.le_ediv_iff_mul_le (by omega)).2 (by omega)
  omega
theorem O6 {r r' : Row} (hr : RowB r) (hr' : RowB r') {w w' p : Int} (hw : 0 ≤ w) (h : w ≤ w') (hw2 : w' ≤ 2000000) (hc : r.1 = r'.1) (hT : r'.2.2.1 ≤ r.2.2.1) (hj : r.2.2.2.2.1 = r'.2.2.2.2.1) (hp : r.2.2.2.2.2 = r'.2.2.2.2.2) : jw r w p ≤ jw r' w' p := by
 unfold jw
 have h0 := hr.j
 have hc0 := hr.c
 have : gL (w + r.2.2.2.2.1) r.2.2.1 ≤ gL (w' + r'.2.2.2.2.1) r'.2.2.1 := O5 (by omega) (by omega) hr'.t.1 hT
 rw [← hc, ← hp]
 refine Int.mul_le_mul_of_nonneg_right ?_ (by omega)
 omega
theorem E5 (i : Nat) {w w' p : Int} (hw : 0 ≤ w) (h : w ≤ w') (hw2 : w' ≤ 2000000) : ∀ (l : List Row) (k : Nat), (∀ r ∈ l, RowB r) → jY i w p l k ≤ jY i w' p l k
 | [], _, _ => bm _
 | r :: t, k, hr => by
  unfold jY
  have h1 := E5 i hw h hw2 (p := p) t (k + 1) (fun r h => hr r (aC _ h))
  have h2 := O6 (hr r (aF ..)) (hr r (aF ..)) (p := p) hw h hw2 rfl (bm _) rfl rfl
  split <;> omega
theorem O7 {l : List Row} (hl : RowsB l) (i : Nat) {w w' : Int} (hw : 0 ≤ w) (h : w ≤ w') (hw2 : w' ≤ 2000000) : ew l i w ≤ ew l i w' := by
 unfold ew
 have := E5 i (p := (l.getD i dv).2.2.2.2.2) hw h hw2 l 0 hl.all
 omega
theorem vh {l : List Row} (hl : RowsB l) {i : Nat} (hi : i < l.length) {w : Int} (hw : 0 ≤ w ∧ w ≤ 2000000) : (l.getD i dv).1 ≤ ew l i w ∧ 0 ≤ ew l i w := by
 unfold ew
 have := Lg i (p := (l.getD i dv).2.2.2.2.2) hw l 0 hl.all
 have hb := (hl.get hi).b
 have hc := (hl.get hi).c
 omega
def iR (l : List Row) (i : Nat) (F : Int → Option (Int × Int)) (w : Int) : Option (Int × Int) :=
 if ew l i w > (l.getD i dv).2.2.2.1 then some (0, 13) else
 if (l.getD i dv).2.2.2.2.1 > (l.getD i dv).2.2.2.1 - ew l i w then some (0, 13) else
 if ew l i w = w then some ((l.getD i dv).2.2.2.2.1 + w, 0) else F (ew l i w)
abbrev E6 (l : List Row) (i : Nat) : Nat → Int → Option (Int × Int) := it (iR l i)
theorem V4 {l : List Row} (hl : RowsB l) {i : Nat} (hi : i < l.length) : ∀ (f : Nat) (w : Int), 0 ≤ w → w ≤ ew l i w → w ≤ (l.getD i dv).2.2.2.1 → (l.getD i dv).2.2.2.1 - w < f → ∃ r, E6 l i f w = some r := by
 have hd := (hl.get hi).d
 intro f
 induction f with
 | zero => intro w h0 h1 h2 h3; omega
 | succ f ih =>
  intro w h0 h1 h2 h3
  show ∃ r, iR l i (it (iR l i) f) w = some r
  unfold iR
  split
  ·exact ⟨_, rfl⟩
  ·split
   ·exact ⟨_, rfl⟩
   ·split
    ·exact ⟨_, rfl⟩
    ·exact ih _ (by omega) (O7 hl i h0 h1 (by omega)) (by omega) (by omega)
theorem V5 {l : List Row} {i : Nat} : ∀ (f : Nat) (w : Int) (r : Int × Int), E6 l i f w = some r → E6 l i (f + 1) w = some r := by
 intro f
 induction f with
 | zero => intro w r h; cases h
 | succ f ih =>
  intro w r h
  have h' : iR l i (it (iR l i) f) w = some r := h
  show iR l i (it (iR l i) (f + 1)) w = some r
  unfold iR at h' ⊢
  split at h'
  ·rename_i c; rw [if_pos c]; exact h'
  ·rename_i c
   rw [if_neg c]
   split at h'
   ·rename_i c; rw [if_pos c]; exact h'
   ·rename_i c
    rw [if_neg c]
    split at h'
    ·rename_i c; rw [if_pos c]; exact h'
    ·rename_i c
     rw [if_neg c]
     exact ih _ _ h'
theorem V6 {l : List Row} {i : Nat} {f g : Nat} {w : Int} {r : Int × Int} (h : f ≤ g) (hr : E6 l i f w = some r) : E6 l i g w = some r := by
 induction h with
 | refl => exact hr
 | step _ ih => exact V5 _ _ _ ih
def jZ (l : List Row) (i : Nat) : Int × Int := (E6 l i 25000 0).getD (0, 0)
theorem E7 {l : List Row} (hl : RowsB l) {i : Nat} (hi : i < l.length) (hd : (l.getD i dv).2.2.2.1 ≤ 20000) {n : Nat} (hn : 25000 ≤ n) : E6 l i n 0 = some (jZ l i) := by
 have h0 := (hl.get hi).d
 obtain ⟨r, hr⟩ := V4 hl hi 25000 0 (bm _) (vh hl hi (by omega)).2 (by omega) (by omega)
 refine V6 hn ?_
 unfold jZ
 rw [hr]
 rfl
theorem SW (n : Nat) (hn0 : 200 < n) (hn : n < 1000000) {l : List Row} (h : RowsB l) {i : Nat} (hi : i < l.length) : ∀ (f : Nat) (w : Int), 0 ≤ w ∧ w ≤ 2000000 →
  it (fun F => (dy (dk (C_ q_))) (iH n F)) f (l, (i : Int), w, (l.getD i dv).1, (l.getD i dv).2.1, (l.getD i dv).2.2.1, (l.getD i dv).2.2.2.1, (l.getD i dv).2.2.2.2.1, (l.getD i dv).2.2.2.2.2) = (E6 l i f w).map fun r => (r.1, r.2, (l.getD i dv).1, (l.getD i dv).2.1, (l.getD i dv).2.2.1, (l.getD i dv).2.2.2.1, (l.getD i dv).2.2.2.2.1, (l.getD i dv).2.2.2.2.2) := by
 have hd := (h.get hi).d
 have hj := (h.get hi).j
 intro f
 induction f with
 | zero => intro w hw; rfl
 | succ f ih =>
  intro w hw
  show iH n _ l (i : Int) w _ _ _ _ _ _ = (iR l i (it (iR l i) f) w).map _
  have hin := vh h hi hw
  unfold iH iR
  rw [NB n (by omega) hn h hi hw, ab, if_neg (Nz _)]
  by_cases c1 : ew l i w > (l.getD i dv).2.2.2.1
  ·rw [if_pos (af c1), if_pos c1]; rfl
  ·rw [if_neg (fun e => c1 (ay e)), if_neg c1, dn (e := (l.getD i dv).2.2.2.1 - ew l i w) (by omega) (by omega)]
   by_cases c2 : (l.getD i dv).2.2.2.2.1 > (l.getD i dv).2.2.2.1 - ew l i w
   ·rw [if_pos (af c2), if_pos c2]; rfl
   ·rw [if_neg (fun e => c2 (ay e)), if_neg c2]
    by_cases c3 : ew l i w = w
    ·rw [if_neg (fun e => ak.1 e c3), if_pos c3]
     show (some (wrap .i64 ((l.getD i dv).2.2.2.2.1 + w), 0, (l.getD i dv).1, (l.getD i dv).2.1, (l.getD i dv).2.2.1, (l.getD i dv).2.2.2.1, (l.getD i dv).2.2.2.2.1, (l.getD i dv).2.2.2.2.2) : Option _) = _
     rw [dn (e := (l.getD i dv).2.2.2.2.1 + w) (by omega) (by omega)]; rfl
    ·rw [if_pos (ak.2 c3), if_neg c3]
     exact ih _ (by omega)
theorem Xc (n : Nat) (hn0 : 25000 ≤ n) (hn : n < 1000000) {l : List Row} (h : RowsB l) {i : Nat} (hi : i < l.length) (hd2 : (l.getD i dv).2.2.2.1 ≤ 20000) : kI n l (i : Int) = some (jZ l i) := by
 have hd := (h.get hi).d
 have hj := (h.get hi).j
 have hr := E7 h hi hd2 (show 25000 ≤ n + 1 by omega)
 have hin := vh h hi (show (0 : Int) ≤ 0 ∧ (0 : Int) ≤ 2000000 by omega)
 have h2 : iR l i (it (iR l i) n) 0 = some (jZ l i) := hr
 unfold kI
 rw [Lf n (by omega) hn h hi, ab, if_neg (by decide), if_pos (cZ hi), NB n (by omega) hn h hi (by omega), ab, if_neg (Nz _), ah, ← h2]
 unfold iR
 by_cases c1 : ew l i 0 > (l.getD i dv).2.2.2.1
 ·rw [if_pos (af c1), if_pos c1]
 ·rw [if_neg (fun e => c1 (ay e)), if_neg c1]
  show (if decide ((l.getD i dv).2.2.2.2.1 > (wrap .i64 ((l.getD i dv).2.2.2.1 - ew l i 0))) = true then _ else _) = _
  rw [dn (e := (l.getD i dv).2.2.2.1 - ew l i 0) (by omega) (by omega)]
  by_cases c2 : (l.getD i dv).2.2.2.2.1 > (l.getD i dv).2.2.2.1 - ew l i 0
  ·rw [if_pos (af c2), if_pos c2]
  ·rw [if_neg (fun e => c2 (ay e)), if_neg c2]
   by_cases c3 : ew l i 0 = 0
   ·rw [if_neg (fun e => ak.1 e c3), if_pos c3]
    show some (wrap .i64 ((l.getD i dv).2.2.2.2.1 + 0), 0) = _
    rw [dn (by omega) (by omega)]
   ·rw [if_pos (ak.2 c3), if_neg c3]
    have := SW n (by omega) hn h hi n (ew l i 0) (by omega)
    unfold kZ
    show (it _ n (l, (i : Int), ew l i 0, (l.getD i dv).1, (l.getD i dv).2.1, (l.getD i dv).2.2.1, (l.getD i dv).2.2.2.1, (l.getD i dv).2.2.2.2.1, (l.getD i dv).2.2.2.2.2)).bind _ = _
    rw [this]
    show (Option.map _ (it (iR l i) n (ew l i 0))).bind _ = it (iR l i) n (ew l i 0)
    generalize it (iR l i) n (ew l i 0) = z
    cases z <;> rfl
theorem II (n : Nat) (hn0 : 200 < n) (hn : n < 1000000) {l : List Row} (h : RowsB l) {i : Nat} (hi : i < l.length) : ∀ (f : Nat) (w : Int), 0 ≤ w ∧ w ≤ 2000000 →
  it (fun F => (C_ q_) (tU n F)) f (l, (i : Int), w) = E6 l i f w := by
 have hd := (h.get hi).d
 have hj := (h.get hi).j
 intro f
 induction f with
 | zero => intro w hw; rfl
 | succ f ih =>
  intro w hw
  show tU n _ l (i : Int) w = iR l i (it (iR l i) f) w
  have hin := vh h hi hw
  unfold tU iR
  rw [L3 n hn0 hn h hi hw, ab, if_neg (Nz _), if_pos (cZ hi), ah]
  by_cases c1 : ew l i w > (l.getD i dv).2.2.2.1
  ·rw [if_pos (af c1), if_pos c1]
  ·rw [if_neg (fun e => c1 (ay e)), if_neg c1, if_pos (cZ hi), if_pos (cZ hi)]
   show (if decide ((l.getD i dv).2.2.2.2.1 > (wrap .i64 ((l.getD i dv).2.2.2.1 - ew l i w))) = true then _ else _) = _
   rw [dn (e := (l.getD i dv).2.2.2.1 - ew l i w) (by omega) (by omega)]
   by_cases c2 : (l.getD i dv).2.2.2.2.1 > (l.getD i dv).2.2.2.1 - ew l i w
   ·rw [if_pos (af c2), if_pos c2]
   ·rw [if_neg (fun e => c2 (ay e)), if_neg c2]
    by_cases c3 : ew l i w = w
    ·rw [if_pos (ag.2 c3), if_pos c3, if_pos (cZ hi)]
     show some (wrap .i64 (ew l i w + (l.getD i dv).2.2.2.2.1), 0) = _
     rw [dn (by omega) (by omega), c3, Int.add_comm]
    ·rw [if_neg (fun e => c3 (ag.1 e)), if_neg c3]
     exact ih _ (by omega)
theorem L4 (n : Nat) (hn0 : 25000 ≤ n) (hn : n < 1000000) {l : List Row} (h : RowsB l) {i : Nat} (hi : i < l.length) (hd2 : (l.getD i dv).2.2.2.1 ≤ 20000) : EQ n l (i : Int) = some (jZ l i) := by
 unfold EQ zQ
 rw [n5 n (by omega) hn h, ab, if_neg (by decide), if_neg (by simp), if_neg (by simp; omega), II n (by omega) hn h hi n 0 (by omega), E7 h hi hd2 hn0]
 rfl
def Au (R : Nat → Int × Int) : Nat → Nat → List Int → List Int × Int × Int
 | 0, _, o => (o, -1, 0)
 | k + 1, i, o => if (R i).2 ≠ 0 then ([], (i : Int), (R i).2) else Au R k (i + 1) (o ++ [(R i).1])
def Lh (l : List Row) : List Int × Int × Int := Au (jZ l) l.length 0 []
def Ds (R : Nat → Int × Int) : Nat → Nat → List Int → (((List Int × Int × Int × Unit) × Unit) ⊕ ((List Int × Unit) × Unit))
 | 0, _, o => .inr ((o, ()), ())
 | k + 1, i, o => if (R i).2 ≠ 0 then .inl (([], (i : Int), (R i).2, ()), ()) else Ds R k (i + 1) (o ++ [(R i).1])
theorem Gb (R : Nat → Int × Int) : ∀ (k i : Nat) (o : List Int), (Sum.elim (fun (z3 : (((List Int) × Int × Int × Unit) × Unit)) => (some (z3.1.1, z3.1.2.1, z3.1.2.2.1))) (fun (z4 : (((List Int) × Unit) × Unit)) => (some (z4.1.1, (-1), 0))) (Ds R k i o) : Option (List Int × Int × Int)) = some (Au R k i o)
 | 0, _, _ => rfl
 | k + 1, i, o => by
  unfold Ds Au
  split
  ·rfl
  ·exact Gb R k (i + 1) _
theorem SX (n : Nat) (hn0 : 25000 ≤ n) (hn : n < 1000000) {l : List Row} (h : RowsB l) (hd2 : ∀ r ∈ l, r.2.2.2.1 ≤ 20000) : kv n l = some (Lh l) := by
 have h8 := h.len
 unfold kv mX
 rw [As n (by omega) hn h, ab, if_neg (by decide)]
 have := dA (S := fun F => (dk q_) (jI n F)) (fun f x r => ∃ (i : Nat) (o : List Int), x = (l, o, (l.length : Int), (i : Int)) ∧ i ≤ l.length ∧ l.length < f + i ∧ o.length ≤ i ∧ r = Ds (jZ l) (l.length - i) i o) (fun x r ⟨i, _, _, h1, h2, _⟩ => by omega) (fun f x F hF r => ?_) n (l, [], (l.length : Int), 0) _ ⟨0, [], rfl, ai _, by omega, by simp, rfl⟩
 ·rw [this]
  exact Gb _ _ _ _
 ·rintro ⟨i, o, rfl, h1, h2, h3, rfl⟩
  show jI n F l o (l.length : Int) (i : Int) = _
  unfold jI
  rcases aj i l.length with hlt | hge
  ·obtain ⟨k, hk⟩ : ∃ k, l.length - i = k + 1 := ⟨l.length - i - 1, by omega⟩
   have hm : l.getD i dv ∈ l := by rw [ao, au hlt]; exact aL hlt
   rw [if_pos (af (by omega)), Xc n hn0 hn h hlt (hd2 _ hm), ab, hk]
   unfold Ds
   by_cases c : (jZ l i).2 ≠ 0
   ·rw [if_pos (ak.2 c), if_pos c]
   ·rw [if_neg (fun e => c (ak.1 e)), if_neg c, if_pos (by rw [af (show (o.length + 1) * 8 ≤ 140737488355328 by omega)]; rfl), dd (by omega)]
    exact hF _ _ ⟨i + 1, o ++ [(jZ l i).1], rfl, by omega, by omega, by rw [aJ]; simp; omega, by rw [show l.length - (i + 1) = k by omega]⟩
  ·have : i = l.length := by omega
   subst this
   rw [if_neg (by simp), aU]
   rfl
theorem IJ (n : Nat) (hn0 : 25000 ≤ n) (hn : n < 1000000) {l : List Row} (h : RowsB l) (hd2 : ∀ r ∈ l, r.2.2.2.1 ≤ 20000) : zT n l = some (Lh l) := by
 have h8 := h.len
 unfold zT zS
 rw [n5 n (by omega) hn h, ab, if_neg (by decide)]
 have := dA (S := fun F => (C_ q_) (tV n F)) (fun f x r => ∃ (i : Nat) (o : List Int), x = (l, o, (i : Int)) ∧ i ≤ l.length ∧ l.length < f + i ∧ o.length ≤ i ∧ r = Ds (jZ l) (l.length - i) i o) (fun x r ⟨i, _, _, h1, h2, _⟩ => by omega) (fun f x F hF r => ?_) n (l, [], 0) _ ⟨0, [], rfl, ai _, by omega, by simp, rfl⟩
 ·rw [this]
  exact Gb _ _ _ _
 ·rintro ⟨i, o, rfl, h1, h2, h3, rfl⟩
  show tV n F l o (i : Int) = _
  unfold tV
  rcases aj i l.length with hlt | hge
  ·obtain ⟨k, hk⟩ : ∃ k, l.length - i = k + 1 := ⟨l.length - i - 1, by omega⟩
   have hm : l.getD i dv ∈ l := by rw [ao, au hlt]; exact aL hlt
   rw [if_pos (af (by omega)), L4 n hn0 hn h hlt (hd2 _ hm), ab, hk]
   unfold Ds
   by_cases c : (jZ l i).2 ≠ 0
   ·rw [if_pos (ak.2 c), if_pos c]
   ·rw [if_neg (fun e => c (ak.1 e)), if_neg c, if_pos (by rw [af (show (o.length + 1) * 8 ≤ 140737488355328 by omega)]; rfl), dd (by omega)]
    exact hF _ _ ⟨i + 1, o ++ [(jZ l i).1], rfl, by omega, by omega, by rw [aJ]; simp; omega, by rw [show l.length - (i + 1) = k by omega]⟩
  ·have : i = l.length := by omega
   subst this
   rw [if_neg (by simp), aU]
   rfl
abbrev f5 := Int × List Int × List Int
abbrev dN : f5 := ((0 : Int), ([], []))
structure UseOk (b : Int) (u : f5) : Prop where
 p : 1 ≤ u.1 ∧ u.1 ≤ 100
 r : Rises b (-1) u.2.1
 len : u.2.1.length = u.2.2.length
 l : ∀ a ∈ u.2.2, 0 ≤ a ∧ a ≤ 1099511627776
structure UsesOk (b : Int) (l : List f5) : Prop where
 bl : 0 ≤ b ∧ b ≤ 8
 len : l.length ≤ 8
 all : ∀ u ∈ l, UseOk b u
theorem UsesOk.get {b : Int} {l : List f5} (h : UsesOk b l) {i : Nat} (hi : i < l.length) : UseOk b (l.getD i dN) := h.all _ (by rw [ao, au hi]; exact aL hi)
theorem qS {l : List Int} {i : Nat} (hi : i < l.length) : l.getD i 0 ∈ l := by rw [ao, au hi]; exact aL hi
theorem UseOk.small {b : Int} {u : f5} (h : UseOk b u) (hb : b ≤ 8) : u.2.1.length ≤ 8 := by
 have h1 := h.r.len
 by_cases hb0 : -1 < b
 ·have := h1 hb0; omega
 ·cases hu : u.2.1 with
  | nil => simp
  | cons x t => have := h.r.mem x (by rw [hu]; exact aF ..); omega
theorem Rises.drop {e : Int} {l : List Int} {b : Int} (h : Rises e b l) : ∀ {i : Nat}, i < l.length → Rises e (if i = 0 then b else l.getD (i - 1) 0) (l.drop i) := by
 induction l generalizing b with
 | nil => intro i hi; simp at hi
 | cons x t ih =>
  intro i hi
  cases i with
  | zero => exact h
  | succ i =>
   have h2 : Rises e x t := h.2.2
   rw [if_neg (by omega), List.drop_succ_cons, cJ]
   cases i with
   | zero => exact h2
   | succ i =>
    have := ih h2 (i := i + 1) (by simpa using hi)
    rw [if_neg (by omega), cJ] at this
    exact this
theorem Rises.at {e : Int} {l : List Int} {b : Int} (h : Rises e b l) {i : Nat} (hi : i < l.length) : (if i = 0 then b else l.getD (i - 1) 0) < l.getD i 0 ∧ l.getD i 0 < e := by
 have := h.drop hi
 rw [dq (d := (0 : Int)) hi] at this
 exact ⟨this.1, this.2.1⟩
theorem Li (n : Nat) (hn0 : 200 < n) (hn : n < 1000000) {b : Int} (hb : 0 ≤ b ∧ b ≤ 8) {u : f5} (h : UseOk b u) : xL n u b = some true := by
 have h8 := h.small hb.2
 have hp := h.p
 have hlen := h.len
 unfold xL xK
 rw [if_neg (fun e => by have := ay e; omega), if_neg (fun e => by have := ay e; omega), if_neg (fun e => by have := ak.1 e; omega)]
 have := dA (S := fun F => (dy (dk q_)) (sW n F)) (fun f x r => ∃ i : Nat, x = (b, (if i = 0 then -1 else u.2.1.getD (i - 1) 0), u.2.1, (u.2.1.length : Int), (i : Int), u.1, u.2.1, u.2.2) ∧ i ≤ u.2.1.length ∧ u.2.1.length < f + i ∧ r = .inr ((), ((u.1, u.2.1, u.2.2, ()), ()))) (fun x r ⟨i, _, h1, h2, _⟩ => by omega) (fun f x F hF r => ?_) n (b, -1, u.2.1, (u.2.1.length : Int), 0, u.1, u.2.1, u.2.2) _ ⟨0, rfl, ai _, by omega, rfl⟩
 ·rw [this]; rfl
 ·rintro ⟨i, rfl, h1, h2, rfl⟩
  show sW n F b (if i = 0 then -1 else u.2.1.getD (i - 1) 0) u.2.1 (u.2.1.length : Int) (i : Int) u.1 u.2.1 u.2.2 = _
  unfold sW
  rcases aj i u.2.1.length with hlt | hge
  ·have hr := h.r.at hlt
   have hl := h.l _ (qS (l := u.2.2) (i := i) (by omega))
   rw [if_pos (af (by omega)), if_pos (cZ hlt), ah, if_neg (fun e => by have := ay e; omega), if_neg (fun e => by have := ay e; omega), if_pos (cZ (by omega)), if_neg (fun e => by have := ay e; omega), if_pos (cZ (by omega)), if_neg (fun e => by have := ay e; omega), dd (by omega)]
   exact hF _ _ ⟨i + 1, by rw [if_neg (by omega), cJ], by omega, by omega, rfl⟩
  ·have : i = u.2.1.length := by omega
   subst this
   rw [if_neg (by simp)]
theorem vH (n : Nat) (hn0 : 200 < n) (hn : n < 1000000) {b : Int} {l : List f5} (h : UsesOk b l) : kl n b l = some true := by
 have h8 := h.len
 have hb := h.bl
 unfold kl mQ
 have := dA (S := fun F => (dk (C_ q_)) (jF n F)) (fun f x r => ∃ i : Nat, x = (b, l, l, (l.length : Int), (i : Int)) ∧ i ≤ l.length ∧ l.length < f + i ∧ r = .inr ((b, l, ()), ())) (fun x r ⟨i, _, h1, h2, _⟩ => by omega) (fun f x F hF r => ?_) n (b, l, l, (l.length : Int), 0) _ ⟨0, rfl, ai _, by omega, rfl⟩
 ·rw [this]
  show (if decide (b ≥ 0) = true then if decide (b ≤ 8) = true then some (decide ((l.length : Int) ≤ 8)) else _ else _) = _
  rw [if_pos (af hb.1), if_pos (af hb.2), af (by omega)]
 ·rintro ⟨i, rfl, h1, h2, rfl⟩
  show jF n F b l l (l.length : Int) (i : Int) = _
  unfold jF
  rcases aj i l.length with hlt | hge
  ·rw [if_pos (af (by omega)), if_pos (cZ hlt), ah]
   show ((xL n (l.getD i dN) b).bind _) = _
   rw [Li n hn0 hn hb (h.get hlt), ab, if_neg (by decide), dd (by omega)]
   exact hF _ _ ⟨i + 1, rfl, by omega, by omega, rfl⟩
  ·have : i = l.length := by omega
   subst this
   rw [if_neg (by simp)]
theorem Lj (n : Nat) (hn0 : 200 < n) (hn : n < 1000000) {b : Int} (hb : 0 ≤ b ∧ b ≤ 8) {u : f5} (h : UseOk b u) : zx n b u = some true := by
 have h8 := h.small hb.2
 have hp := h.p
 have hlen := h.len
 unfold zx zv zw
 have := dA (S := fun F => (dk (C_ q_)) (tK n F)) (fun f x r => ∃ i : Nat, x = (b, (i : Int), u.1, u.2.1, u.2.2) ∧ i ≤ u.2.1.length ∧ u.2.1.length < f + i ∧ r = .inr ((), ((u.1, u.2.1, u.2.2, ()), ()))) (fun x r ⟨i, _, h1, h2, _⟩ => by omega) (fun f x F hF r => ?_) n (b, 0, u.1, u.2.1, u.2.2) _ ⟨0, rfl, ai _, by omega, rfl⟩
 ·rw [this]
  have := dA (S := fun F => (dk q_) (tL n F)) (fun f x r => ∃ i : Nat, x = ((i : Int), u.1, u.2.1, u.2.2) ∧ i ≤ u.2.2.length ∧ u.2.2.length < f + i ∧ r = .inr ((), ((u.1, u.2.1, u.2.2, ()), ()))) (fun x r ⟨i, _, h1, h2, _⟩ => by omega) (fun f x F hF r => ?_) n (0, u.1, u.2.1, u.2.2) _ ⟨0, rfl, ai _, by omega, rfl⟩
  ·show ((it _ n (0, u.1, u.2.1, u.2.2)).bind _) = _
   rw [this]
   show (if decide (u.1 ≥ 1) = true then if decide (u.1 ≤ 100) = true then some ((u.2.1.length : Int) == (u.2.2.length : Int)) else _ else _) = _
   rw [if_pos (af hp.1), if_pos (af hp.2), hlen, aY]
  ·rintro ⟨i, rfl, h1, h2, rfl⟩
   show tL n F (i : Int) u.1 u.2.1 u.2.2 = _
   unfold tL
   rcases aj i u.2.2.length with hlt | hge
   ·have hl := h.l _ (qS hlt)
    rw [if_pos (af (by omega)), if_pos (cZ hlt), ah, if_neg (fun e => by have := ay e; omega), if_pos (cZ hlt), if_neg (fun e => by have := ay e; omega), dd (by omega)]
    exact hF _ _ ⟨i + 1, rfl, by omega, by omega, rfl⟩
   ·have : i = u.2.2.length := by omega
    subst this
    rw [if_neg (by simp)]
 ·rintro ⟨i, rfl, h1, h2, rfl⟩
  show tK n F b (i : Int) u.1 u.2.1 u.2.2 = _
  unfold tK
  rcases aj i u.2.1.length with hlt | hge
  ·have hr := h.r.at hlt
   have hm := h.r.mem _ (qS hlt)
   rw [if_pos (af (by omega)), if_pos (cZ hlt), ah, if_neg (fun e => by have := ay e; omega), if_pos (cZ hlt), if_neg (fun e => by have := ay e; omega)]
   by_cases hi : i = 0
   ·subst hi
    rw [if_neg (by simp), dd (by omega)]
    exact hF _ _ ⟨0 + 1, rfl, by omega, by omega, rfl⟩
   ·rw [if_neg hi] at hr
    rw [if_pos (af (by omega)), dn (e := (i : Int) - 1) (by omega) (by omega), show ((i : Int) - 1) = ((i - 1 : Nat) : Int) by omega, if_pos (cZ (by omega)), if_pos (cZ hlt), ah, if_neg (fun e => by have := ay e; omega), dd (by omega)]
    exact hF _ _ ⟨i + 1, rfl, by omega, by omega, rfl⟩
  ·have : i = u.2.1.length := by omega
   subst this
   rw [if_neg (by simp)]
theorem ub (n : Nat) (hn0 : 200 < n) (hn : n < 1000000) {b : Int} {l : List f5} (h : UsesOk b l) : zC n b l = some true := by
 have h8 := h.len
 have hb := h.bl
 unfold zC zB
 have := dA (S := fun F => (C_ q_) (tM n F)) (fun f x r => ∃ i : Nat, x = (b, l, (i : Int)) ∧ i ≤ l.length ∧ l.length < f + i ∧ r = .inr ((b, l, ()), ())) (fun x r ⟨i, _, h1, h2, _⟩ => by omega) (fun f x F hF r => ?_) n (b, l, 0) _ ⟨0, rfl, ai _, by omega, rfl⟩
 ·rw [this]
  show (if decide (b ≥ 0) = true then if decide (b ≤ 8) = true then some (decide ((l.length : Int) ≤ 8)) else _ else _) = _
  rw [if_pos (af hb.1), if_pos (af hb.2), af (by omega)]
 ·rintro ⟨i, rfl, h1, h2, rfl⟩
  show tM n F b l (i : Int) = _
  unfold tM
  rcases aj i l.length with hlt | hge
  ·rw [if_pos (af (by omega)), if_pos (cZ hlt), ah]
   show ((zx n b (l.getD i dN)).bind _) = _
   rw [Lj n hn0 hn hb (h.get hlt), ab, if_neg (by decide), dd (by omega)]
   exact hF _ _ ⟨i + 1, rfl, by omega, by omega, rfl⟩
  ·have : i = l.length := by omega
   subst this
   rw [if_neg (by simp)]
def hi (p m : Int) : Int := if p > m then p else m
def Av (p : Int) : List Int → List Int → List Int
 | [], c => c
 | k :: t, c => Av p t (c.set k.toNat (hi p (c.getD k.toNat 0)))
def rT : List f5 → List Int → List Int
 | [], c => c
 | u :: t, c => rT t (Av u.1 u.2.1 c)
def d6 (b : Int) (l : List f5) : List Int := rT l (List.replicate b.toNat 0)
theorem qT (p : Int) : ∀ (k c : List Int), (Av p k c).length = c.length
 | [], c => rfl
 | x :: t, c => by unfold Av; rw [qT p t, aS]
theorem Id : ∀ (l : List f5) (c : List Int), (rT l c).length = c.length
 | [], c => rfl
 | u :: t, c => by unfold rT; rw [Id t, qT]
def vi (p k : Int) : List Int → Int → Int
 | [], m => m
 | x :: t, m => vi p k t (if x = k then hi p m else m)
def E8 (k : Int) : List f5 → Int → Int
 | [], m => m
 | u :: t, m => E8 k t (vi u.1 k u.2.1 m)
def f7 (l : List f5) (k : Int) : Int := E8 k l 0
theorem NC (p : Int) {k : Int} (hk : 0 ≤ k) : ∀ (s c : List Int), k < (c.length : Int) → (∀ x ∈ s, 0 ≤ x ∧ x < (c.length : Int)) → (Av p s c).getD k.toNat 0 = vi p k s (c.getD k.toNat 0)
 | [], c, _, _ => rfl
 | x :: t, c, hc, hs => by
  unfold Av vi
  have hx := hs x (aF ..)
  rw [NC p hk t _ (by rw [aS]; exact hc) (fun y hy => by rw [aS]; exact hs y (aC _ hy))]
  congr 1
  by_cases e : x = k
  ·subst e
   rw [if_pos rfl, ao, List.getElem?_set_self (by omega)]
   rfl
  ·rw [if_neg e, ao, List.getElem?_set_ne (by omega), ← ao]
theorem Lk {k : Int} (hk : 0 ≤ k) : ∀ (l : List f5) (c : List Int), k < (c.length : Int) → (∀ u ∈ l, ∀ x ∈ u.2.1, 0 ≤ x ∧ x < (c.length : Int)) → (rT l c).getD k.toNat 0 = E8 k l (c.getD k.toNat 0)
 | [], c, _, _ => rfl
 | u :: t, c, hc, hs => by
  unfold rT E8
  rw [Lk hk t _ (by rw [qT]; exact hc) (fun v hv x hx => by rw [qT]; exact hs v (aC _ hv) x hx), NC u.1 hk _ _ hc (hs u (aF ..))]
theorem UsesOk.rng {b : Int} {l : List f5} (h : UsesOk b l) : ∀ u ∈ l, ∀ x ∈ u.2.1, 0 ≤ x ∧ x < b := fun u hu x hx => by
 have := (h.all u hu).r.mem x hx
 omega
theorem nt (b : Int) (l : List f5) : (d6 b l).length = b.toNat := by unfold d6; rw [Id, bp]
theorem Ie {b : Int} {l : List f5} (h : UsesOk b l) {k : Int} (h0 : 0 ≤ k) (h1 : k < b) : (d6 b l).getD k.toNat 0 = f7 l k := by
 unfold d6 f7
 have hlen : ((List.replicate b.toNat (0 : Int)).length : Int) = b := by rw [bp]; omega
 rw [Lk h0 l _ (by omega) (fun u hu x hx => by rw [hlen]; exact h.rng u hu x hx)]
 congr 1
 rw [ao, bV]
 split <;> rfl
theorem SY {b : Int} {l : List f5} (h : UsesOk b l) : d6 b l = (List.range b.toNat).map fun (k : Nat) => f7 l (k : Int) := by
 apply cA
 intro k
 rw [bs]
 rcases aj k b.toNat with hlt | hge
 ·have h1 := Ie h (k := (k : Int)) (by omega) (by omega)
  rw [ah, ao, au (by rw [nt]; exact hlt)] at h1
  rw [au (by rw [nt]; exact hlt), cH hlt]
  simp only [bu] at h1
  rw [h1]
  rfl
 ·rw [cD (by rw [nt]; exact hge), cD (by simpa using hge)]
  rfl
theorem Xd (n : Nat) (hn0 : 200 < n) (hn : n < 1000000) (l : List f5) (a i p : Int) (s t c : List Int) (hlen : s.length = t.length) (h8 : s.length ≤ 8) (hs : ∀ x ∈ s, 0 ≤ x ∧ x < (c.length : Int)) :
  jh n (l, a, i, s, (s.length : Int), 0, c, p, s, t) = some (l, a, i, Av p s c, p, s, t) := by
 unfold jh
 refine dA (S := fun F => (fj q_) (km n F)) (fun f x r => ∃ (j : Nat) (d : List Int), x = (l, a, i, s, (s.length : Int), (j : Int), d, p, s, t) ∧ j ≤ s.length ∧ s.length < f + j ∧ d.length = c.length ∧ r = (l, a, i, Av p (s.drop j) d, p, s, t)) (fun x r ⟨j, _, _, h1, h2, _⟩ => by omega) (fun f x F hF r => ?_) n _ _ ⟨0, c, rfl, ai _, by omega, rfl, rfl⟩
 rintro ⟨j, d, rfl, h1, h2, h3, rfl⟩
 show km n F l a i s (s.length : Int) (j : Int) d p s t = _
 unfold km
 rcases aj j s.length with hlt | hge
 ·have hx := hs _ (qS hlt)
  rw [if_pos (af (by omega)), if_pos (cZ hlt), if_pos (cZ (by omega)), ah, dq (d := (0 : Int)) hlt]
  have : iW n (p, (s, t)) (s.getD j 0) (t.getD j 0) d = some (d.set (s.getD j 0).toNat (hi p (d.getD (s.getD j 0).toNat 0))) := by
   unfold iW hi
   rw [if_pos (nZ hx.1 (by rw [h3]; exact hx.2)), if_pos (nZ hx.1 (by rw [h3]; exact hx.2))]
  rw [this, ab, dd (by omega)]
  exact hF _ _ ⟨j + 1, _, rfl, by omega, by omega, by rw [aS]; exact h3, rfl⟩
 ·have : j = s.length := by omega
  subst this
  rw [if_neg (by simp), aD]
  rfl
theorem Xe (n : Nat) (hn0 : 200 < n) (hn : n < 1000000) (l : List f5) (c : List Int) (h8 : l.length ≤ 8) (hs : ∀ u ∈ l, u.2.1.length = u.2.2.length ∧ u.2.1.length ≤ 8 ∧ ∀ x ∈ u.2.1, 0 ≤ x ∧ x < (c.length : Int)) : og n l c = some (rT l c) := by
 unfold og nQ
 have := dA (S := fun F => (dk q_) (kn n F)) (fun f x r => ∃ (j : Nat) (d : List Int), x = (l, (l.length : Int), (j : Int), d) ∧ j ≤ l.length ∧ l.length < f + j ∧ d.length = c.length ∧ r = rT (l.drop j) d) (fun x r ⟨j, _, _, h1, h2, _⟩ => by omega) (fun f x F hF r => ?_) n (l, (l.length : Int), 0, c) _ ⟨0, c, rfl, ai _, by omega, rfl, rfl⟩
 ·rw [this, aT]; rfl
 ·rintro ⟨j, d, rfl, h1, h2, h3, rfl⟩
  show kn n F l (l.length : Int) (j : Int) d = _
  unfold kn
  rcases aj j l.length with hlt | hge
  ·have hm : l.getD j dN ∈ l := by rw [ao, au hlt]; exact aL hlt
   obtain ⟨k1, k2, k3⟩ := hs _ hm
   rw [if_pos (af (by omega)), if_pos (cZ hlt), ah, dq (d := dN) hlt]
   show ((jh n (l, (l.length : Int), (j : Int), (l.getD j dN).2.1, ((l.getD j dN).2.1.length : Int), 0, d, (l.getD j dN).1, (l.getD j dN).2.1, (l.getD j dN).2.2)).bind _) = _
   rw [Xd n hn0 hn l _ _ _ _ _ d k1 k2 (fun x hx => by rw [h3]; exact k3 x hx), ab]
   show F (l, (l.length : Int), wrap .i64 ((j : Int) + 1), _) = _
   rw [dd (by omega)]
   exact hF _ _ ⟨j + 1, _, rfl, by omega, by omega, by rw [qT]; exact h3, rfl⟩
  ·have : j = l.length := by omega
   subst this
   rw [if_neg (by simp), aD]
   rfl
theorem BY (n : Nat) (hn0 : 200 < n) (hn : n < 1000000) {b : Int} {l : List f5} (h : UsesOk b l) : gH n b l = some (d6 b l) := by
 have hb := h.bl
 unfold gH
 rw [vH n hn0 hn h, ab, if_neg (by decide), if_pos (by rw [af hb.1, aY, af (show b * 8 ≤ 140737488355328 by omega)]; rfl)]
 rw [Xe n hn0 hn l _ h.len (fun u hu => ⟨(h.all u hu).len, (h.all u hu).small hb.2, fun x hx => by have := h.rng u hu x hx; rw [bp]; omega⟩)]
 rfl
theorem O8 (n : Nat) (hn0 : 200 < n) (hn : n < 1000000) (k : Int) (l : List f5) {i : Nat} (hi : i < l.length) (h8 : (l.getD i dN).2.1.length ≤ 8) (m : Int) :
  u6 n (k, l, m, (i : Int), 0) = some (k, l, vi (l.getD i dN).1 k (l.getD i dN).2.1 m, (i : Int)) := by
 unfold u6
 refine dA (S := fun F => (dk (C_ q_)) (zE n F)) (fun f x r => ∃ (j : Nat) (m : Int), x = (k, l, m, (i : Int), (j : Int)) ∧ j ≤ (l.getD i dN).2.1.length ∧ (l.getD i dN).2.1.length < f + j ∧ r = (k, l, vi (l.getD i dN).1 k ((l.getD i dN).2.1.drop j) m, (i : Int))) (fun x r ⟨j, _, _, h1, h2, _⟩ => by omega) (fun f x F hF r => ?_) n _ _ ⟨0, m, rfl, ai _, by omega, rfl⟩
 rintro ⟨j, m, rfl, h1, h2, rfl⟩
 show zE n F k l m (i : Int) (j : Int) = _
 unfold zE
 rw [if_pos (cZ hi), ah, ah]
 show (if decide ((j : Int) < ((l.getD i dN).2.1.length : Int)) = true then _ else _) = _
 rcases aj j (l.getD i dN).2.1.length with hlt | hge
 ·rw [if_pos (af (by omega)), if_pos (cZ hi), dq (d := (0 : Int)) hlt]
  show (if (decide (0 ≤ (j : Int)) && decide ((j : Int) < ((l.getD i dN).2.1.length : Int))) = true then if ((l.getD i dN).2.1.getD j 0 == k) = true then _ else _ else _) = _
  rw [if_pos (cZ hlt), dd (by omega)]
  unfold vi
  by_cases e : (l.getD i dN).2.1.getD j 0 = k
  ·rw [if_pos (ag.2 e), if_pos (cZ hi), if_pos e]
   exact hF _ _ ⟨j + 1, _, rfl, by omega, by omega, rfl⟩
  ·rw [if_neg (fun h => e (ag.1 h)), if_neg e]
   exact hF _ _ ⟨j + 1, _, rfl, by omega, by omega, rfl⟩
 ·have : j = (l.getD i dN).2.1.length := by omega
  subst this
  rw [if_neg (by simp), aD]
  rfl
theorem E9 (n : Nat) (hn0 : 200 < n) (hn : n < 1000000) {b : Int} {l : List f5} (h : UsesOk b l) (k : Int) : A2 n k l = some (f7 l k) := by
 have h8 := h.len
 unfold A2 Db
 have := dA (S := fun F => (dk q_) (zF n F)) (fun f x r => ∃ (j : Nat) (m : Int), x = (k, l, m, (j : Int)) ∧ j ≤ l.length ∧ l.length < f + j ∧ r = E8 k (l.drop j) m) (fun x r ⟨j, _, _, h1, h2, _⟩ => by omega) (fun f x F hF r => ?_) n (k, l, 0, 0) _ ⟨0, 0, rfl, ai _, by omega, rfl⟩
 ·rw [this, aT]; rfl
 ·rintro ⟨j, m, rfl, h1, h2, rfl⟩
  show zF n F k l m (j : Int) = _
  unfold zF
  rcases aj j l.length with hlt | hge
  ·rw [if_pos (af (by omega)), O8 n hn0 hn k l hlt ((h.get hlt).small h.bl.2) m, ab, dq (d := dN) hlt]
   show F (k, l, _, wrap .i64 ((j : Int) + 1)) = _
   rw [dd (by omega)]
   exact hF _ _ ⟨j + 1, _, rfl, by omega, by omega, rfl⟩
  ·have : j = l.length := by omega
   subst this
   rw [if_neg (by simp), aD]
   rfl
theorem Fa (n : Nat) (hn0 : 200 < n) (hn : n < 1000000) {b : Int} {l : List f5} (h : UsesOk b l) : EO n b l = some (d6 b l) := by
 have hb := h.bl
 rw [SY h]
 unfold EO zJ
 have := dA (S := fun F => (dk q_) (tN n F)) (fun f x r => ∃ (j : Nat), x = (b, l, (List.range j).map (fun (k : Nat) => f7 l (k : Int)), (j : Int)) ∧ j ≤ b.toNat ∧ b.toNat < f + j ∧ r = (List.range b.toNat).map (fun (k : Nat) => f7 l (k : Int))) (fun x r ⟨j, _, h1, h2, _⟩ => by omega) (fun f x F hF r => ?_) n (b, l, [], 0) _ ⟨0, rfl, ai _, by omega, rfl⟩
 ·rw [this]; rfl
 ·rintro ⟨j, rfl, h1, h2, rfl⟩
  show tN n F b l ((List.range j).map fun (k : Nat) => f7 l (k : Int)) (j : Int) = _
  unfold tN
  rcases aj j b.toNat with hlt | hge
  ·rw [if_pos (af (by omega)), ub n hn0 hn h, ab, if_pos rfl, E9 n hn0 hn h, ab, if_pos (by rw [aO, bF, af (show (j + 1) * 8 ≤ 140737488355328 by omega)]; rfl), dd (by omega)]
   refine hF _ _ ⟨j + 1, ?_, by omega, by omega, rfl⟩
   rw [cq, bR]
   rfl
  ·have : j = b.toNat := by omega
   subst this
   rw [if_neg (fun e => by have := ay e; omega)]
def kO (c : Int → Int) (p q : Int) : List Int → List Int → Int → Int
 | k :: s, a :: t, m => kO c p q s t (if q < p then if c k ≥ p then hi a m else m else m)
 | _, _, m => m
def pH (c : Int → Int) (p : Int) : List f5 → Int → Int
 | [], m => m
 | u :: t, m => pH c p t (kO c p u.1 u.2.1 u.2.2 m)
def om (l : List f5) (i : Nat) : Int := pH (f7 l) (l.getD i dN).1 l 0
def fo (l : List f5) : List Int := (List.range l.length).map (fun (k : Nat) => om l k)
theorem Xf (n : Nat) (hn0 : 200 < n) (hn : n < 1000000) {b : Int} {l : List f5} (h : UsesOk b l) (p : Int) (ob ol : List Int) {i : Nat} (hi : i < l.length) (m : Int) :
  oK n (l, (l.length : Int), (i : Int), (l.getD i dN).2.1, ((l.getD i dN).2.1.length : Int), 0, p, ob, ol, d6 b l, m, (l.getD i dN).1, (l.getD i dN).2.1, (l.getD i dN).2.2) = some (l, (l.length : Int), (i : Int), p, ob, ol, d6 b l, kO (f7 l) p (l.getD i dN).1 (l.getD i dN).2.1 (l.getD i dN).2.2 m, (l.getD i dN).1, (l.getD i dN).2.1, (l.getD i dN).2.2) := by
 have hu := h.get hi
 have h8 := hu.small h.bl.2
 have hlen := hu.len
 have hb := h.bl
 generalize hq : l.getD i dN = u at *
 unfold oK
 refine dA (S := fun F => (fj (dy q_)) (sZ n F)) (fun f x r => ∃ (j : Nat) (m : Int), x = (l, (l.length : Int), (i : Int), u.2.1, (u.2.1.length : Int), (j : Int), p, ob, ol, d6 b l, m, u.1, u.2.1, u.2.2) ∧ j ≤ u.2.1.length ∧ u.2.1.length < f + j ∧ r = (l, (l.length : Int), (i : Int), p, ob, ol, d6 b l, kO (f7 l) p u.1 (u.2.1.drop j) (u.2.2.drop j) m, u.1, u.2.1, u.2.2)) (fun x r ⟨j, _, _, h1, h2, _⟩ => by omega) (fun f x F hF r => ?_) n _ _ ⟨0, m, rfl, ai _, by omega, rfl⟩
 rintro ⟨j, m, rfl, h1, h2, rfl⟩
 show sZ n F l (l.length : Int) (i : Int) u.2.1 (u.2.1.length : Int) (j : Int) p ob ol (d6 b l) m u.1 u.2.1 u.2.2 = _
 unfold sZ
 rcases aj j u.2.1.length with hlt | hge
 ·have hm := hu.r.mem _ (qS hlt)
  have hcl : ((d6 b l).length : Int) = b := by rw [nt]; omega
  rw [if_pos (af (by omega)), if_pos (cZ hlt), if_pos (cZ (by omega)), ah, dq (d := (0 : Int)) hlt, dq (d := (0 : Int)) (l := u.2.2) (by omega)]
  have : kH n (u.1, (u.2.1, u.2.2)) (u.2.1.getD j 0) (u.2.2.getD j 0) p ob ol (d6 b l) m = some (p, ob, ol, d6 b l, if u.1 < p then if f7 l (u.2.1.getD j 0) ≥ p then Go.Proofs.Dk.hi (u.2.2.getD j 0) m else m else m) := by
   unfold kH Go.Proofs.Dk.hi
   by_cases c1 : u.1 < p
   ·rw [if_pos (af c1), if_pos c1, if_pos (nZ (by omega) (by rw [hcl]; omega)), Ie h (by omega) (by omega)]
    by_cases c2 : f7 l (u.2.1.getD j 0) ≥ p
    ·rw [if_pos (af c2), if_pos c2]
    ·rw [if_neg (fun e => c2 (ay e)), if_neg c2]
   ·rw [if_neg (fun e => c1 (ay e)), if_neg c1]
  rw [this, ab, dd (by omega)]
  exact hF _ _ ⟨j + 1, _, rfl, by omega, by omega, rfl⟩
 ·have : j = u.2.1.length := by omega
  subst this
  rw [if_neg (by simp), aD]
  rfl
theorem V7 (n : Nat) (hn0 : 200 < n) (hn : n < 1000000) {b : Int} {l : List f5} (h : UsesOk b l) (p : Int) (ob ol : List Int) : xP n l p ob ol (d6 b l) 0 = some (p, ob, ol, d6 b l, pH (f7 l) p l 0) := by
 have h8 := h.len
 unfold xP xO
 have := dA (S := fun F => (dy (dk q_)) (s5 n F)) (fun f x r => ∃ (j : Nat) (m : Int), x = (l, (l.length : Int), (j : Int), p, ob, ol, d6 b l, m) ∧ j ≤ l.length ∧ l.length < f + j ∧ r = (p, ob, ol, d6 b l, pH (f7 l) p (l.drop j) m)) (fun x r ⟨j, _, _, h1, h2, _⟩ => by omega) (fun f x F hF r => ?_) n (l, (l.length : Int), 0, p, ob, ol, d6 b l, 0) _ ⟨0, 0, rfl, ai _, by omega, rfl⟩
 ·rw [this, aT]; rfl
 ·rintro ⟨j, m, rfl, h1, h2, rfl⟩
  show s5 n F l (l.length : Int) (j : Int) p ob ol (d6 b l) m = _
  unfold s5
  rcases aj j l.length with hlt | hge
  ·rw [if_pos (af (by omega)), if_pos (cZ hlt), ah, dq (d := dN) hlt]
   show ((oK n (l, (l.length : Int), (j : Int), (l.getD j dN).2.1, ((l.getD j dN).2.1.length : Int), 0, p, ob, ol, d6 b l, m, (l.getD j dN).1, (l.getD j dN).2.1, (l.getD j dN).2.2)).bind _) = _
   rw [Xf n hn0 hn h p ob ol hlt m, ab]
   show F (l, (l.length : Int), wrap .i64 ((j : Int) + 1), _) = _
   rw [dd (by omega)]
   exact hF _ _ ⟨j + 1, _, rfl, by omega, by omega, rfl⟩
  ·have : j = l.length := by omega
   subst this
   rw [if_neg (by simp), aD]
   rfl
theorem V8 (n : Nat) (hn0 : 200 < n) (hn : n < 1000000) {b : Int} {l : List f5} (h : UsesOk b l) : ko n b l = some (fo l) := by
 have h8 := h.len
 unfold ko mS
 rw [vH n hn0 hn h, ab, if_neg (by decide), BY n hn0 hn h, ab]
 have := dA (S := fun F => (dy q_) (jG n F)) (fun f x r => ∃ (j : Nat), x = (l, (List.range j).map (fun (k : Nat) => om l k), l, (l.length : Int), (j : Int), d6 b l) ∧ j ≤ l.length ∧ l.length < f + j ∧ r = (fo l, d6 b l)) (fun x r ⟨j, _, h1, h2, _⟩ => by omega) (fun f x F hF r => ?_) n (l, [], l, (l.length : Int), 0, d6 b l) _ ⟨0, rfl, ai _, by omega, rfl⟩
 ·rw [this]; rfl
 ·rintro ⟨j, rfl, h1, h2, rfl⟩
  show jG n F l ((List.range j).map (fun (k : Nat) => om l k)) l (l.length : Int) (j : Int) (d6 b l) = _
  unfold jG
  rcases aj j l.length with hlt | hge
  ·rw [if_pos (af (by omega)), if_pos (cZ hlt), ah]
   show ((xP n l (l.getD j dN).1 (l.getD j dN).2.1 (l.getD j dN).2.2 (d6 b l) 0).bind _) = _
   rw [V7 n hn0 hn h, ab, if_pos (by rw [aO, bF, af (show (j + 1) * 8 ≤ 140737488355328 by omega)]; rfl), dd (by omega)]
   refine hF _ _ ⟨j + 1, ?_, by omega, by omega, rfl⟩
   rw [cq, bR]
   rfl
  ·have : j = l.length := by omega
   subst this
   rw [if_neg (by simp)]
   rfl
theorem O9 (n : Nat) (hn0 : 200 < n) (hn : n < 1000000) {b : Int} {l : List f5} (h : UsesOk b l) (o : List Int) {i k : Nat} (hi : i < l.length) (hk : k < l.length) (m : Int) :
  u7 n (b, l, o, (i : Int), m, (k : Int), 0) = some (b, l, o, (i : Int), kO (f7 l) (l.getD i dN).1 (l.getD k dN).1 (l.getD k dN).2.1 (l.getD k dN).2.2 m, (k : Int)) := by
 have hu := h.get hk
 have h8 := hu.small h.bl.2
 have hlen := hu.len
 unfold u7
 refine dA (S := fun F => (dy (C_ q_)) (zG n F)) (fun f x r => ∃ (j : Nat) (m : Int), x = (b, l, o, (i : Int), m, (k : Int), (j : Int)) ∧ j ≤ (l.getD k dN).2.1.length ∧ (l.getD k dN).2.1.length < f + j ∧ r = (b, l, o, (i : Int), kO (f7 l) (l.getD i dN).1 (l.getD k dN).1 ((l.getD k dN).2.1.drop j) ((l.getD k dN).2.2.drop j) m, (k : Int))) (fun x r ⟨j, _, _, h1, h2, _⟩ => by omega) (fun f x F hF r => ?_) n _ _ ⟨0, m, rfl, ai _, by omega, rfl⟩
 rintro ⟨j, m, rfl, h1, h2, rfl⟩
 show zG n F b l o (i : Int) m (k : Int) (j : Int) = _
 unfold zG
 rw [if_pos (cZ hk), ah, ah, ah]
 show (if decide ((j : Int) < ((l.getD k dN).2.1.length : Int)) = true then _ else _) = _
 rcases aj j (l.getD k dN).2.1.length with hlt | hge
 ·rw [if_pos (af (by omega)), if_pos (cZ hk), if_pos (cZ hi), dq (d := (0 : Int)) hlt, dq (d := (0 : Int)) (l := (l.getD k dN).2.2) (by omega)]
  show (if decide ((l.getD k dN).1 < (l.getD i dN).1) = true then _ else _) = _
  unfold kO
  by_cases c1 : (l.getD k dN).1 < (l.getD i dN).1
  ·rw [if_pos (af c1), if_pos c1, if_pos (cZ hk)]
   show (if (decide (0 ≤ (j : Int)) && decide ((j : Int) < ((l.getD k dN).2.1.length : Int))) = true then (A2 n ((l.getD k dN).2.1.getD j 0) l).bind _ else _) = _
   rw [if_pos (cZ hlt), E9 n hn0 hn h, ab, if_pos (cZ hi)]
   show (if decide (f7 l ((l.getD k dN).2.1.getD j 0) ≥ (l.getD i dN).1) = true then _ else _) = _
   by_cases c2 : f7 l ((l.getD k dN).2.1.getD j 0) ≥ (l.getD i dN).1
   ·rw [if_pos (af c2), if_pos c2, if_pos (cZ hk)]
    show (if (decide (0 ≤ (j : Int)) && decide ((j : Int) < ((l.getD k dN).2.2.length : Int))) = true then _ else _) = _
    rw [if_pos (cZ (by omega)), dd (by omega)]
    exact hF _ _ ⟨j + 1, _, rfl, by omega, by omega, rfl⟩
   ·rw [if_neg (fun e => c2 (ay e)), if_neg c2, dd (by omega)]
    exact hF _ _ ⟨j + 1, _, rfl, by omega, by omega, rfl⟩
  ·rw [if_neg (fun e => c1 (ay e)), if_neg c1, dd (by omega)]
   exact hF _ _ ⟨j + 1, _, rfl, by omega, by omega, rfl⟩
 ·have : j = (l.getD k dN).2.1.length := by omega
  subst this
  rw [if_neg (by simp), aD]
  rfl
theorem L5 (n : Nat) (hn0 : 200 < n) (hn : n < 1000000) {b : Int} {l : List f5} (h : UsesOk b l) (o : List Int) {i : Nat} (hi : i < l.length) :
  u9 n (b, l, o, (i : Int), 0, 0) = some (b, l, o, (i : Int), om l i) := by
 have h8 := h.len
 unfold u9 om
 refine dA (S := fun F => (dy q_) (zH n F)) (fun f x r => ∃ (j : Nat) (m : Int), x = (b, l, o, (i : Int), m, (j : Int)) ∧ j ≤ l.length ∧ l.length < f + j ∧ r = (b, l, o, (i : Int), pH (f7 l) (l.getD i dN).1 (l.drop j) m)) (fun x r ⟨j, _, _, h1, h2, _⟩ => by omega) (fun f x F hF r => ?_) n _ _ ⟨0, 0, rfl, ai _, by omega, rfl⟩
 rintro ⟨j, m, rfl, h1, h2, rfl⟩
 show zH n F b l o (i : Int) m (j : Int) = _
 unfold zH
 rcases aj j l.length with hlt | hge
 ·rw [if_pos (af (by omega)), O9 n hn0 hn h o hi hlt m, ab, dq (d := dN) hlt]
  show F (b, l, o, (i : Int), _, wrap .i64 ((j : Int) + 1)) = _
  rw [dd (by omega)]
  exact hF _ _ ⟨j + 1, _, rfl, by omega, by omega, rfl⟩
 ·have : j = l.length := by omega
  subst this
  rw [if_neg (by simp), aD]
  rfl
theorem Ll (n : Nat) (hn0 : 200 < n) (hn : n < 1000000) {b : Int} {l : List f5} (h : UsesOk b l) : I6 n b l = some (fo l) := by
 have h8 := h.len
 unfold I6 De
 have := dA (S := fun F => (dk q_) (zI n F)) (fun f x r => ∃ (j : Nat), x = (b, l, (List.range j).map (fun (k : Nat) => om l k), (j : Int)) ∧ j ≤ l.length ∧ l.length < f + j ∧ r = fo l) (fun x r ⟨j, _, h1, h2, _⟩ => by omega) (fun f x F hF r => ?_) n (b, l, [], 0) _ ⟨0, rfl, ai _, by omega, rfl⟩
 ·rw [this]; rfl
 ·rintro ⟨j, rfl, h1, h2, rfl⟩
  show zI n F b l ((List.range j).map (fun (k : Nat) => om l k)) (j : Int) = _
  unfold zI
  rcases aj j l.length with hlt | hge
  ·rw [if_pos (af (by omega)), ub n hn0 hn h, ab, if_pos rfl, L5 n hn0 hn h _ hlt, ab]
   show (if (decide ((((List.range j).map (fun (k : Nat) => om l k)).length + 1) * 8 ≤ 140737488355328) && decide (1 ≤ 8)) = true then F (b, l, _, wrap .i64 ((j : Int) + 1)) else none) = _
   rw [if_pos (by rw [aO, bF, af (show (j + 1) * 8 ≤ 140737488355328 by omega)]; rfl), dd (by omega)]
   refine hF _ _ ⟨j + 1, ?_, by omega, by omega, rfl⟩
   rw [cq, bR]
   rfl
  ·have : j = l.length := by omega
   subst this
   rw [if_neg (by simp)]
   rfl
theorem Lm {l : List dc} (hl : l.length < 30000) (h : (eJ bM 30000 l).2 = 0) : (jX 30000 l).1.length = (fd l).length ∧ (∀ e ∈ (jX 30000 l).1, 1 ≤ e.2 ∧ e.2 + 2 ≤ (eJ bM 30000 l).1) := by
 obtain ⟨h1, h2⟩ := nY h
 obtain ⟨b1, b2, b3, b4, b5⟩ := qQ 30000 l h
 have hsI : jX 30000 l = (gt l (du l).1 30000 l.length 0, 0) := by unfold jX; rw [if_neg (fun k => k h)]
 rw [hsI]
 obtain ⟨g1, g2⟩ := SI (n := 30000) h1 (t8 h2).2 hl (by omega) l.length 0 (by omega)
 refine ⟨?_, fun e he => ⟨(g2 e he).1, by have := (g2 e he).2; omega⟩⟩
 unfold fd
 rw [if_pos h1]
 exact H9 _ _
def Ln (m : Img) (i : Nat) : f5 := ((dI m i).1, (dI m i).2.2.2.2.1, (kN 30000 m i).1)
def ey (m : Img) : List f5 := (List.range m.tasks.length).map (fun (k : Nat) => Ln m k)
def Dt (m : Img) (i : Nat) : Row := ((kz 30000 m i).1, (fo (ey m)).getD i 0, (dI m i).2.1, (dI m i).2.2.1, (dI m i).2.2.2.1, (dI m i).1)
def il (m : Img) : List Row := (List.range m.tasks.length).map (fun (k : Nat) => Dt m k)
abbrev Vd := Int × Int × List Row × List Int × List Int
def eR (m : Img) : Vd := if (fG 30000 m).2 ≠ 0 then ((fG 30000 m).2, (fG 30000 m).1, [], [], []) else ((Lh (il m)).2.2, (Lh (il m)).2.1, il m, (Lh (il m)).1, d6 (m.blocks.length : Int) (ey m))
theorem Fb {e : Nat → Int} : ∀ {r i : Nat}, ju e r i = none → ∀ j, i ≤ j → j < i + r → e j = 0
 | 0, i, _, j, h1, h2 => by omega
 | r + 1, i, h, j, h1, h2 => by
  unfold ju at h
  split at h
  ·cases h
  ·rename_i hz
   rcases aj i j with h3 | h3
   ·exact Fb h j (by omega) (by omega)
   ·have : j = i := by omega
    rw [this]
    exact Decidable.not_not.1 hz
theorem Fc {e : Nat → Int} {p : Int × Int} : ∀ {r i : Nat}, ju e r i = some p → p.2 ≠ 0
 | 0, i, h => by cases h
 | r + 1, i, h => by
  unfold ju at h
  split at h
  ·rename_i hz
   simp only [ae] at h
   rw [← h]
   exact hz
  ·exact Fc h
theorem nu {n : Nat} {m : Img} (h : (fG n m).2 = 0) : RightP m ∧ (fG n m).1 = -1 ∧ ∀ i, i < m.tasks.length → fg n m (i : Int) = 0 := by
 unfold fG at h ⊢
 split at h
 ·rename_i hR
  rw [if_pos hR]
  refine ⟨hR, ?_⟩
  cases hf : ju (fun i => fg n m (i : Int)) m.tasks.length 0 with
  | none => exact ⟨rfl, fun i hi => Fb hf i (ai _) (by omega)⟩
  | some p =>
   rw [hf] at h
   exact absurd h (Fc hf)
 ·exact absurd h (by decide)
def Fd (m : Img) : Prop := ∀ t ∈ m.tasks, ¬ (t.2.2.1 > 20000 ∧ t.2.2.1 ≤ 1048576)
theorem Lo {m : Img} {i : Nat} (hi : i < m.tasks.length) : dI m (i : Int) ∈ m.tasks := by
 unfold dI
 rw [ah, ao, au hi]
 exact aL hi
theorem If {m : Img} (h : RightP m) {i : Nat} (hi : i < m.tasks.length) : gg m (dI m (i : Int)) := (h.task (i := (i : Int)) (by omega) (by omega)).1
theorem BZ {m : Img} {i : Nat} (hz : fg 30000 m (i : Int) = 0) : (kN 30000 m (i : Int)).1.length = (dI m (i : Int)).2.2.2.2.1.length ∧ ∀ a ∈ (kN 30000 m (i : Int)).1, 1 ≤ a ∧ a ≤ 1048576 := by
 obtain ⟨hR, ⟨h0, h1⟩, h2, h3, h4⟩ := kM hz
 have hc : (dI m i).code.length ≤ 200 := (hR.task h0 h1).1.2.2.2.2.1
 obtain ⟨k1, k2⟩ := Lm (l := (dI m i).code) (by omega) h2
 obtain ⟨b1, b2, b3, b4, b5⟩ := qQ 30000 _ h2
 unfold kN
 rw [if_neg (fun k => k hz)]
 refine ⟨?_, fun a ha => ?_⟩
 ·show ((jX 30000 (dI m i).code).1.map Prod.snd).length = _
  rw [aO, k1, h3]
 ·obtain ⟨e, he, rfl⟩ := List.mem_map.1 ha
  have := k2 e he
  omega
theorem Pa {m : Img} {i : Nat} (hz : fg 30000 m (i : Int) = 0) : (kz 30000 m (i : Int)).2 = 0 ∧ (kz 30000 m (i : Int)).1 = (eJ bM 30000 (dI m (i : Int)).code).1 + 2 * m.1 + m.2.1 + m.2.2.1 ∧ 1 ≤ (eJ bM 30000 (dI m (i : Int)).code).1 ∧ (eJ bM 30000 (dI m (i : Int)).code).1 ≤ 1048576 := by
 obtain ⟨hR, ⟨h0, h1⟩, h2, h3, h4⟩ := kM hz
 obtain ⟨b1, b2, b3, b4, b5⟩ := qQ 30000 _ h2
 unfold kz
 rw [if_neg (fun k => k hz)]
 exact ⟨rfl, rfl, by omega, b5⟩
theorem oW (m : Img) : (ey m).length = m.tasks.length := by unfold ey; rw [aO, bF]
theorem Gc {m : Img} (h : (fG 30000 m).2 = 0) : UsesOk (m.blocks.length : Int) (ey m) := by
 obtain ⟨hR, _, hz⟩ := nu h
 have hN := hR.1
 refine ⟨by have := hN.2.2.2.2.2.1; omega, by rw [oW]; have := hN.2.2.2.2.2.2; omega, fun u hu => ?_⟩
 unfold ey at hu
 obtain ⟨i, hi, rfl⟩ := List.mem_map.1 hu
 have hi' : i < m.tasks.length := by simpa using hi
 have hT := If hR hi'
 obtain ⟨k1, k2⟩ := BZ (hz i hi')
 exact ⟨hT.1.1, hT.2.1, k1.symm, fun a ha => by have := k2 a ha; omega⟩
theorem Lp {c : Int → Int} {p q M : Int} : ∀ {s t : List Int} {m : Int}, (∀ a ∈ t, a ≤ M) → m ≤ M → m ≤ kO c p q s t m ∧ kO c p q s t m ≤ M
 | [], [], m, _, h => by unfold kO; omega
 | [], _ :: _, m, _, h => by unfold kO; omega
 | _ :: _, [], m, _, h => by unfold kO; omega
 | k :: s, a :: t, m, ht, h => by
  unfold kO
  have ha := ht a (aF ..)
  have : m ≤ (if q < p then if c k ≥ p then hi a m else m else m) ∧ (if q < p then if c k ≥ p then hi a m else m else m) ≤ M := by
   split
   ·split
    ·unfold hi; split <;> omega
    ·omega
   ·omega
  have := Lp (c := c) (p := p) (q := q) (s := s) (t := t) (fun x hx => ht x (aC _ hx)) this.2
  omega
theorem Lq {c : Int → Int} {p M : Int} : ∀ {l : List f5} {m : Int}, (∀ u ∈ l, ∀ a ∈ u.2.2, a ≤ M) → m ≤ M → m ≤ pH c p l m ∧ pH c p l m ≤ M
 | [], m, _, h => by unfold pH; omega
 | u :: t, m, ht, h => by
  unfold pH
  have h1 := Lp (c := c) (p := p) (q := u.1) (s := u.2.1) (ht u (aF ..)) h
  have h2 := Lq (c := c) (p := p) (l := t) (fun v hv => ht v (aC _ hv)) h1.2
  omega
theorem vj (l : List f5) : (fo l).length = l.length := by unfold fo; rw [aO, bF]
theorem Pb {l : List f5} {i : Nat} (hi : i < l.length) : (fo l).getD i 0 = om l i := by
 unfold fo
 rw [ao, bs, cH hi]
 rfl
theorem Pc {m : Img} (h : (fG 30000 m).2 = 0) {i : Nat} (hi : i < m.tasks.length) : 0 ≤ (fo (ey m)).getD i 0 ∧ (fo (ey m)).getD i 0 ≤ 1048576 := by
 obtain ⟨hR, _, hz⟩ := nu h
 rw [Pb (by rw [oW]; exact hi)]
 unfold om
 refine Lq (fun u hu a ha => ?_) (by omega)
 unfold ey at hu
 obtain ⟨j, hj, rfl⟩ := List.mem_map.1 hu
 have hj' : j < m.tasks.length := by simpa using hj
 exact ((BZ (hz j hj')).2 a ha).2
theorem Ig (m : Img) : (il m).length = m.tasks.length := by unfold il; rw [aO, bF]
theorem SZ {m : Img} (h : (fG 30000 m).2 = 0) {i : Nat} (hi : i < m.tasks.length) : RowB (Dt m i) := by
 obtain ⟨hR, _, hz⟩ := nu h
 have hN := hR.1
 have hT := If hR hi
 obtain ⟨n1, n2, n3, n4⟩ := hT.1
 obtain ⟨s1, s2, s3, s4⟩ := Pa (hz i hi)
 have hw := Pc h hi
 have hn1 := hN.1
 have hn2 := hN.2.1
 have hn3 := hN.2.2.1
 refine ⟨?_, ?_, n2, ?_, n4, n1⟩
 ·show 1 ≤ (kz 30000 m (i : Int)).1 ∧ (kz 30000 m (i : Int)).1 ≤ 2000000
  omega
 ·show 0 ≤ (fo (ey m)).getD i 0 ∧ (fo (ey m)).getD i 0 ≤ 2000000
  omega
 ·show 1 ≤ (dI m (i : Int)).2.2.1 ∧ (dI m (i : Int)).2.2.1 ≤ 1048576
  omega
theorem A6 {m : Img} (h : (fG 30000 m).2 = 0) : RowsB (il m) := by
 obtain ⟨hR, _, hz⟩ := nu h
 refine ⟨by rw [Ig]; have := hR.1.2.2.2.2.2.2; omega, fun r hr => ?_⟩
 unfold il at hr
 obtain ⟨i, hi, rfl⟩ := List.mem_map.1 hr
 exact SZ h (by simpa using hi)
theorem Ih {m : Img} (h : (fG 30000 m).2 = 0) (hd : Fd m) : ∀ r ∈ il m, r.2.2.2.1 ≤ 20000 := by
 obtain ⟨hR, _, hz⟩ := nu h
 intro r hr
 unfold il at hr
 obtain ⟨i, hi, rfl⟩ := List.mem_map.1 hr
 have hi' : i < m.tasks.length := by simpa using hi
 have h1 := hd _ (Lo hi')
 have h2 := SZ h hi'
 have : (Dt m i).2.2.2.1 = (dI m (i : Int)).2.2.1 := rfl
 have := h2.d
 omega
theorem ND : gI 30000 = some true := rfl
theorem L6 (n : Nat) (hn1 : 200 < n) (hn2 : n < 1000000) (m : Img) (i : Nat) (hi : i < m.tasks.length) : iV n (i : Int) m.1 m.2.1 m.2.2.1 m.2.2.2.1 m.2.2.2.2.1 m.2.2.2.2.2.1 m.2.2.2.2.2.2 = some (((dI m (i : Int)).1, (dI m (i : Int)).2.2.2.2.1, (kN n m (i : Int)).1), m.1, m.2.1, m.2.2.1, m.2.2.2.1, m.2.2.2.2.1, m.2.2.2.2.2.1, m.2.2.2.2.2.2) := by
 unfold iV
 rw [show jg n (m.1, m.2.1, m.2.2.1, m.2.2.2.1, m.2.2.2.2.1, m.2.2.2.2.2.1, m.2.2.2.2.2.2) (i : Int) = _ from SS n hn1 hn2 m i, ab, if_pos (cZ hi), if_pos (cZ hi)]
theorem L7 (n : Nat) (hn1 : 200 < n) (hn2 : n < 1000000) (m : Img) (i : Nat) (hi : i < m.tasks.length) (w : Int) : iX n (i : Int) w m.1 m.2.1 m.2.2.1 m.2.2.2.1 m.2.2.2.2.1 m.2.2.2.2.2.1 m.2.2.2.2.2.2 = some (((kz n m (i : Int)).1, w, (dI m (i : Int)).2.1, (dI m (i : Int)).2.2.1, (dI m (i : Int)).2.2.2.1, (dI m (i : Int)).1), m.1, m.2.1, m.2.2.1, m.2.2.2.1, m.2.2.2.2.1, m.2.2.2.2.2.1, m.2.2.2.2.2.2) := by
 unfold iX
 rw [if_pos (cZ hi), show jH n (m.1, m.2.1, m.2.2.1, m.2.2.2.1, m.2.2.2.2.1, m.2.2.2.2.2.1, m.2.2.2.2.2.2) (i : Int) = _ from VX n hn1 hn2 m i, ab]
theorem pI {α : Type} (f : Nat → α) (i : Nat) : (List.range i).map f ++ [f i] = (List.range (i + 1)).map f := by
 rw [cq, bR]
 rfl
theorem oX {α : Type} {l : List α} {i k : Nat} (h : l.length ≤ i) (hi : i ≤ 1000000) (hk : 1 ≤ k ∧ k ≤ 1000) : (decide ((l.length + 1) * k ≤ 140737488355328) && decide (1 ≤ k)) = true := by
 rw [af (show (l.length + 1) * k ≤ 140737488355328 by
  have : (l.length + 1) * k ≤ 1000001 * 1000 := Nat.mul_le_mul (by omega) hk.2
  omega), af hk.1]
 rfl
theorem Pd (n : Nat) (hn : n = 30000) (m : Img) (hL : jK m) (hi : ∀ t ∈ m.tasks, InR t.code) : zt n m = some (ey m) := by
 have h80 := hL.1
 unfold zt zr
 have := dA (S := fun F => (dy (dk (C_ q_))) (tJ n F)) (fun f x r => ∃ i : Nat, x = ((List.range i).map (fun (k : Nat) => Ln m k), (i : Int), m.1, m.2.1, m.2.2.1, m.2.2.2.1, m.2.2.2.2.1, m.2.2.2.2.2.1, m.2.2.2.2.2.2) ∧ i ≤ m.tasks.length ∧ m.tasks.length < f + i ∧ r = (ey m, m.1, m.2.1, m.2.2.1, m.2.2.2.1, m.2.2.2.2.1, m.2.2.2.2.2.1, m.2.2.2.2.2.2)) (fun x r ⟨i, _, h1, h2, _⟩ => by omega) (fun f x F hF r => ?_) n ([], 0, m.1, m.2.1, m.2.2.1, m.2.2.2.1, m.2.2.2.2.1, m.2.2.2.2.2.1, m.2.2.2.2.2.2) _ ⟨0, rfl, ai _, by omega, rfl⟩
 ·rw [this]; rfl
 ·rintro ⟨i, rfl, h1, h2, rfl⟩
  show tJ n F ((List.range i).map (fun (k : Nat) => Ln m k)) (i : Int) m.1 m.2.1 m.2.2.1 m.2.2.2.1 m.2.2.2.2.1 m.2.2.2.2.2.1 m.2.2.2.2.2.2 = _
  unfold tJ
  rcases aj i m.tasks.length with hlt | hge
  ·rw [if_pos (af (show (i : Int) < (m.tasks.length : Int) by omega)), show zp n (m.1, m.2.1, m.2.2.1, m.2.2.2.1, m.2.2.2.2.1, m.2.2.2.2.2.1, m.2.2.2.2.2.2) (i : Int) = _ from IH n (by omega) (by omega) m i hL hi, ab, if_pos (cZ hlt), if_pos (cZ hlt), if_pos (oX (i := i) (by rw [aO, bF]; exact ar _) (by omega) (by decide)), dd (by omega)]
   refine hF _ _ ⟨i + 1, ?_, by omega, by omega, rfl⟩
   rw [← pI, hn]
   rfl
  ·have : i = m.tasks.length := by omega
   subst this
   rw [if_neg (by simp)]
   rfl
theorem L8 (n : Nat) (hn : n = 30000) (m : Img) (hL : jK m) (hd : Fd m) (hi : ∀ t ∈ m.tasks, InR t.code) : zW n m = some (eR m) := by
 have h80 := hL.1
 unfold zW eR
 rw [show zk n (m.1, m.2.1, m.2.2.1, m.2.2.2.1, m.2.2.2.2.1, m.2.2.2.2.2.1, m.2.2.2.2.2.2) = some (fG 30000 m) from by rw [← hn]; exact Ld n (by omega) (by omega) m hL hi, ab]
 by_cases h : (fG 30000 m).2 ≠ 0
 ·rw [if_pos (ak.2 h), if_pos h]
 ·rw [if_neg (fun e => h (ak.1 e)), if_neg h]
  have hz := Decidable.not_not.1 h
  have hU := Gc hz
  rw [show zt n (m.1, m.2.1, m.2.2.1, m.2.2.2.1, m.2.2.2.2.1, m.2.2.2.2.2.1, m.2.2.2.2.2.2) = _ from Pd n hn m hL hi, ab, Ll n (by omega) (by omega) hU, ab, Fa n (by omega) (by omega) hU, ab]
  unfold zV
  have := dA (S := fun F => (i9 (C_ q_)) (tW n F)) (fun f x r => ∃ i : Nat, x = (fo (ey m), (i : Int), m.1, m.2.1, m.2.2.1, m.2.2.2.1, m.2.2.2.2.1, m.2.2.2.2.2.1, m.2.2.2.2.2.2, 0, 0, [], [], [], 0, 0, (List.range i).map (fun (k : Nat) => Dt m k), [], d6 (m.blocks.length : Int) (ey m)) ∧ i ≤ m.tasks.length ∧ m.tasks.length < f + i ∧ r = (m.1, m.2.1, m.2.2.1, m.2.2.2.1, m.2.2.2.2.1, m.2.2.2.2.2.1, m.2.2.2.2.2.2, 0, 0, [], [], [], 0, 0, il m, [], d6 (m.blocks.length : Int) (ey m))) (fun x r ⟨i, _, h1, h2, _⟩ => by omega) (fun f x F hF r => ?_) n (fo (ey m), 0, m.1, m.2.1, m.2.2.1, m.2.2.2.1, m.2.2.2.2.1, m.2.2.2.2.2.1, m.2.2.2.2.2.2, 0, 0, [], [], [], 0, 0, [], [], d6 (m.blocks.length : Int) (ey m)) _ ⟨0, rfl, ai _, by omega, rfl⟩
  ·rw [this, ab]
   show (zT n (il m)).bind _ = _
   rw [IJ n (by omega) (by omega) (A6 hz) (Ih hz hd), ab]
  ·rintro ⟨i, rfl, h1, h2, rfl⟩
   show tW n F (fo (ey m)) (i : Int) m.1 m.2.1 m.2.2.1 m.2.2.2.1 m.2.2.2.2.1 m.2.2.2.2.2.1 m.2.2.2.2.2.2 0 0 [] [] [] 0 0 ((List.range i).map (fun (k : Nat) => Dt m k)) [] (d6 (m.blocks.length : Int) (ey m)) = _
   unfold tW
   rcases aj i m.tasks.length with hlt | hge
   ·rw [if_pos (af (show (i : Int) < (m.tasks.length : Int) by omega)), if_pos (cZ hlt), show fE n (m.1, m.2.1, m.2.2.1, m.2.2.2.1, m.2.2.2.2.1, m.2.2.2.2.2.1, m.2.2.2.2.2.2) (i : Int) = _ from Lc n (by omega) (by omega) m i hL hi, ab, if_pos (cZ (by rw [vj, oW]; exact hlt)), if_pos (oX (i := i) (by rw [aO, bF]; exact ar _) (by omega) (by decide)), dd (by omega)]
    refine hF _ _ ⟨i + 1, ?_, by omega, by omega, rfl⟩
    rw [← pI, hn]
    rfl
   ·have : i = m.tasks.length := by omega
    subst this
    rw [if_neg (by simp)]
    rfl
theorem V9 (n : Nat) (hn : n = 30000) (m : Img) (hd : Fd m) : ta n m = some (eR m) := by
 unfold ta eR
 rw [show lj n (m.1, m.2.1, m.2.2.1, m.2.2.2.1, m.2.2.2.2.1, m.2.2.2.2.2.1, m.2.2.2.2.2.2) = some (fG 30000 m) from by rw [← hn]; exact V0 n (by omega) (by omega) m, ab]
 by_cases h : (fG 30000 m).2 ≠ 0
 ·rw [if_pos (ak.2 h), if_pos h]
 ·rw [if_neg (fun e => h (ak.1 e)), if_neg h]
  have hz := Decidable.not_not.1 h
  have hU := Gc hz
  have h8 : m.tasks.length ≤ 8 := by rw [← Ig]; exact (A6 hz).len
  have e0 := dA (S := fun F => (i9 (dy q_)) (s8 n F)) (fun f x r => ∃ i : Nat, x = ((List.range i).map (fun (k : Nat) => Ln m k), (m.tasks.length : Int), (i : Int), m.1, m.2.1, m.2.2.1, m.2.2.2.1, m.2.2.2.2.1, m.2.2.2.2.2.1, m.2.2.2.2.2.2, 0, 0, [], [], [], m.1, m.2.1, m.2.2.1, m.2.2.2.1, m.2.2.2.2.1, m.2.2.2.2.2.1, m.2.2.2.2.2.2) ∧ i ≤ m.tasks.length ∧ m.tasks.length < f + i ∧ r = (ey m, m.1, m.2.1, m.2.2.1, m.2.2.2.1, m.2.2.2.2.1, m.2.2.2.2.2.1, m.2.2.2.2.2.2, 0, 0, [], [], [], m.1, m.2.1, m.2.2.1, m.2.2.2.1, m.2.2.2.2.1, m.2.2.2.2.2.1, m.2.2.2.2.2.2)) (fun x r ⟨i, _, h1, h2, _⟩ => by omega) (fun f x F hF r => ?_) n ([], (m.tasks.length : Int), 0, m.1, m.2.1, m.2.2.1, m.2.2.2.1, m.2.2.2.2.1, m.2.2.2.2.2.1, m.2.2.2.2.2.2, 0, 0, [], [], [], m.1, m.2.1, m.2.2.1, m.2.2.2.1, m.2.2.2.2.1, m.2.2.2.2.2.1, m.2.2.2.2.2.2) _ ⟨0, rfl, ai _, by omega, rfl⟩
  ·unfold xZ
   rw [e0, ab]
   show (gH n (m.blocks.length : Int) (ey m)).bind _ = _
   rw [BY n (by omega) (by omega) hU, ab]
   show (ko n (m.blocks.length : Int) (ey m)).bind _ = _
   rw [V8 n (by omega) (by omega) hU, ab]
   have e1 := dA (S := fun F => (i9 (dk q_)) (s9 n F)) (fun f x r => ∃ i : Nat, x = (fo (ey m), (m.tasks.length : Int), (i : Int), 0, 0, [], [], [], 0, 0, (List.range i).map (fun (k : Nat) => Dt m k), [], d6 (m.blocks.length : Int) (ey m), m.1, m.2.1, m.2.2.1, m.2.2.2.1, m.2.2.2.2.1, m.2.2.2.2.2.1, m.2.2.2.2.2.2) ∧ i ≤ m.tasks.length ∧ m.tasks.length < f + i ∧ r = (0, 0, [], [], [], 0, 0, il m, [], d6 (m.blocks.length : Int) (ey m), m.1, m.2.1, m.2.2.1, m.2.2.2.1, m.2.2.2.2.1, m.2.2.2.2.2.1, m.2.2.2.2.2.2)) (fun x r ⟨i, _, h1, h2, _⟩ => by omega) (fun f x F hF r => ?_) n (fo (ey m), (m.tasks.length : Int), 0, 0, 0, [], [], [], 0, 0, [], [], d6 (m.blocks.length : Int) (ey m), m.1, m.2.1, m.2.2.1, m.2.2.2.1, m.2.2.2.2.1, m.2.2.2.2.2.1, m.2.2.2.2.2.2) _ ⟨0, rfl, ai _, by omega, rfl⟩
   ·unfold x0
    show (it _ n (fo (ey m), ((fo (ey m)).length : Int), 0, 0, 0, [], [], [], 0, 0, [], [], d6 (m.blocks.length : Int) (ey m), m.1, m.2.1, m.2.2.1, m.2.2.2.1, m.2.2.2.2.1, m.2.2.2.2.2.1, m.2.2.2.2.2.2)).bind _ = _
    rw [show (fo (ey m)).length = m.tasks.length by rw [vj, oW], e1, ab]
    show (kv n (il m)).bind _ = _
    rw [SX n (by omega) (by omega) (A6 hz) (Ih hz hd), ab]
   ·rintro ⟨i, rfl, h1, h2, rfl⟩
    show s9 n F (fo (ey m)) (m.tasks.length : Int) (i : Int) 0 0 [] [] [] 0 0 ((List.range i).map (fun (k : Nat) => Dt m k)) [] (d6 (m.blocks.length : Int) (ey m)) m.1 m.2.1 m.2.2.1 m.2.2.2.1 m.2.2.2.2.1 m.2.2.2.2.2.1 m.2.2.2.2.2.2 = _
    unfold s9
    rcases aj i m.tasks.length with hlt | hge
    ·rw [if_pos (af (by omega)), if_pos (cZ (by rw [vj, oW]; exact hlt)), L7 n (by omega) (by omega) m i hlt, ab, if_pos (oX (i := i) (by rw [aO, bF]; exact ar _) (by omega) (by decide)), dd (by omega)]
     refine hF _ _ ⟨i + 1, ?_, by omega, by omega, rfl⟩
     rw [← pI, hn]
     rfl
    ·have : i = m.tasks.length := by omega
     subst this
     rw [if_neg (by simp)]
     rfl
  ·rintro ⟨i, rfl, h1, h2, rfl⟩
   show s8 n F ((List.range i).map (fun (k : Nat) => Ln m k)) (m.tasks.length : Int) (i : Int) m.1 m.2.1 m.2.2.1 m.2.2.2.1 m.2.2.2.2.1 m.2.2.2.2.2.1 m.2.2.2.2.2.2 0 0 [] [] [] m.1 m.2.1 m.2.2.1 m.2.2.2.1 m.2.2.2.2.1 m.2.2.2.2.2.1 m.2.2.2.2.2.2 = _
   unfold s8
   rcases aj i m.tasks.length with hlt | hge
   ·rw [if_pos (af (by omega)), L6 n (by omega) (by omega) m i hlt, ab, if_pos (oX (i := i) (by rw [aO, bF]; exact ar _) (by omega) (by decide)), dd (by omega)]
    refine hF _ _ ⟨i + 1, ?_, by omega, by omega, rfl⟩
    rw [← pI, hn]
    rfl
   ·have : i = m.tasks.length := by omega
    subst this
    rw [if_neg (by simp)]
    rfl
theorem Pe (n : Nat) (hn : 200 < n) (hn2 : n < 1000000) {m : Img} (h : Sh.Sm V1 m) : ql n m = some 0 ∨ (ql n m = some 1 ∧ jK m ∧ Fd m) := by
 unfold ql
 rcases ST n hn hn2 h with e | ⟨e, hL⟩
 ·left
  rw [show pC n (m.1, m.2.1, m.2.2.1, m.2.2.2.1, m.2.2.2.2.1, m.2.2.2.2.2.1, m.2.2.2.2.2.2) = some 0 from e, ab]
  rfl
 ·rw [show pC n (m.1, m.2.1, m.2.2.1, m.2.2.2.1, m.2.2.2.2.1, m.2.2.2.2.2.1, m.2.2.2.2.2.2) = some 1 from e, ab, if_neg (by decide)]
  have h80 := hL.1
  unfold wM
  by_cases hD : Fd m
  ·right
   refine ⟨?_, hL, hD⟩
   have := dA (S := fun F => (dy (dk q_)) (l8 n F)) (fun f x r => ∃ i : Nat, x = ((i : Int), m.1, m.2.1, m.2.2.1, m.2.2.2.1, m.2.2.2.2.1, m.2.2.2.2.2.1, m.2.2.2.2.2.2) ∧ i ≤ m.tasks.length ∧ m.tasks.length < f + i ∧ r = .inr ((), ((m.1, m.2.1, m.2.2.1, m.2.2.2.1, m.2.2.2.2.1, m.2.2.2.2.2.1, m.2.2.2.2.2.2, ()), ()))) (fun x r ⟨i, _, h1, h2, _⟩ => by omega) (fun f x F hF r => ?_) n (0, m.1, m.2.1, m.2.2.1, m.2.2.2.1, m.2.2.2.2.1, m.2.2.2.2.2.1, m.2.2.2.2.2.2) _ ⟨0, rfl, ai _, by omega, rfl⟩
   ·rw [this]; rfl
   ·rintro ⟨i, rfl, h1, h2, rfl⟩
    show l8 n F (i : Int) m.1 m.2.1 m.2.2.1 m.2.2.2.1 m.2.2.2.2.1 m.2.2.2.2.2.1 m.2.2.2.2.2.2 = _
    unfold l8
    rcases aj i m.tasks.length with hlt | hge
    ·rw [if_pos (af (show (i : Int) < (m.tasks.length : Int) by omega)), if_pos (cZ hlt)]
     have hm := hD _ (Lo hlt)
     by_cases c : (dI m (i : Int)).2.2.1 > 20000
     ·rw [if_pos (af c), if_pos (cZ hlt), if_neg (fun e => hm ⟨c, ay e⟩), dd (by omega)]
      exact hF _ _ ⟨i + 1, rfl, by omega, by omega, rfl⟩
     ·rw [if_neg (fun e => c (ay e)), dd (by omega)]
      exact hF _ _ ⟨i + 1, rfl, by omega, by omega, rfl⟩
    ·have : i = m.tasks.length := by omega
     subst this
     rw [if_neg (by simp)]
  ·left
   have hex : ∃ t ∈ m.tasks, t.2.2.1 > 20000 ∧ t.2.2.1 ≤ 1048576 := by
    refine cR fun hn => hD fun t ht c => hn ⟨t, ht, c⟩
   obtain ⟨t, ht, hc⟩ := hex
   obtain ⟨k, hk, rfl⟩ := ck ht
   have hg : dI m (k : Int) = m.tasks[k] := by
    show m.tasks.getD (k : Int).toNat _ = _
    rw [ah, ao, au hk]
    rfl
   rw [← hg] at hc
   have := dA (S := fun F => (dy (dk q_)) (l8 n F)) (fun f x r => ∃ i : Nat, x = ((i : Int), m.1, m.2.1, m.2.2.1, m.2.2.2.1, m.2.2.2.2.1, m.2.2.2.2.2.1, m.2.2.2.2.2.2) ∧ i ≤ k ∧ m.tasks.length < f + i ∧ r = .inl ((0, ()), ((m.1, m.2.1, m.2.2.1, m.2.2.2.1, m.2.2.2.2.1, m.2.2.2.2.2.1, m.2.2.2.2.2.2, ()), ()))) (fun x r ⟨i, _, h1, h2, _⟩ => by omega) (fun f x F hF r => ?_) n (0, m.1, m.2.1, m.2.2.1, m.2.2.2.1, m.2.2.2.2.1, m.2.2.2.2.2.1, m.2.2.2.2.2.2) _ ⟨0, rfl, ai _, by omega, rfl⟩
   ·rw [this]; rfl
   ·rintro ⟨i, rfl, h1, h2, rfl⟩
    show l8 n F (i : Int) m.1 m.2.1 m.2.2.1 m.2.2.2.1 m.2.2.2.2.1 m.2.2.2.2.2.1 m.2.2.2.2.2.2 = _
    unfold l8
    have hlt : i < m.tasks.length := by omega
    rw [if_pos (af (show (i : Int) < (m.tasks.length : Int) by omega)), if_pos (cZ hlt)]
    by_cases c : (dI m (i : Int)).2.2.1 > 20000
    ·by_cases c2 : (dI m (i : Int)).2.2.1 ≤ 1048576
     ·rw [if_pos (af c), if_pos (cZ hlt), if_pos (af c2)]
     ·rw [if_pos (af c), if_pos (cZ hlt), if_neg (fun e => c2 (ay e)), dd (by omega)]
      refine hF _ _ ⟨i + 1, rfl, ?_, by omega, rfl⟩
      have : i ≠ k := fun e => c2 (e ▸ hc.2)
      omega
    ·rw [if_neg (fun e => c (ay e)), dd (by omega)]
     refine hF _ _ ⟨i + 1, rfl, ?_, by omega, rfl⟩
     have : i ≠ k := fun e => c (e ▸ hc.1)
     omega
theorem S0 {α : Type} {l : List α} {i : Nat} {d : α} (hlt : i < l.length) : l.take i ++ [l.getD i d] = l.take (i + 1) := by
 rw [cj, au hlt, ao, au hlt]
 rfl
theorem Pf (n : Nat) (hn : n < 1000000) (l : List Row) (hl : l.length < n) : EB n l = some l := by
 unfold EB yn
 have := dA (S := fun F => (C_ q_) (tf n F)) (fun f x r => ∃ i : Nat, x = (l, l.take i, (i : Int)) ∧ i ≤ l.length ∧ l.length < f + i ∧ r = l) (fun x r ⟨i, _, h1, h2, _⟩ => by omega) (fun f x F hF r => ?_) n (l, [], 0) _ ⟨0, rfl, ai _, by omega, rfl⟩
 ·rw [this]; rfl
 ·rintro ⟨i, rfl, h1, h2, rfl⟩
  show tf n F r (r.take i) (i : Int) = _
  unfold tf
  rcases aj i r.length with hlt | hge
  ·rw [if_pos (af (by omega)), if_pos (cZ hlt), if_pos (cZ hlt), if_pos (cZ hlt), if_pos (cZ hlt), if_pos (cZ hlt), if_pos (cZ hlt), if_pos (oX (i := i) (by rw [bX]; omega) (by omega) (by decide)), dd (by omega)]
   refine hF _ _ ⟨i + 1, ?_, by omega, by omega, rfl⟩
   rw [← S0 (d := dv) hlt]
   rfl
  ·have : i = r.length := by omega
   subst this
   rw [if_neg (by simp), cy]
theorem Pg (n : Nat) (hn : n < 1000000) (v : Vd) (hl : v.2.2.1.length < n) : fA n v = some v := by
 unfold fA
 rw [Pf n hn _ hl]
 rfl
theorem S1 (n : Nat) (hn : n < 1000000) (l : List Row) (hl : l.length < n) : EC n l l = some true := by
 unfold EC yp
 rw [if_neg (by simp)]
 have := dA (S := fun F => (C_ q_) (th n F)) (fun f x r => ∃ i : Nat, x = (l, l, (i : Int)) ∧ i ≤ l.length ∧ l.length < f + i ∧ r = .inr ((), ())) (fun x r ⟨i, _, h1, h2, _⟩ => by omega) (fun f x F hF r => ?_) n (l, l, 0) _ ⟨0, rfl, ai _, by omega, rfl⟩
 ·rw [this]; rfl
 ·rintro ⟨i, rfl, h1, h2, rfl⟩
  show th n F l l (i : Int) = _
  unfold th
  rcases aj i l.length with hlt | hge
  ·rw [if_pos (af (by omega)), if_pos (cZ hlt), if_pos (cZ hlt), if_neg (by simp), dd (by omega)]
   exact hF _ _ ⟨i + 1, rfl, by omega, by omega, rfl⟩
  ·have : i = l.length := by omega
   subst this
   rw [if_neg (by simp)]
theorem S2 (n : Nat) (hn : n < 1000000) (v : Vd) (h1 : v.2.2.1.length < n) (h2 : v.2.2.2.1.length < n) (h3 : v.2.2.2.2.length < n) : fT n v v = some true := by
 unfold fT
 rw [if_pos (aY _), if_pos (aY _), S1 n hn _ h1, ab, if_pos rfl, Ap n hn _ _ h2, ab, if_pos (by simp), Ap n hn _ _ h3, ab]
 simp
theorem Lr (R : Nat → Int × Int) : ∀ (k i : Nat) (o : List Int), (Au R k i o).1.length ≤ k + o.length
 | 0, _, o => by unfold Au; simp
 | k + 1, i, o => by
  unfold Au
  split
  ·simp
  ·have := Lr R k (i + 1) (o ++ [(R i).1])
   rw [aJ] at this
   simp only [aI, bC] at this
   omega
theorem Ph (m : Img) : (eR m).2.2.1.length ≤ 8 ∧ (eR m).2.2.2.1.length ≤ 8 ∧ (eR m).2.2.2.2.length ≤ 8 := by
 unfold eR
 by_cases h : (fG 30000 m).2 ≠ 0
 ·rw [if_pos h]; exact ⟨by simp, by simp, by simp⟩
 ·rw [if_neg h]
  have hz := Decidable.not_not.1 h
  have hr := (A6 hz).len
  have hb := (Gc hz).bl
  refine ⟨hr, ?_, ?_⟩
  ·have := Lr (jZ (il m)) (il m).length 0 []
   simp only [bC] at this
   show (Au (jZ (il m)) (il m).length 0 []).1.length ≤ 8
   omega
  ·show (d6 (m.blocks.length : Int) (ey m)).length ≤ 8
   rw [nt]
   omega
theorem nv (a0 : (Int × (Int × (Int × (Int × ((List Int) × ((List (List Int)) × (List (Int × (Int × (Int × (Int × ((List Int) × ((List Int) × (List (Int × (Int × Int))))))))))))))))) (ok0 : Sh.Ok (.pair (.int .i64) (.pair (.int .i64) (.pair (.int .i64) (.pair (.int .i64) (.pair (.sl (.int .i64)) (.pair (.sl (.sl (.int .i64))) (.sl (.pair (.int .i64) (.pair (.int .i64) (.pair (.int .i64) (.pair (.int .i64) (.pair (.sl (.int .i64)) (.pair (.sl (.int .i64)) (.sl (.pair (.int .i64) (.pair (.int .i64) (.int .i64))))))))))))))))) a0) (sm0 : Sh.Sm (.pair (.int .i64) (.pair (.int .i64) (.pair (.int .i64) (.pair (.int .i64) (.pair (.sl (.int .i64)) (.pair (.sl (.sl (.int .i64))) (.sl (.pair (.int .i64) (.pair (.int .i64) (.pair (.int .i64) (.pair (.int .i64) (.pair (.sl (.int .i64)) (.pair (.sl (.int .i64)) (.sl (.pair (.int .i64) (.pair (.int .i64) (.int .i64))))))))))))))))) a0) : ∃ n, gB n a0 = some true := by
 refine ⟨30000, ?_⟩
 unfold gB
 have hi := aaW ok0
 have hV := Ph a0
 rcases Pe 30000 (by decide) (by decide) sm0 with h | ⟨h, hL, hD⟩
 ·rw [show ql 30000 (a0.1, a0.2.1, a0.2.2.1, a0.2.2.2.1, a0.2.2.2.2.1, a0.2.2.2.2.2.1, a0.2.2.2.2.2.2) = some 0 from h, ab, if_pos (by decide), ND]
  rfl
 ·rw [show ql 30000 (a0.1, a0.2.1, a0.2.2.1, a0.2.2.2.1, a0.2.2.2.2.1, a0.2.2.2.2.2.1, a0.2.2.2.2.2.2) = some 1 from h, ab, if_neg (by decide)]
  rw [show ta 30000 (a0.1, a0.2.1, a0.2.2.1, a0.2.2.2.1, a0.2.2.2.2.1, a0.2.2.2.2.2.1, a0.2.2.2.2.2.2) = _ from V9 30000 rfl a0 hD, ab]
  rw [show fA 30000 ((eR a0).1, (eR a0).2.1, (eR a0).2.2.1, (eR a0).2.2.2.1, (eR a0).2.2.2.2) = _ from Pg 30000 (by decide) (eR a0) (by omega), ab]
  rw [show yy 30000 (a0.1, a0.2.1, a0.2.2.1, a0.2.2.2.1, a0.2.2.2.2.1, a0.2.2.2.2.2.1, a0.2.2.2.2.2.2) = some a0 from O3 30000 (by decide) a0 (by have := hL.1; omega), ab]
  rw [show zW 30000 (a0.1, a0.2.1, a0.2.2.1, a0.2.2.2.1, a0.2.2.2.2.1, a0.2.2.2.2.2.1, a0.2.2.2.2.2.2) = _ from L8 30000 rfl a0 hL hD hi, ab]
  rw [show fT 30000 ((eR a0).1, (eR a0).2.1, (eR a0).2.2.1, (eR a0).2.2.2.1, (eR a0).2.2.2.2) ((eR a0).1, (eR a0).2.1, (eR a0).2.2.1, (eR a0).2.2.2.1, (eR a0).2.2.2.2) = _ from S2 30000 (by decide) (eR a0) (by omega) (by omega) (by omega), ab, if_pos rfl, ND]
  rfl
end Go.Proofs.Dk
