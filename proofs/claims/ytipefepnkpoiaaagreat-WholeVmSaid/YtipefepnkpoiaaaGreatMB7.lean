/- A part of the proofs: Plain: whether an image can be. -/
import Derived.Test.YtipefepnkpoiaaaGreatMB6
import Derived.Test.YtipefepnkpoiaaaGreatMB5
import Derived.Test.YtipefepnkpoiaaaGreatMB4
set_option linter.unusedVariables false
set_option linter.unusedSimpArgs false
noncomputable section
namespace Go.Proofs.Dk
open Go Go.IntKind
set_option maxRecDepth 100000
def apart : List Int → List Int → Bool
 | _, [] => true
 | s, x :: l => !s.contains x && apart (s ++ [x]) l
def mQ : List Int → List Int → List Int
 | s, [] => s
 | s, x :: l => if s.contains x = true then s else mQ (s ++ [x]) l
theorem Bf : ∀ {l s : List Int}, apart s l = true → mQ s l = s ++ l
 | [], s, _ => by simp [mQ]
 | x :: l, s, h => by
  unfold apart at h
  rw [aj, bU] at h
  unfold mQ
  rw [if_neg (by rw [h.1]; decide), Bf h.2, aH]
  rfl
theorem vi : ∀ {l k s : List Int}, apart s (l ++ k) = (apart s l && apart (s ++ l) k)
 | [], k, s => by simp [apart]
 | x :: l, k, s => by
  rw [List.cons_append, show apart s (x :: (l ++ k)) = (!s.contains x && apart (s ++ [x]) (l ++ k)) from rfl, show apart s (x :: l) = (!s.contains x && apart (s ++ [x]) l) from rfl, vi, Bool.and_assoc, aH]
  rfl
def own (s : List Int) : List Bool := (List.range 16).map fun i => s.contains ((i : Nat) : Int)
theorem MD (s : List Int) {o : Int} (h0 : 0 ≤ o) (h1 : o < 16) : (own s).getD o.toNat false = s.contains o := by
 unfold own
 rw [ao, bK, List.getElem?_range (by omega)]
 simp [Int.toNat_of_nonneg h0]
theorem ME (s : List Int) {o : Int} (h0 : 0 ≤ o) (h1 : o < 16) : (own s).set o.toNat true = own (s ++ [o]) := by
 apply List.ext_getElem
 ·simp [own]
 ·intro i h2 h3
  have hi : i < 16 := by simpa [own] using h3
  rw [List.getElem_set]
  unfold own
  simp only [List.getElem_map, List.getElem_range, List.contains_append]
  by_cases h : o.toNat = i
  ·rw [if_pos h]
   have : ((i : Nat) : Int) = o := by omega
   rw [this]
   simp
  ·rw [if_neg h]
   have : ((i : Nat) : Int) ≠ o := by omega
   simp [this]
theorem GS (n : Nat) (m : Img) (T : List Tsk) (a k : Int) (l : List Int) (hl : l.length < n) (hn : n < 1000000) (hb : ∀ x ∈ l, 0 ≤ x ∧ x < 16) (s : List Int) : rJ n (T, a, k, l, (l.length : Int), 0, m.1, m.2.1, m.2.2.1, m.2.2.2.1, m.2.2.2.2.1, m.2.2.2.2.2.1, m.2.2.2.2.2.2, own s) = some (if apart s l = true then .inr ((T, a, k, ()), ((m.1, m.2.1, m.2.2.1, m.2.2.2.1, m.2.2.2.2.1, m.2.2.2.2.2.1, m.2.2.2.2.2.2, ()), (own (mQ s l), ()), ())) else .inl ((false, ()), ((m.1, m.2.1, m.2.2.1, m.2.2.2.1, m.2.2.2.2.1, m.2.2.2.2.2.1, m.2.2.2.2.2.2, ()), (own (mQ s l), ()), ()))) := by
 unfold rJ
 refine jH (S := fun F => (fB (en q_)) (uw n F))
  (fun f x r => ∃ (i : Nat) (s : List Int), x = (T, a, k, l, (l.length : Int), (i : Int), m.1, m.2.1, m.2.2.1, m.2.2.2.1, m.2.2.2.2.1, m.2.2.2.2.2.1, m.2.2.2.2.2.2, own s) ∧ i ≤ l.length ∧ l.length < f + i ∧ r = if apart s (l.drop i) = true then .inr ((T, a, k, ()), ((m.1, m.2.1, m.2.2.1, m.2.2.2.1, m.2.2.2.2.1, m.2.2.2.2.2.1, m.2.2.2.2.2.2, ()), (own (mQ s (l.drop i)), ()), ())) else .inl ((false, ()), ((m.1, m.2.1, m.2.2.1, m.2.2.2.1, m.2.2.2.2.1, m.2.2.2.2.2.1, m.2.2.2.2.2.2, ()), (own (mQ s (l.drop i)), ()), ()))) (fun x r ⟨i, s, _, h1, h2, _⟩ => by omega) (fun f x F hF r => ?_) n _ _ ⟨0, s, rfl, aB _, by omega, rfl⟩
 rintro ⟨i, s, rfl, h1, h2, rfl⟩
 show uw n F T a k l (l.length : Int) (i : Int) m.1 m.2.1 m.2.2.1 m.2.2.2.1 m.2.2.2.2.1 m.2.2.2.2.2.1 m.2.2.2.2.2.2 (own s) = _
 unfold uw
 rcases am i l.length with hlt | hge
 ·have hm : l.getD i 0 ∈ l := by rw [ao, aw hlt]; exact bo hlt
  obtain ⟨h3, h4⟩ := hb _ hm
  have h5 : (decide (0 ≤ l.getD i 0) && decide (l.getD i 0 < 16)) = true := by rw [af h3, af h4]; rfl
  rw [if_pos (af (by omega)), if_pos (de hlt), ag, if_pos h5, MD s h3 h4, eJ (d := (0 : Int)) hlt, dC (by omega)]
  unfold apart mQ
  cases h : s.contains (l.getD i 0) with
  | true => rfl
  | false =>
   rw [if_neg (show ¬ (false = true) by decide), if_neg (show ¬ (false = true) by decide), if_pos h5, ME s h3 h4, Bool.not_false, aT]
   exact hF _ _ ⟨i + 1, _, rfl, by omega, by omega, rfl⟩
 ·have : i = l.length := by omega
  subst this
  rw [if_neg (by simp), bC]
  rfl
def TasksOk (m : Img) : List Int → List Tsk → Prop
 | _, [] => True
 | s, t :: l => lR m t ∧ apart s t.outs = true ∧ TasksOk m (s ++ t.outs) l
theorem TasksOk.all {m : Img} : ∀ {l : List Tsk} {s : List Int}, TasksOk m s l ↔ (∀ t ∈ l, lR m t) ∧ apart s (l.flatMap Tsk.outs) = true
 | [], s => by simp [TasksOk, apart]
 | t :: l, s => by
  unfold TasksOk
  rw [TasksOk.all, cI, vi, aj, List.forall_mem_cons]
  exact ⟨fun ⟨h1, h2, h3, h4⟩ => ⟨⟨h1, h3⟩, h2, h4⟩, fun ⟨⟨h1, h3⟩, h2, h4⟩ => ⟨h1, h2, h3, h4⟩⟩
open Classical in
def zp (m : Img) : List Int → List Tsk → List Int
 | s, [] => s
 | s, t :: l => if lR m t then (if apart s t.outs = true then zp m (s ++ t.outs) l else mQ s t.outs) else s
theorem GT (n : Nat) (hn : 200 < n) (hn2 : n < 1000000) (m : Img) (hbl : m.blocks.length + 1 < n) (hs : m.safe.length ≤ 16) (hT : m.tasks.length < n) :
  Says ((rK n (m.tasks, (m.tasks.length : Int), 0, m.1, m.2.1, m.2.2.1, m.2.2.2.1, m.2.2.2.2.1, m.2.2.2.2.2.1, m.2.2.2.2.2.2, own [])).bind fun y => Sum.elim (fun z => some z.1.1) (fun z => some true) y) (TasksOk m [] m.tasks) := by
 unfold rK
 have hit := jH (S := fun F => (fB (C_ q_)) (uy n F))
  (fun f x r => ∃ (i : Nat) (s : List Int) (c : Bool), x = (m.tasks, (m.tasks.length : Int), (i : Int), m.1, m.2.1, m.2.2.1, m.2.2.2.1, m.2.2.2.2.1, m.2.2.2.2.2.1, m.2.2.2.2.2.2, own s) ∧ i ≤ m.tasks.length ∧ m.tasks.length < f + i ∧ (c = true ↔ TasksOk m s (m.tasks.drop i)) ∧ r = if c = true then .inr ((), ((m.1, m.2.1, m.2.2.1, m.2.2.2.1, m.2.2.2.2.1, m.2.2.2.2.2.1, m.2.2.2.2.2.2, ()), (own (zp m s (m.tasks.drop i)), ()), ())) else .inl ((false, ()), ((m.1, m.2.1, m.2.2.1, m.2.2.2.1, m.2.2.2.2.1, m.2.2.2.2.2.1, m.2.2.2.2.2.2, ()), (own (zp m s (m.tasks.drop i)), ()), ()))) (fun x r ⟨i, s, c, _, h1, h2, _⟩ => by omega) (fun f x F hF r => ?_) n (m.tasks, (m.tasks.length : Int), 0, m.1, m.2.1, m.2.2.1, m.2.2.2.1, m.2.2.2.2.1, m.2.2.2.2.2.1, m.2.2.2.2.2.2, own [])
 ·have := Classical.propDecidable (TasksOk m [] m.tasks)
  refine ⟨decide (TasksOk m [] m.tasks), ?_, cf⟩
  rw [hit _ ⟨0, [], decide (TasksOk m [] m.tasks), rfl, aB _, by omega, cf, rfl⟩, ae]
  cases decide (TasksOk m [] m.tasks) <;> rfl
 ·rintro ⟨i, s, c, rfl, h1, h2, hc, rfl⟩
  show uy n F m.tasks (m.tasks.length : Int) (i : Int) m.1 m.2.1 m.2.2.1 m.2.2.2.1 m.2.2.2.2.1 m.2.2.2.2.2.1 m.2.2.2.2.2.2 (own s) = _
  unfold uy
  rcases am i m.tasks.length with hlt | hge
  ·rw [eJ (d := ((0 : Int), (0 : Int), (0 : Int), (0 : Int), ([] : List Int), ([] : List Int), ([] : List db))) hlt] at hc ⊢
   rw [if_pos (af (by omega)), if_pos (de hlt), ag]
   generalize m.tasks.getD i (0, 0, 0, 0, [], [], []) = t at hc ⊢
   obtain ⟨b, e1, e2⟩ := BK n hn hn2 m t hbl (by omega)
   rw [show fS n (t.1, t.2.1, t.2.2.1, t.2.2.2.1, t.2.2.2.2.1, t.2.2.2.2.2.1, t.2.2.2.2.2.2) (m.1, m.2.1, m.2.2.1, m.2.2.2.1, m.2.2.2.2.1, m.2.2.2.2.2.1, m.2.2.2.2.2.2) = some b from e1, ae]
   cases b with
   | false =>
    have ht : ¬ lR m t := fun h => by have := e2.2 h; cases this
    have hc0 : c = false := by cases c with
     | false => rfl
     | true => exact absurd (hc.1 rfl).1 ht
    rw [hc0]
    unfold zp
    rw [if_neg ht]
    rfl
   | true =>
    have ht : lR m t := e2.1 rfl
    have hr := ht.2.2.1
    have hlen := hr.len (by omega)
    have hmem := hr.mem
    rw [if_neg (by decide), GS n m m.tasks _ _ t.outs (by omega) hn2 (fun x hx => by have := hmem x hx; omega) s, ae]
    unfold zp
    rw [if_pos ht]
    cases ha : apart s t.outs with
    | false =>
     have hc0 : c = false := by cases c with
      | false => rfl
      | true => have := (hc.1 rfl).2.1; rw [ha] at this; cases this
     rw [hc0]
     rfl
    | true =>
     rw [if_pos rfl, Bf ha, if_pos rfl]
     dsimp only [Sum.elim_inr]
     rw [dC (by omega)]
     exact hF _ _ ⟨i + 1, s ++ t.outs, c, rfl, by omega, by omega, hc.trans ⟨fun h => h.2.2, fun h => ⟨ht, ha, h⟩⟩, rfl⟩
  ·have : i = m.tasks.length := by omega
   subst this
   rw [bC] at hc ⊢
   rw [if_neg (by simp), if_pos (hc.2 trivial)]
   rfl
def zY (m : Img) : Prop := (0 ≤ m.1 ∧ m.1 ≤ 100) ∧ (1 ≤ m.2.1 ∧ m.2.1 ≤ 100) ∧ (1 ≤ m.2.2.1 ∧ m.2.2.1 ≤ 100) ∧ (0 ≤ m.2.2.2.1 ∧ m.2.2.2.1 ≤ 16) ∧ m.safe.length ≤ 16 ∧ m.blocks.length ≤ 8 ∧ (1 ≤ m.tasks.length ∧ m.tasks.length ≤ 8)
def li (l : List (List Int)) : Prop := ∀ b ∈ l, 1 ≤ b.length ∧ b.length ≤ 8
def RightP (m : Img) : Prop := zY m ∧ li m.blocks ∧ TasksOk m [] m.tasks
theorem GU (n : Nat) (hn2 : n < 1000000) (m : Img) (hT : m.blocks.length < n) (F : Option Bool) :
  ∃ c, (c = true ↔ li m.blocks) ∧ rI n (m.blocks, (m.blocks.length : Int), 0, m.1, m.2.1, m.2.2.1, m.2.2.2.1, m.2.2.2.2.1, m.2.2.2.2.2.1, m.2.2.2.2.2.2) = some (if c = true then .inr ((), ((m.1, m.2.1, m.2.2.1, m.2.2.2.1, m.2.2.2.2.1, m.2.2.2.2.2.1, m.2.2.2.2.2.2, ()), ())) else .inl ((false, ()), ((m.1, m.2.1, m.2.2.1, m.2.2.2.1, m.2.2.2.2.1, m.2.2.2.2.2.1, m.2.2.2.2.2.2, ()), ()))) := by
 unfold rI
 have := Classical.propDecidable (li m.blocks)
 refine ⟨decide (li m.blocks), cf, ?_⟩
 refine jH (S := fun F => (fB q_) (uv n F))
  (fun f x r => ∃ (i : Nat) (c : Bool), x = (m.blocks, (m.blocks.length : Int), (i : Int), m.1, m.2.1, m.2.2.1, m.2.2.2.1, m.2.2.2.2.1, m.2.2.2.2.2.1, m.2.2.2.2.2.2) ∧ i ≤ m.blocks.length ∧ m.blocks.length < f + i ∧ (c = true ↔ li (m.blocks.drop i)) ∧ r = if c = true then .inr ((), ((m.1, m.2.1, m.2.2.1, m.2.2.2.1, m.2.2.2.2.1, m.2.2.2.2.2.1, m.2.2.2.2.2.2, ()), ())) else .inl ((false, ()), ((m.1, m.2.1, m.2.2.1, m.2.2.2.1, m.2.2.2.2.1, m.2.2.2.2.2.1, m.2.2.2.2.2.2, ()), ()))) (fun x r ⟨i, c, _, h1, h2, _⟩ => by omega) (fun f x F hF r => ?_) n _ _ ⟨0, decide (li m.blocks), rfl, aB _, by omega, cf, rfl⟩
 rintro ⟨i, c, rfl, h1, h2, hc, rfl⟩
 show uv n F m.blocks (m.blocks.length : Int) (i : Int) m.1 m.2.1 m.2.2.1 m.2.2.2.1 m.2.2.2.2.1 m.2.2.2.2.2.1 m.2.2.2.2.2.2 = _
 unfold uv
 rcases am i m.blocks.length with hlt | hge
 ·rw [eJ (d := ([] : List Int)) hlt] at hc
  rw [if_pos (af (by omega)), if_pos (de hlt), ag]
  generalize m.blocks.getD i [] = b at hc ⊢
  have hc : c = true ↔ (1 ≤ b.length ∧ b.length ≤ 8) ∧ li (m.blocks.drop (i + 1)) := hc.trans List.forall_mem_cons
  have hno : ∀ (h : ¬ (1 ≤ b.length ∧ b.length ≤ 8)), c = false := fun h => by
   cases c with
   | false => rfl
   | true => exact absurd (hc.1 rfl).1 h
  by_cases g1 : b.length = 0
  ·rw [if_pos (ai.2 (by omega)), hno (by omega)]; rfl
  rw [if_neg (fun h => g1 (by have := ai.1 h; omega))]
  by_cases g2 : b.length ≤ 8
  ·rw [if_neg (by simp; omega), dC (by omega)]
   exact hF _ _ ⟨i + 1, c, rfl, by omega, by omega, hc.trans ⟨fun h => h.2, fun h => ⟨by omega, h⟩⟩, rfl⟩
  ·rw [if_pos (af (by omega)), hno (by omega)]; rfl
 ·have : i = m.blocks.length := by omega
  subst this
  rw [bC] at hc
  rw [if_neg (by simp), if_pos (hc.2 (fun b hb => by cases hb))]
theorem QB {a b c d e f g : Bool} {A B C D E F G : Prop} (ha : a = true ↔ A) (hb : b = true ↔ B) (hc : c = true ↔ C) (hd : d = true ↔ D) (he : e = true ↔ E) (hf : f = true ↔ F) (hg : g = true ↔ G) : (a && (b && (c && (d && (e && (f && g)))))) = true ↔ A ∧ B ∧ C ∧ D ∧ E ∧ F ∧ G := by
 simp only [aj, ha, hb, hc, hd, he, hf, hg]
theorem vj (n : Nat) (hn : 200 < n) (hn2 : n < 1000000) (m : Img) : Says (rL n m) (RightP m) := by
 unfold rL
 have hN : ∀ {b : Bool}, (b = true ↔ zY m) → ∀ {o : Option Bool}, (zY m → Says o (RightP m)) → Says (if (!b) = true then some false else o) (RightP m) := fun {b} hb {o} ho => by
  cases b with
  | false => exact Says.no (fun h => by have := hb.2 h.1; cases this)
  | true => exact ho (hb.1 rfl)
 refine hN ?_ ?_
 ·refine QB ?_ ?_ ?_ ?_ ?_ ?_ ?_
  all_goals (rw [ai])
  ·generalize m.1 = a; constructor <;> intro h <;> (repeat' split at *) <;> omega
  ·generalize m.2.1 = a; constructor <;> intro h <;> (repeat' split at *) <;> omega
  ·generalize m.2.2.1 = a; constructor <;> intro h <;> (repeat' split at *) <;> omega
  ·generalize m.2.2.2.1 = a; constructor <;> intro h <;> (repeat' split at *) <;> omega
  ·show (m.safe.length : Int) = _ ↔ _
   generalize m.safe.length = a; constructor <;> intro h <;> (repeat' split at *) <;> omega
  ·show (m.blocks.length : Int) = _ ↔ _
   generalize m.blocks.length = a; constructor <;> intro h <;> (repeat' split at *) <;> omega
  ·show (m.tasks.length : Int) = _ ↔ _
   generalize m.tasks.length = a; constructor <;> intro h <;> (repeat' split at *) <;> omega
 ·intro hI
  obtain ⟨_, _, _, _, h5, h6, h7⟩ := id hI
  obtain ⟨c, hc, e⟩ := GU n hn2 m (by omega) none
  rw [e, ae]
  cases c with
  | false => exact Says.no (fun h => by have := hc.2 h.2.1; cases this)
  | true => exact (GT n hn hn2 m (by omega) h5 (by omega)).iff ⟨fun h => ⟨hI, hc.1 rfl, h⟩, fun h => h.2.2⟩
def D9 (m : Img) : Prop := m.safe.length + m.blocks.length + m.tasks.length ≤ 80 ∧ ∀ t ∈ m.tasks, t.code.length ≤ 4019
theorem Bg (l : List db) : ∀ (r i p : Nat), i ≤ p → p < i + r → opAt l p = 23 → di l p ∈ jo l r i
 | 0, i, p, h1, h2, h3 => by omega
 | r + 1, i, p, h1, h2, h3 => by
  rw [show jo l (r + 1) i = mO l i ++ jo l r (i + 1) from rfl, aA]
  by_cases h : i = p
  ·subst h
   left
   unfold mO
   rw [if_pos h3]
   exact aD
  ·exact .inr (Bg l r (i + 1) p (by omega) (by omega) h3)
theorem GV {l : List db} (h : eg l = 0) {i : Nat} (hi : i < l.length) (ho : opAt l i = 17 ∨ opAt l i = 18) : di l i ∈ fY l := by
 have hb := Lg h hi
 unfold jY at hb
 rw [if_neg (by omega), if_pos ho, Bool.not_eq_false'] at hb
 unfold uU at hb
 obtain ⟨k, h1, h2⟩ := anyB_iff.1 hb
 simp only [aj, ai] at h2
 unfold fY
 rw [if_pos h, ← h2.2.2]
 exact Bg l _ _ k (aB _) (by omega) h2.2.1
theorem BL {m : Img} {t : Tsk} (hl : eg t.code = 0) (hb : fY t.code = t.blocks) (ht : lR m t) : ∀ i ∈ t.code, i.1 = 17 ∨ i.1 = 18 → 0 ≤ i.2.1 ∧ i.2.1 < (m.blocks.length : Int) := by
 intro x hx ho
 obtain ⟨i, hi, e⟩ := ct hx
 have e : t.code.getD i (0, 0, 0) = x := by rw [vP hi, e]
 have h := GV hl hi (by unfold opAt; rw [e]; exact ho)
 rw [hb] at h
 have := ht.2.1.mem _ h
 unfold di at this
 rw [e] at this
 omega
open Classical in
def nU (n : Nat) (m : Img) (i : Int) : Int :=
 if RightP m then
  if i < 0 ∨ i ≥ (m.tasks.length : Int) then 14
  else
   let t := m.tasks.getD i.toNat (0, 0, 0, 0, [], [], [])
   if (fE bM n t.code).2 ≠ 0 then (fE bM n t.code).2 else if fY t.code = t.blocks then (if t.code.all (lQ m t) = true then 0 else 12) else 11
 else 12
theorem RightP.task {m : Img} (h : RightP m) {i : Int} (h0 : 0 ≤ i) (h1 : i < (m.tasks.length : Int)) : lR m (m.tasks.getD i.toNat (0, 0, 0, 0, [], [], [])) ∧ m.tasks.getD i.toNat (0, 0, 0, 0, [], [], []) ∈ m.tasks := by
 have hlt : i.toNat < m.tasks.length := by omega
 have hm : m.tasks.getD i.toNat ((0 : Int), (0 : Int), (0 : Int), (0 : Int), ([] : List Int), ([] : List Int), ([] : List db)) ∈ m.tasks := by rw [ao, aw hlt]; exact bo hlt
 exact ⟨(TasksOk.all.1 h.2.2).1 _ hm, hm⟩
theorem MF (n : Nat) (hn : 200 < n) (hn2 : n < 1000000) (m : Img) (i : Int) : lE n m i = some (nU n m i) := by
 obtain ⟨b, e1, e2⟩ := vj n hn hn2 m
 unfold lE
 rw [show rL n (m.1, m.2.1, m.2.2.1, m.2.2.2.1, m.2.2.2.2.1, m.2.2.2.2.2.1, m.2.2.2.2.2.2) = some b from e1, ae]
 unfold nU
 cases b with
 | false =>
  rw [if_pos (show (!false) = true from rfl), if_neg (show ¬ RightP m from fun h => by have := e2.2 h; cases this)]
 | true =>
  have hR := e2.1 rfl
  rw [if_pos hR, if_neg (by decide)]
  by_cases h0 : i < 0
  ·rw [if_pos (af h0), if_pos (.inl h0)]
  rw [if_neg (by simpa using h0)]
  by_cases h1 : i ≥ (m.tasks.length : Int)
  ·rw [if_pos (show decide (i ≥ (m.2.2.2.2.2.2.length : Int)) = true from af h1), if_pos (.inr h1)]
  rw [if_neg (show ¬ decide (i ≥ (m.2.2.2.2.2.2.length : Int)) = true from fun h => h1 (ba h)), if_neg (show ¬ (i < 0 ∨ i ≥ (m.tasks.length : Int)) by omega), if_pos (show (decide (0 ≤ i) && decide (i < (m.2.2.2.2.2.2.length : Int))) = true by rw [af (by omega), af (show i < (m.2.2.2.2.2.2.length : Int) from by have : (m.tasks.length : Int) = (m.2.2.2.2.2.2.length : Int) := rfl; omega)]; rfl)]
  obtain ⟨ht, hm⟩ := hR.task (i := i) (by omega) (by omega)
  rw [show m.2.2.2.2.2.2.getD i.toNat (0, 0, 0, 0, [], [], []) = m.tasks.getD i.toNat (0, 0, 0, 0, [], [], []) from rfl]
  generalize m.tasks.getD i.toNat (0, 0, 0, 0, [], [], []) = t at ht ⊢
  have hc : t.code.length < n := by have := ht.2.2.2.2.1; omega
  have hol : t.outs.length < n := by have := ht.2.2.1.len (by omega); have := hR.1.2.2.2.2.1; omega
  have hS : ii n ((t.1, t.2.1, t.2.2.1, t.2.2.2.1, t.2.2.2.2.1, t.2.2.2.2.2.1, t.2.2.2.2.2.2), (m.1, m.2.1, m.2.2.1, m.2.2.2.1, m.2.2.2.2.1, m.2.2.2.2.2.1, m.2.2.2.2.2.2)) = some (fE bM n t.code).2 := by
   unfold ii
   rw [show gA n (((t.1, t.2.1, t.2.2.1, t.2.2.2.1, t.2.2.2.2.1, t.2.2.2.2.2.1, t.2.2.2.2.2.2), (m.1, m.2.1, m.2.2.1, m.2.2.2.1, m.2.2.2.2.1, m.2.2.2.2.2.1, m.2.2.2.2.2.2)) : Tsk × Img).1.2.2.2.2.2.2 = some (fE bM n t.code) from DN n t.code hc (by omega) hn2]
   rfl
  rw [hS, ae]
  dsimp only
  by_cases hz : (fE bM n t.code).2 ≠ 0
  ·rw [if_pos (ax.2 hz), if_pos hz]
  rw [if_neg (fun h => hz (ax.1 h)), if_neg hz]
  have hlk := (xU (Decidable.not_not.1 hz)).1
  have hB : uA n ((t.1, t.2.1, t.2.2.1, t.2.2.2.1, t.2.2.2.2.1, t.2.2.2.2.2.1, t.2.2.2.2.2.2), (m.1, m.2.1, m.2.2.1, m.2.2.2.1, m.2.2.2.2.1, m.2.2.2.2.2.1, m.2.2.2.2.2.2)) = some (if fY t.code = t.blocks then 0 else 11) := by
   have := Jn n t m hc (by omega) hn2
   rw [if_neg (fun h => h hlk)] at this
   exact this
  rw [hB, ae]
  by_cases hb : fY t.code = t.blocks
  ·rw [if_pos hb, if_pos hb, if_neg (by decide)]
   have hN : yN n ((t.1, t.2.1, t.2.2.1, t.2.2.2.1, t.2.2.2.2.1, t.2.2.2.2.2.1, t.2.2.2.2.2.2), (m.1, m.2.1, m.2.2.1, m.2.2.2.1, m.2.2.2.2.1, m.2.2.2.2.2.1, m.2.2.2.2.2.2)) = _ := Ls n t m hc hol hn2 (BL hlk hb ht)
   rw [hN, ae]
   cases t.code.all (lQ m t) <;> rfl
  ·rw [if_neg hb, if_neg hb]
   rfl
def eX (k : Nat) : Int := if (100 : Int) < (k : Int) then 100 else (k : Int)
def eM (k : Nat) : Int := if (10000 : Int) < (k : Int) then 10000 else (k : Int)
theorem lj (k : Nat) : 0 ≤ eX k ∧ eX k ≤ 100 := by unfold eX; split <;> omega
theorem pP (k : Nat) : 0 ≤ eM k ∧ eM k ≤ 10000 := by unfold eM; split <;> omega
def km (a : Int) (l : List (List Int)) : Int := l.foldl (fun a b => a + eX b.length) a
def np (a : Int) (l : List Tsk) : Int := l.foldl (fun a t => a + eX t.blocks.length + eX t.outs.length + (eM t.code.length).tdiv 20) a
theorem Bh : ∀ {l : List (List Int)} {a : Int}, a ≤ km a l ∧ km a l ≤ a + 100 * l.length
 | [], a => by simp [km]
 | b :: l, a => by
  have := Bh (l := l) (a := a + eX b.length)
  have := lj b.length
  rw [show km a (b :: l) = km (a + eX b.length) l from rfl, aI]
  omega
theorem Bi : ∀ {l : List Tsk} {a : Int}, a ≤ np a l ∧ ∀ t ∈ l, a + (eM t.code.length).tdiv 20 ≤ np a l
 | [], a => by simp [np]
 | t :: l, a => by
  obtain ⟨h1, h2⟩ := Bi (l := l) (a := a + eX t.blocks.length + eX t.outs.length + (eM t.code.length).tdiv 20)
  have h3 := lj t.blocks.length
  have h4 := lj t.outs.length
  have h5 := pP t.code.length
  have h6 : (eM t.code.length).tdiv 20 = eM t.code.length / 20 := cO h5.1
  rw [show np a (t :: l) = np (a + eX t.blocks.length + eX t.outs.length + (eM t.code.length).tdiv 20) l from rfl, List.forall_mem_cons]
  refine ⟨by omega, by omega, fun u hu => ?_⟩
  have := h2 u hu
  omega
theorem Jp (n : Nat) (hn : n < 1000000) (m : Img) (hT : m.blocks.length < n) (a : Int) (ha : 0 ≤ a ∧ a ≤ 80) : rE n (a, 0, m.1, m.2.1, m.2.2.1, m.2.2.2.1, m.2.2.2.2.1, m.2.2.2.2.2.1, m.2.2.2.2.2.2) = some (km a m.blocks, m.1, m.2.1, m.2.2.1, m.2.2.2.1, m.2.2.2.2.1, m.2.2.2.2.2.1, m.2.2.2.2.2.2) := by
 unfold rE
 refine jH (S := fun F => (en (eb (C_ q_))) (tQ n F))
  (fun f x r => ∃ (i : Nat) (b : Int), x = (b, (i : Int), m.1, m.2.1, m.2.2.1, m.2.2.2.1, m.2.2.2.2.1, m.2.2.2.2.2.1, m.2.2.2.2.2.2) ∧ i ≤ m.blocks.length ∧ m.blocks.length < f + i ∧ (0 ≤ b ∧ b ≤ 80 + 100 * i) ∧ r = (km b (m.blocks.drop i), m.1, m.2.1, m.2.2.1, m.2.2.2.1, m.2.2.2.2.1, m.2.2.2.2.2.1, m.2.2.2.2.2.2)) (fun x r ⟨i, b, _, h1, h2, _⟩ => by omega) (fun f x F hF r => ?_) n _ _ ⟨0, a, rfl, aB _, by omega, by omega, rfl⟩
 rintro ⟨i, b, rfl, h1, h2, hb, rfl⟩
 show tQ n F b (i : Int) m.1 m.2.1 m.2.2.1 m.2.2.2.1 m.2.2.2.2.1 m.2.2.2.2.2.1 m.2.2.2.2.2.2 = _
 unfold tQ
 rcases am i m.blocks.length with hlt | hge
 ·rw [if_pos (show decide ((i : Int) < (m.2.2.2.2.2.1.length : Int)) = true from af (by exact_mod_cast hlt)), if_pos (show (decide (0 ≤ (i : Int)) && decide ((i : Int) < (m.2.2.2.2.2.1.length : Int))) = true from de hlt), ag, dC (by omega), eJ (d := ([] : List Int)) hlt]
  have hc := lj (m.blocks.getD i []).length
  show F (wrap .i64 (b + eX (m.blocks.getD i []).length), _) = _
  rw [dT (show -9223372036854775808 ≤ b + eX (m.blocks.getD i []).length by omega) (show b + eX (m.blocks.getD i []).length ≤ 9223372036854775807 by omega)]
  exact hF _ _ ⟨i + 1, _, rfl, by omega, by omega, by omega, rfl⟩
 ·have : i = m.blocks.length := by omega
  subst this
  rw [if_neg (by simp), bC]
  rfl
theorem Jq (n : Nat) (hn : n < 1000000) (m : Img) (hT : m.tasks.length < n) (hB : m.blocks.length < n) (a : Int) (ha : 0 ≤ a ∧ a ≤ 80 + 100 * m.blocks.length) : oF n (a, 0, m.1, m.2.1, m.2.2.1, m.2.2.2.1, m.2.2.2.2.1, m.2.2.2.2.2.1, m.2.2.2.2.2.2) = some (np a m.tasks, m.1, m.2.1, m.2.2.1, m.2.2.2.1, m.2.2.2.2.1, m.2.2.2.2.2.1, m.2.2.2.2.2.2) := by
 unfold oF
 refine jH (S := fun F => (en (eb (C_ q_))) (tR n F))
  (fun f x r => ∃ (i : Nat) (b : Int), x = (b, (i : Int), m.1, m.2.1, m.2.2.1, m.2.2.2.1, m.2.2.2.2.1, m.2.2.2.2.2.1, m.2.2.2.2.2.2) ∧ i ≤ m.tasks.length ∧ m.tasks.length < f + i ∧ (0 ≤ b ∧ b ≤ 80 + 100 * m.blocks.length + 700 * i) ∧ r = (np b (m.tasks.drop i), m.1, m.2.1, m.2.2.1, m.2.2.2.1, m.2.2.2.2.1, m.2.2.2.2.2.1, m.2.2.2.2.2.2)) (fun x r ⟨i, b, _, h1, h2, _⟩ => by omega) (fun f x F hF r => ?_) n _ _ ⟨0, a, rfl, aB _, by omega, by omega, rfl⟩
 rintro ⟨i, b, rfl, h1, h2, hb, rfl⟩
 show tR n F b (i : Int) m.1 m.2.1 m.2.2.1 m.2.2.2.1 m.2.2.2.2.1 m.2.2.2.2.2.1 m.2.2.2.2.2.2 = _
 unfold tR
 rcases am i m.tasks.length with hlt | hge
 ·rw [if_pos (show decide ((i : Int) < (m.2.2.2.2.2.2.length : Int)) = true from af (by exact_mod_cast hlt)), if_pos (show (decide (0 ≤ (i : Int)) && decide ((i : Int) < (m.2.2.2.2.2.2.length : Int))) = true from de hlt), ag, dC (by omega), eJ (d := ((0 : Int), (0 : Int), (0 : Int), (0 : Int), ([] : List Int), ([] : List Int), ([] : List db))) hlt]
  rw [show m.2.2.2.2.2.2.getD i (0, 0, 0, 0, [], [], []) = m.tasks.getD i (0, 0, 0, 0, [], [], []) from rfl]
  generalize m.tasks.getD i (0, 0, 0, 0, [], [], []) = t
  have h3 := lj t.blocks.length
  have h4 := lj t.outs.length
  have h5 := pP t.code.length
  have h6 : (eM t.code.length).tdiv 20 = eM t.code.length / 20 := cO h5.1
  show F (wrap .i64 (wrap .i64 (wrap .i64 (b + eX t.blocks.length) + eX t.outs.length) + wrap .i64 ((eM t.code.length).tdiv 20)), _) = _
  rw [dT (e := (eM t.code.length).tdiv 20) (by omega) (by omega), dT (e := b + eX t.blocks.length) (by omega) (by omega), dT (e := b + eX t.blocks.length + eX t.outs.length) (by omega) (by omega), dT (e := b + eX t.blocks.length + eX t.outs.length + (eM t.code.length).tdiv 20) (by omega) (by omega)]
  exact hF _ _ ⟨i + 1, _, rfl, by omega, by omega, by omega, rfl⟩
 ·have : i = m.tasks.length := by omega
  subst this
  rw [if_neg (by simp), bC]
  rfl
theorem Lt (n : Nat) (hn0 : 200 < n) (hn : n < 1000000) (m : Img) (hs : m.safe.length < 9000000000000000 ∧ m.blocks.length < 9000000000000000 ∧ m.tasks.length < 9000000000000000) : nN n m = some 0 ∨ (nN n m = some 1 ∧ D9 m) := by
 unfold nN
 have e : wrap .i64 (wrap .i64 ((m.safe.length : Int) + (m.blocks.length : Int)) + (m.tasks.length : Int)) = (m.safe.length : Int) + (m.blocks.length : Int) + (m.tasks.length : Int) := by
  rw [dT (e := (m.safe.length : Int) + (m.blocks.length : Int)) (by omega) (by omega), dT (by omega) (by omega)]
 rw [show wrap .i64 (wrap .i64 ((m.2.2.2.2.1.length : Int) + (m.2.2.2.2.2.1.length : Int)) + (m.2.2.2.2.2.2.length : Int)) = (m.safe.length : Int) + (m.blocks.length : Int) + (m.tasks.length : Int) from e]
 by_cases h : (m.safe.length : Int) + (m.blocks.length : Int) + (m.tasks.length : Int) > 80
 ·rw [if_pos (af h)]
  exact .inl rfl
 rw [if_neg (by simpa using h), Jp n hn m (by omega) _ (by omega), ae]
 obtain ⟨hB1, hB2⟩ := Bh (l := m.blocks) (a := (m.safe.length : Int) + (m.blocks.length : Int) + (m.tasks.length : Int))
 rw [show oF n _ = _ from Jq n hn m (by omega) (by omega) (km ((m.safe.length : Int) + (m.blocks.length : Int) + (m.tasks.length : Int)) m.blocks) (by omega), ae]
 dsimp only
 obtain ⟨hT1, hT2⟩ := Bi (l := m.tasks) (a := km ((m.safe.length : Int) + (m.blocks.length : Int) + (m.tasks.length : Int)) m.blocks)
 split
 ·exact .inl rfl
 ·rename_i h2
  have h2 : np (km ((m.safe.length : Int) + (m.blocks.length : Int) + (m.tasks.length : Int)) m.blocks) m.tasks ≤ 200 := by simpa using h2
  refine .inr ⟨rfl, by omega, fun t ht => ?_⟩
  have h3 := hT2 t ht
  have h5 := pP t.code.length
  have h6 : (eM t.code.length).tdiv 20 = eM t.code.length / 20 := cO h5.1
  have h7 : eM t.code.length ≤ 4019 := by omega
  unfold eM at h7
  split at h7 <;> omega
abbrev qJ (m : Img) (i : Int) : Tsk := m.tasks.getD i.toNat (0, 0, 0, 0, [], [], [])
theorem GW {n : Nat} {m : Img} {i : Int} (h : nU n m i = 0) : RightP m ∧ (0 ≤ i ∧ i < (m.tasks.length : Int)) ∧ (fE bM n (qJ m i).code).2 = 0 ∧ fY (qJ m i).code = (qJ m i).blocks ∧ (qJ m i).code.all (lQ m (qJ m i)) = true := by
 unfold nU at h
 split at h
 ·rename_i hR
  split at h
  ·cases h
  ·dsimp only at h
   split at h
   ·rename_i h1
    exact absurd h h1
   ·rename_i h1
    split at h
    ·rename_i h2
     split at h
     ·rename_i h3
      exact ⟨hR, by omega, Decidable.not_not.1 h1, h2, h3⟩
     ·cases h
    ·cases h
 ·cases h
theorem zZ {i : Int} {k : Nat} (h0 : 0 ≤ i) (h1 : i < (k : Int)) : (decide (0 ≤ i) && decide (i < (k : Int))) = true := by rw [af h0, af h1]; rfl
abbrev QC : Sh := .pair (.int .i64) (.pair (.int .i64) (.pair (.int .i64) (.pair (.int .i64) (.pair (.sl (.int .i64)) (.pair (.sl (.int .i64)) (.sl (.pair (.int .i64) (.pair (.int .i64) (.int .i64)))))))))
abbrev O4 : Sh := .pair (.int .i64) (.pair (.int .i64) (.pair (.int .i64) (.pair (.int .i64) (.pair (.sl (.int .i64)) (.pair (.sl (.sl (.int .i64))) (.sl QC))))))
theorem Jr (n : Nat) (hn0 : 200 < n) (hn : n < 1000000) {m : Img} (h : Sh.Sm O4 m) : nN n m = some 0 ∨ (nN n m = some 1 ∧ D9 m) :=
 Lt n hn0 hn m (by
  have h1 : m.safe.length ≤ 140737488351232 := h.2.2.2.2.1
  have h2 : m.blocks.length ≤ 140737488351232 := h.2.2.2.2.2.1
  have h3 : m.tasks.length ≤ 140737488351232 := h.2.2.2.2.2.2
  omega)
abbrev gu : Type := (List db) × (List Int) × (List Int) × Bool × Int × (List Int) × (List Int) × (List Int) × (List Int) × Int × (List Int) × Int × Int × Int × Unit
abbrev dM : gu := ([], [], [], false, 0, [], [], [], [], 0, [], 0, 0, 0, ())
def fT (l : List db) (m : List Int) (on : Bool) (s : MS) : gu := (l, m, s.ret, on, s.at_, s.stk, s.loc, s.inp, s.out, s.set, s.rds, s.held, s.flt, s.stp, ())
theorem lk {α β : Type} {xs : List α} {k : Nat} (d : α) (hk : k < xs.length) (f : α → Option β) : iR xs (k + 1) f = f (xs.getD k d) := by
 show (match xs[k]? with | some x => f x | none => none) = _
 rw [aw hk, ao, aw hk]
 rfl
theorem wb {α : Type} {xs : List α} {k : Nat} {d x : α} (hk : k < xs.length) (h : xs.getD k d = x) : xs.set k x = xs := by
 subst h
 rw [ao, aw hk]
 exact List.set_getElem_self hk
theorem f8 {α : Type} {xs : List α} {k : Nat} {d x : α} (hk : k < xs.length) : (xs.set k x).getD k d = x := by
 rw [ao, List.getElem?_set_self hk]
 rfl
theorem oZ {α : Type} {xs : List α} {k j : Nat} {d x : α} (hk : k ≠ j) : (xs.set k x).getD j d = xs.getD j d := by
 rw [ao, List.getElem?_set_ne hk, ← ao]
theorem Js {l : List db} {m h : List Int} {st : List ByteArray} (hR : Row l m h st) {c : CS} (hc : nl l m st c) (n : Nat) {fam : List gu} {k : Nat} (hk : k < fam.length) (hf : fam.getD k dM = fT l m c.on c.s) (i1 i2 i3 i4 : Int) (sf : List Int) (bl : List (List Int)) (ts : List Tsk) (ms : List Nat) (out : List Int) :
  ∃ ev e, gD n (k + 1) fam i1 i2 i3 i4 sf bl ts ms c.mem out = some (ev, e, fam.set k (fT l m (eu l m c).on (eu l m c).s), i1, i2, i3, i4, sf, bl, ts, ms, (eu l m c).mem, out) := by
 obtain ⟨⟨ev, e, he⟩, _⟩ := wa hR hc n
 refine ⟨(ev.1, ev.2), e, ?_⟩
 unfold vW at he
 unfold gD
 rw [lk dM hk, hf]
 unfold fT Gy
 dsimp only
 rw [A7, he]
 rfl
theorem wM (n : Nat) {fam : List gu} {k : Nat} (hk : k < fam.length) {l : List db} {m : List Int} {on : Bool} {s : MS} (hf : fam.getD k dM = fT l m on s) : eK n (k + 1) fam = some (on, fam) := by
 have h2 := wb hk hf
 unfold eK
 rw [lk dM hk, hf]
 show some (on, fam.set k (fT l m on s)) = _
 rw [h2]
theorem xY (n : Nat) (hn : 16 < n) {fam : List gu} {k : Nat} (hk : k < fam.length) {l : List db} {m : List Int} {on : Bool} {s : MS} (hf : fam.getD k dM = fT l m on s) : eq n (k + 1) fam = some (kw s.out s.set, fam) := by
 have h2 := wb hk hf
 unfold eq
 rw [lk dM hk, hf]
 unfold fT
 dsimp only
 rw [Mv n hn, ae]
 show some (kw s.out s.set, fam.set k (fT l m on s)) = _
 rw [h2]
theorem FL (n : Nat) {fam : List gu} {k : Nat} (hk : k < fam.length) {l : List db} {m : List Int} {on : Bool} {s : MS} (hf : fam.getD k dM = fT l m on s) : eH n (k + 1) fam = some (s.ret, fam) := by
 have h2 := wb hk hf
 unfold eH
 rw [lk dM hk, hf]
 show some (s.ret, fam.set k (fT l m on s)) = _
 rw [h2]
theorem Bj (n : Nat) {fam : List gu} {k : Nat} (hk : k < fam.length) {l : List db} {m : List Int} {s : MS} (hl : 0 < l.length) (hf : fam.getD k dM = fT l m false s) (inp : List Int) : eV n (k + 1) inp fam = some (0, fam.set k (fT l m true (iX s.ret inp))) := by
 unfold eV
 rw [lk dM hk, hf]
 unfold fT
 dsimp only
 rw [Lq n hl, ae]
 rfl
theorem Ea {l : List db} {m : List Int} {c : CS} {i : Nat} (h : c.on = true) (hp : c.s.at_ = (i : Int)) : eu l m c = ⟨decide (opAt l i ≠ 25), fa (l.getD i (0, 0, 0)) (m.getD i 0) c.s c.mem, DS (l.getD i (0, 0, 0)) c.s c.mem⟩ := by
 unfold eu
 rw [if_pos h, show c.s.at_.toNat = i by rw [hp]; exact ag i]
theorem zt (l : List db) (m : List Int) (k : Nat) (c : CS) : dX l m (k + 1) c = eu l m (dX l m k c) := vf k 1 c
theorem Bk {l : List db} {m h : List Int} {st : List ByteArray} (hR : Row l m h st) {n : Nat} (hf : l.length < n) (ret inp : List Int) (mem : dQ) : ∀ k, (dX l m k ⟨true, iX ret inp, mem⟩).on = true → ∃ i rs, Ok l m st (dX l m k ⟨true, iX ret inp, mem⟩).s i rs ∧ InvP bM sP Je l m n 0 (l.length - 1) i rs (k : Int)
 | 0, _ => ⟨0, [], DY hR ret inp, InvP.start zV hR.fine.all⟩
 | k + 1, hon => by
  rw [zt] at hon ⊢
  generalize hc : dX l m k ⟨true, iX ret inp, mem⟩ = c at hon ⊢
  cases h1 : c.on with
  | false =>
   unfold eu at hon
   rw [if_neg (by rw [h1]; decide), h1] at hon
   cases hon
  | true =>
   obtain ⟨i, rs, hO, hI⟩ := Bk hR hf ret inp mem k (by rw [hc]; exact h1)
   rw [hc] at hO
   have hF := hR.fine
   have hl := hF.len
   rw [Ea h1 hO.place] at hon ⊢
   have h25 : opAt l i ≠ 25 := ba hon
   obtain ⟨q, rs', hq, hp, hg, he⟩ := (FI hR hO c.mem h25).ex
   have hz : i ≠ l.length - 1 := fun e => h25 ((zn hF hO.lt).2 (by omega))
   exact ⟨q, rs', hq, hg bM sP Je n 0 (l.length - 1) _ zV hf hF.all hI hz⟩
theorem Lu {K : Nat} (hK : 5000 ≤ K) {l : List db} {m h : List Int} {st : List ByteArray} (hR : Row l m h st) {n : Nat} (hf : l.length < n) (hw : ey bM l m n 0 (l.length - 1) < 5000) (ret inp : List Int) (mem : dQ) : (dX l m K ⟨true, iX ret inp, mem⟩).on = false := by
 cases hon : (dX l m K ⟨true, iX ret inp, mem⟩).on with
 | false => rfl
 | true =>
  exfalso
  obtain ⟨i, rs, hO, hI⟩ := Bk hR hf ret inp mem K hon
  obtain ⟨M, hM⟩ : ∃ M : Nat, nD l m i rs ≤ (M : Int) := ⟨(nD l m i rs).toNat, by omega⟩
  have := FK hR hf (by omega) M hM hO hI
  omega
theorem Bl {l : List db} {m h : List Int} {st : List ByteArray} (hR : Row l m h st) {P : CS → Prop} (hs : ∀ c i rs, c.on = true → Ok l m st c.s i rs → P c → P ⟨decide (opAt l i ≠ 25), fa (l.getD i (0, 0, 0)) (m.getD i 0) c.s c.mem, DS (l.getD i (0, 0, 0)) c.s c.mem⟩) : ∀ k {c : CS}, nl l m st c → P c → P (dX l m k c)
 | 0, c, hc, h0 => h0
 | k + 1, c, hc, h0 => by
  refine Bl hR hs k (wa hR hc 0).2 ?_
  cases hon : c.on with
  | false =>
   unfold eu
   rw [if_neg (by rw [hon]; decide)]
   exact h0
  | true =>
   obtain ⟨i, rs, hO⟩ := hc hon
   rw [Ea hon hO.place]
   exact hs c i rs hon hO h0
theorem Jt (n : Nat) {l : List db} {m h : List Int} {st : List ByteArray} (hR : Row l m h st) (fam0 : List gu) {k : Nat} (hk : k < fam0.length) (i1 i2 i3 i4 : Int) (sf : List Int) (bl : List (List Int)) (ts : List Tsk) (ms : List Nat) (out : List Int) : ∀ (j f : Nat) (c : CS), j < f → nl l m st c → c.on = true → (dX l m (j + 1) c).on = false →
  it (fun F => (fB (eb q_)) (uK n F)) f (fam0.set k (fT l m c.on c.s), k + 1, i1, i2, i3, i4, sf, bl, ts, ms, c.mem, out) = some (fam0.set k (fT l m false (dX l m (j + 1) c).s), k + 1, i1, i2, i3, i4, sf, bl, ts, ms, (dX l m (j + 1) c).mem, out)
 | j, 0, c, hj, _, _, _ => by omega
 | j, f + 1, c, hj, hc, hon, hoff => by
  show uK n (it _ f) (fam0.set k (fT l m c.on c.s)) (k + 1) i1 i2 i3 i4 sf bl ts ms c.mem out = _
  unfold uK
  have hl : k < (fam0.set k (fT l m c.on c.s)).length := by rw [aJ]; exact hk
  obtain ⟨ev, e, he⟩ := Js hR hc n hl (f8 hk) i1 i2 i3 i4 sf bl ts ms out
  rw [he, ae]
  dsimp only
  rw [List.set_set]
  have hl2 : k < (fam0.set k (fT l m (eu l m c).on (eu l m c).s)).length := by rw [aJ]; exact hk
  rw [wM n hl2 (f8 hk), ae]
  dsimp only
  by_cases h1 : (eu l m c).on = true
  ·rw [if_pos h1]
   cases j with
   | zero =>
    have e2 : dX l m (0 + 1) c = eu l m c := rfl
    rw [e2, h1] at hoff
    cases hoff
   | succ j =>
    have h2 : dX l m (j + 1 + 1) c = dX l m (j + 1) (eu l m c) := rfl
    rw [h2] at hoff ⊢
    exact Jt n hR fam0 hk i1 i2 i3 i4 sf bl ts ms out j f (eu l m c) (by omega) (wa hR hc 0).2 h1 hoff
  ·have h3 : (eu l m c).on = false := by cases h : (eu l m c).on with | false => rfl | true => exact absurd h h1
   have e2 : dX l m (j + 1) c = eu l m c := ve h3 j
   rw [if_neg h1, e2, h3]
abbrev tz : Tsk := (0, 0, 0, 0, [], [], [])
structure TaskG (m : Img) (t : Tsk) : Prop where
 row : Row t.code (scanI t.code).1 (scanI t.code).2.1 (n7 t.code)
 lock : eg t.code = 0
 stk : eQ t.code = 0
 own : fY t.code = t.blocks
 name : ∀ i, i < t.code.length → lQ m t (t.code.getD i (0, 0, 0)) = true
 ok : lR m t
 fin : ey bM t.code (scanI t.code).1 30000 0 (t.code.length - 1) < 5000
structure GoodM (m : Img) : Prop where
 right : RightP m
 task : ∀ k, k < m.tasks.length → TaskG m (m.tasks.getD k tz)
theorem GX {m : Img} (h : Sh.Sm O4 m) : ∃ b, yJ 30000 m = some b ∧ (b = true → D9 m ∧ ∀ k, k < m.tasks.length → (fE bM 30000 (m.tasks.getD k tz).code).2 = 0 → (fE bM 30000 (m.tasks.getD k tz).code).1 ≤ 5000) := by
 have hn1 : 200 < 30000 := by decide
 have hn2 : 30000 < 1000000 := by decide
 unfold yJ
 rcases Jr 30000 hn1 hn2 h with hl | ⟨hl, hL⟩
 ·rw [show nN 30000 (m.1, m.2.1, m.2.2.1, m.2.2.2.1, m.2.2.2.2.1, m.2.2.2.2.2.1, m.2.2.2.2.2.2) = some 0 from hl, ae, if_pos (by decide)]
  exact ⟨false, rfl, fun h => by cases h⟩
 rw [show nN 30000 (m.1, m.2.1, m.2.2.1, m.2.2.2.1, m.2.2.2.2.1, m.2.2.2.2.2.1, m.2.2.2.2.2.2) = some 1 from hl, ae, if_neg (by decide)]
 obtain ⟨i1, i2, i3, i4, sf, bl, ts⟩ := m
 dsimp only
 have hts : ts.length ≤ 80 := by have := hL.1; dsimp only [Img.safe, Img.blocks, Img.tasks] at this; omega
 have key : ∃ r, un 30000 (0, i1, i2, i3, i4, sf, bl, ts) = some r ∧ ((∃ X, r = .inl ((false, ()), X)) ∨ ((∃ X, r = .inr X) ∧ ∀ k, k < ts.length → (fE bM 30000 (ts.getD k tz).code).2 = 0 → (fE bM 30000 (ts.getD k tz).code).1 ≤ 5000)) := by
  show ∃ r, it _ 30000 _ = some r ∧ _
  refine jq (fun f x => ∃ k : Nat, k ≤ ts.length ∧ ts.length < f + k ∧ (∀ j, j < k → (fE bM 30000 (ts.getD j tz).code).2 = 0 → (fE bM 30000 (ts.getD j tz).code).1 ≤ 5000) ∧ x = ((k : Int), i1, i2, i3, i4, sf, bl, ts)) _ (fun x ⟨k, h1, h2, _⟩ => by omega) ?_ 30000 _ ⟨0, by omega, by omega, fun j hj => by omega, rfl⟩
  rintro f x F hF ⟨k, h1, h2, h3, rfl⟩
  show ∃ r, vL 30000 F (k : Int) i1 i2 i3 i4 sf bl ts = some r ∧ _
  unfold vL
  rcases am k ts.length with hk | hk
  ·have hc : (ts.getD k tz).code.length ≤ 4019 := hL.2 _ (by rw [ao, aw hk]; exact bo _)
   rw [if_pos (af (by omega)), if_pos (de hk), ag]
   rw [show gA 30000 (ts.getD k (0, 0, 0, 0, [], [], [])).2.2.2.2.2.2 = _ from DN 30000 (ts.getD k tz).code (by omega) (by omega) hn2, ae, dC (by omega)]
   by_cases h0 : (fE bM 30000 (ts.getD k tz).code).2 = 0
   ·rw [if_pos (ai.2 h0)]
    by_cases hb : (fE bM 30000 (ts.getD k tz).code).1 > 5000
    ·rw [if_pos (af hb)]
     exact ⟨_, rfl, .inl ⟨_, rfl⟩⟩
    ·rw [if_neg (fun h => hb (ba h))]
     refine hF _ ⟨k + 1, by omega, by omega, fun j hj h0 => ?_, rfl⟩
     by_cases e : j = k
     ·subst e; omega
     ·exact h3 j (by omega) h0
   ·rw [if_neg (fun h => h0 (ai.1 h))]
    refine hF _ ⟨k + 1, by omega, by omega, fun j hj hz => ?_, rfl⟩
    by_cases e : j = k
    ·subst e; exact absurd hz h0
    ·exact h3 j (by omega) hz
  ·rw [if_neg (by simp; omega)]
   exact ⟨_, rfl, .inr ⟨⟨_, rfl⟩, fun j hj => h3 j (by omega)⟩⟩
 obtain ⟨r, e1, e2⟩ := key
 rw [e1, ae]
 rcases e2 with ⟨X, rfl⟩ | ⟨⟨X, rfl⟩, e2⟩
 ·exact ⟨false, rfl, fun h => by cases h⟩
 ·exact ⟨true, rfl, fun _ => ⟨hL, e2⟩⟩
theorem Lv (m : Img) : ∃ x e, mL 30000 m = some (x, e) ∧ (e = 0 → RightP m ∧ ∀ k : Nat, k < m.tasks.length → nU 30000 m (k : Int) = 0) := by
 have hn1 : 200 < 30000 := by decide
 have hn2 : 30000 < 1000000 := by decide
 unfold mL
 obtain ⟨b, hb1, hb2⟩ := vj 30000 hn1 hn2 m
 rw [show rL 30000 (m.1, m.2.1, m.2.2.1, m.2.2.2.1, m.2.2.2.2.1, m.2.2.2.2.2.1, m.2.2.2.2.2.2) = some b from hb1, ae]
 cases b with
 | false => exact ⟨-1, 12, rfl, fun h => by cases h⟩
 | true =>
  have hR := hb2.1 rfl
  rw [if_neg (by decide)]
  have ht8 : m.tasks.length ≤ 8 := hR.1.2.2.2.2.2.2.2
  obtain ⟨i1, i2, i3, i4, sf, bl, ts⟩ := m
  dsimp only [Img.tasks] at ht8 ⊢
  have key : ∃ r, mr 30000 ((ts.length : Int), 0, i1, i2, i3, i4, sf, bl, ts) = some r ∧ ((∃ a e X, r = .inl ((a, e, ()), X) ∧ e ≠ 0) ∨ ((∃ X, r = .inr X) ∧ ∀ k : Nat, k < ts.length → nU 30000 (i1, i2, i3, i4, sf, bl, ts) (k : Int) = 0)) := by
   show ∃ r, it _ 30000 _ = some r ∧ _
   refine jq (fun f x => ∃ k : Nat, k ≤ ts.length ∧ ts.length < f + k ∧ (∀ j : Nat, j < k → nU 30000 (i1, i2, i3, i4, sf, bl, ts) (j : Int) = 0) ∧ x = ((ts.length : Int), (k : Int), i1, i2, i3, i4, sf, bl, ts)) _ (fun x ⟨k, h1, h2, _⟩ => by omega) ?_ 30000 _ ⟨0, by omega, by omega, fun j hj => by omega, rfl⟩
   rintro f x F hF ⟨k, h1, h2, h3, rfl⟩
   show ∃ r, lF 30000 F (ts.length : Int) (k : Int) i1 i2 i3 i4 sf bl ts = some r ∧ _
   unfold lF
   rcases am k ts.length with hk | hk
   ·rw [if_pos (af (by omega)), MF 30000 hn1 hn2 (i1, i2, i3, i4, sf, bl, ts) (k : Int), ae]
    by_cases h0 : nU 30000 (i1, i2, i3, i4, sf, bl, ts) (k : Int) = 0
    ·rw [if_neg (by rw [h0]; decide), dC (by omega)]
     refine hF _ ⟨k + 1, by omega, by omega, fun j hj => ?_, rfl⟩
     by_cases e : j = k
     ·subst e; exact h0
     ·exact h3 j (by omega)
    ·rw [if_pos (ax.2 h0)]
     exact ⟨_, rfl, .inl ⟨_, _, _, rfl, h0⟩⟩
   ·rw [if_neg (by simp; omega)]
    exact ⟨_, rfl, .inr ⟨⟨_, rfl⟩, fun j hj => h3 j (by omega)⟩⟩
  obtain ⟨r, e1, e2⟩ := key
  rw [e1, ae]
  rcases e2 with ⟨a, e, X, rfl, he⟩ | ⟨⟨X, rfl⟩, e2⟩
  ·exact ⟨a, e, rfl, fun h => absurd h he⟩
  ·exact ⟨-1, 0, rfl, fun _ => ⟨hR, e2⟩⟩
theorem MG {m : Img} (hR : RightP m) (hT : ∀ k : Nat, k < m.tasks.length → nU 30000 m (k : Int) = 0) (hL : ∀ k, k < m.tasks.length → (fE bM 30000 (m.tasks.getD k tz).code).2 = 0 → (fE bM 30000 (m.tasks.getD k tz).code).1 ≤ 5000) : GoodM m := by
 refine ⟨hR, fun k hk => ?_⟩
 obtain ⟨_, h0, h2, h3, h4⟩ := GW (hT k hk)
 have e : qJ m (k : Int) = m.tasks.getD k tz := by show m.tasks.getD (k : Int).toNat tz = _; rw [ag]
 rw [e] at h2 h3 h4
 obtain ⟨z1, z2⟩ := xU h2
 obtain ⟨q1, q2, q3, q4, q5⟩ := Li 30000 (m.tasks.getD k tz).code h2
 have hl := hL k hk h2
 have hok := (hR.task (i := (k : Int)) (by omega) (by omega)).1
 rw [ag] at hok
 refine ⟨O0 z1 z2, z1, z2, h3, fun i hi => ?_, hok, by omega⟩
 exact aN.1 h4 ((m.tasks.getD k tz).code.getD i (0, 0, 0)) (by rw [vP hi]; exact bo _)
def Eb (tq : List Int) (set : Int) : Prop := ∃ x : Nat, set = (x : Int) ∧ x < 65536 ∧ ∀ k, x.testBit k = true → (k : Int) ∈ tq
theorem Lw {tq out : List Int} {set : Int} (h : Eb tq set) : ∀ e ∈ kw out set, e.1 ∈ tq := by
 obtain ⟨x, h1, h2, h3⟩ := h
 subst h1
 have key : ∀ r k, r + k ≤ 16 → ∀ e ∈ nT out (x : Int) r k, e.1 ∈ tq := by
  intro r
  induction r with
  | zero => intro k _ e he; cases he
  | succ r ih =>
   intro k hk e he
   unfold nT at he
   rcases aA.1 he with h | h
   ·rw [Mw h2 (by omega)] at h
    split at h
    ·rename_i hb
     have := au.1 h
     rw [this]
     exact h3 k hb
    ·cases h
   ·exact ih (k + 1) (by omega) e h
 exact key 16 0 (by omega)
theorem Lx {tq : List Int} {s : MS} {x : db} {mt : Int} {mem : dQ} (hr : dj x = true) (ho : Eb tq s.set) (hx : x.1 = 16 → x.2.1 ∈ tq) : Eb tq (fa x mt s mem).set := by
 obtain ⟨w, h1, h2, h3⟩ := ho
 show Eb tq (if x.1 = 16 then bits .or .i64 s.set (mA x.2.1) else s.set)
 split
 ·rename_i h16
  have ha := vX (o := x.1) (A := x.2.1) (B := x.2.2) (.inr h16) hr
  obtain ⟨b1, b2⟩ := FJ (A := x.2.1) (a := x.2.1.toNat) (by omega) (by omega)
  refine ⟨w ||| 2 ^ x.2.1.toNat, by rw [h1, b1, D2 w _ h2 b2], Nat.or_lt_two_pow (n := 16) h2 b2, fun k hk => ?_⟩
  rw [Nat.testBit_or, aE] at hk
  rcases hk with hk | hk
  ·exact h3 k hk
  ·rw [Nat.testBit_two_pow, av] at hk
   have : (k : Int) = x.2.1 := by omega
   rw [this]
   exact hx h16
 ·exact ⟨w, h1, h2, h3⟩
structure WM where
 ret : List (List Int)
 mem : dQ
 out : List Int
abbrev ej (ts : List Tsk) (k : Nat) : List db := (ts.getD k tz).code
structure Rep (fam : List gu) (p : Nat) (ts : List Tsk) (ret : List (List Int)) : Prop where
 le : p + ts.length ≤ fam.length
 len : ret.length = ts.length
 mb : ∀ k, k < ts.length → ∃ s : MS, fam.getD (p + k) dM = fT (ej ts k) (scanI (ej ts k)).1 false s ∧ s.ret = ret.getD k []
abbrev iP (p T : Nat) : List Nat := List.range' (p + 1) T
theorem Bm {p T k : Nat} (hk : k < T) : (iP p T).getD k 0 = p + k + 1 := by
 rw [ao, List.getElem?_range' hk]
 show p + 1 + 1 * k = _
 omega
theorem Rep.put {fam : List gu} {p : Nat} {ts : List Tsk} {ret : List (List Int)} (h : Rep fam p ts ret) {k : Nat} (hk : k < ts.length) (s : MS) : Rep (fam.set (p + k) (fT (ej ts k) (scanI (ej ts k)).1 false s)) p ts (ret.set k s.ret) := by
 have hle := h.le
 refine ⟨by rw [aJ]; exact hle, by rw [aJ]; exact h.len, fun j hj => ?_⟩
 by_cases e : k = j
 ·subst e
  exact ⟨s, f8 (by omega), (f8 (by rw [h.len]; exact hk)).symm⟩
 ·obtain ⟨s', h1, h2⟩ := h.mb j hj
  exact ⟨s', by rw [oZ (by omega)]; exact h1, by rw [oZ e]; exact h2⟩
theorem Rep.far {fam fam' : List gu} {p : Nat} {ts : List Tsk} {ret : List (List Int)} (h : Rep fam p ts ret) (hl : fam.length ≤ fam'.length) (hj : ∀ j, p ≤ j → j < p + ts.length → fam'.getD j dM = fam.getD j dM) : Rep fam' p ts ret := by
 have hle := h.le
 refine ⟨by omega, h.len, fun k hk => ?_⟩
 rw [hj _ (by omega) (by omega)]
 exact h.mb k hk
def hU (K : Nat) (l : List db) (ret inp : List Int) (mem : dQ) : CS := dX l (scanI l).1 K ⟨true, iX ret inp, mem⟩
def vk (out : List Int) (os : List (Int × Int)) : List Int := os.foldl (fun o e => o.set e.1.toNat e.2) out
theorem Ec : ∀ (os : List (Int × Int)) (out : List Int), (vk out os).length = out.length
 | [], out => rfl
 | e :: os, out => by
  show (vk (out.set e.1.toNat e.2) os).length = _
  rw [Ec os, aJ]
def vl (K : Nat) (ts : List Tsk) (i : Int) (inp : List Int) (W : WM) : List (Int × Int) × Int × WM :=
 if 0 ≤ i ∧ i < (ts.length : Int) then
  (kw (hU K (ej ts i.toNat) (W.ret.getD i.toNat []) inp W.mem).s.out (hU K (ej ts i.toNat) (W.ret.getD i.toNat []) inp W.mem).s.set, 0,
   ⟨W.ret.set i.toNat (hU K (ej ts i.toNat) (W.ret.getD i.toNat []) inp W.mem).s.ret, (hU K (ej ts i.toNat) (W.ret.getD i.toNat []) inp W.mem).mem, vk W.out (kw (hU K (ej ts i.toNat) (W.ret.getD i.toNat []) inp W.mem).s.out (hU K (ej ts i.toNat) (W.ret.getD i.toNat []) inp W.mem).s.set)⟩)
 else ([], 14, W)
theorem vm {l : List db} {m h : List Int} {st : List ByteArray} (hR : Row l m h st) (ret inp : List Int) (mem : dQ) : nl l m st ⟨true, iX ret inp, mem⟩ := fun _ => ⟨0, [], DY hR ret inp⟩
theorem FM {K : Nat} (hK : 5000 ≤ K) {m : Img} {t : Tsk} (h : TaskG m t) (ret inp : List Int) (mem : dQ) : (hU K t.code ret inp mem).on = false := by
 have := h.row.fine.len
 have := h.fin
 unfold hU
 exact Lu hK h.row (n := 30000) (by omega) (by omega) ret inp mem
theorem Ly (K : Nat) {m : Img} {t : Tsk} (h : TaskG m t) (ret inp : List Int) (mem : dQ) : ∀ e ∈ kw (hU K t.code ret inp mem).s.out (hU K t.code ret inp mem).s.set, e.1 ∈ t.outs := by
 refine Lw ?_
 unfold hU
 refine Bl h.row (P := fun c => Eb t.outs c.s.set) (fun c i rs hon hO hP => ?_) K (vm h.row ret inp mem) ⟨0, rfl, by decide, fun k hk => by rw [Nat.zero_testBit] at hk; cases hk⟩
 refine Lx (h.row.fine.right hO.lt) hP (fun h16 => ?_)
 have := h.name i hO.lt
 unfold lQ at this
 rw [if_neg (show ¬ (t.code.getD i (0, 0, 0)).1 = 15 by rw [h16]; decide), if_pos h16] at this
 exact List.contains_iff_mem.1 this
theorem O5 (n : Nat) (N : Nat) (fam : List gu) (q : Nat) (i1 i2 i3 i4 : Int) (sf : List Int) (bl : List (List Int)) (ts : List Tsk) (ms : List Nat) (mem : dQ) {os : List (Int × Int)} (h16 : os.length ≤ 16) (hn : 16 < n) (hos : ∀ e ∈ os, 0 ≤ e.1 ∧ e.1 < (N : Int)) {out : List Int} (ho : out.length = N) :
  rO n (os, (os.length : Int), 0, fam, q, i1, i2, i3, i4, sf, bl, ts, ms, mem, out) = some (fam, q, i1, i2, i3, i4, sf, bl, ts, ms, mem, vk out os) := by
 have key : ∃ r, rO n (os, (os.length : Int), 0, fam, q, i1, i2, i3, i4, sf, bl, ts, ms, mem, out) = some r ∧ r = (fam, q, i1, i2, i3, i4, sf, bl, ts, ms, mem, vk out os) := by
  show ∃ r, it _ n _ = some r ∧ _
  refine jq (fun f x => ∃ (k : Nat) (o : List Int), k ≤ os.length ∧ os.length < f + k ∧ o.length = N ∧ vk o (os.drop k) = vk out os ∧ x = (os, (os.length : Int), (k : Int), fam, q, i1, i2, i3, i4, sf, bl, ts, ms, mem, o)) _ (fun x ⟨k, o, h1, h2, _⟩ => by omega) ?_ n _ ⟨0, out, by omega, by omega, ho, rfl, rfl⟩
  rintro f x F hF ⟨k, o, h1, h2, h3, h4, rfl⟩
  show ∃ r, yS n F os (os.length : Int) (k : Int) fam q i1 i2 i3 i4 sf bl ts ms mem o = some r ∧ _
  unfold yS
  rcases am k os.length with hk | hk
  ·have hm : os.getD k (0, 0) ∈ os := by rw [ao, aw hk]; exact bo _
   have hb := hos _ hm
   rw [eJ (d := ((0 : Int), (0 : Int))) hk] at h4
   rw [if_pos (af (by omega)), if_pos (de hk), ag, if_pos (zZ hb.1 (by rw [h3]; exact hb.2)), dC (by omega)]
   exact hF _ ⟨k + 1, _, by omega, by omega, by rw [aJ]; exact h3, h4, rfl⟩
  ·rw [if_neg (by simp; omega)]
   rw [List.drop_eq_nil_of_le hk] at h4
   exact ⟨_, rfl, by rw [← h4]; rfl⟩
 obtain ⟨r, e1, e2⟩ := key
 rw [e1, e2]
theorem O6 {K : Nat} (hK : 5000 ≤ K ∧ K < 20000) {i1 i2 i3 i4 : Int} {sf : List Int} {bl : List (List Int)} {ts : List Tsk} (hG : GoodM (i1, i2, i3, i4, sf, bl, ts)) {fam : List gu} {p : Nat} {W : WM} (hr : Rep fam p ts W.ret) (ho : W.out.length = sf.length) (i : Int) (inp : List Int) :
  ∃ fam', BU 30000 i inp fam i1 i2 i3 i4 sf bl ts (iP p ts.length) W.mem W.out = some ((vl K ts i inp W).1, (vl K ts i inp W).2.1, fam', i1, i2, i3, i4, sf, bl, ts, iP p ts.length, (vl K ts i inp W).2.2.mem, (vl K ts i inp W).2.2.out) ∧ Rep fam' p ts (vl K ts i inp W).2.2.ret ∧ fam'.length = fam.length ∧ (∀ j, j < p ∨ p + ts.length ≤ j → fam'.getD j dM = fam.getD j dM) ∧ (vl K ts i inp W).2.2.out.length = sf.length := by
 have hT : 1 ≤ ts.length ∧ ts.length ≤ 8 := hG.right.1.2.2.2.2.2.2
 unfold BU vl
 rw [show (iP p ts.length).length = ts.length from List.length_range', if_neg (fun h => by have := ai.1 h; omega)]
 by_cases h0 : 0 ≤ i
 ·by_cases h1 : i < (ts.length : Int)
  ·obtain ⟨k, rfl⟩ : ∃ k : Nat, i = (k : Int) := ⟨i.toNat, by omega⟩
   have hk : k < ts.length := by omega
   have ht := hG.task k hk
   have hle := hr.le
   have hpk : p + k < fam.length := by omega
   obtain ⟨s, hs1, hs2⟩ := hr.mb k hk
   rw [if_pos (af h0), if_neg (by rw [af h1]; decide), if_pos (zZ h0 h1), if_pos ⟨h0, h1⟩, ag, Bm hk]
   rw [Bj 30000 hpk ht.row.fine.len.1 hs1, ae]
   dsimp only
   rw [hs2]
   have hoff := FM hK.1 ht (W.ret.getD k []) inp W.mem
   obtain ⟨K0, hK0⟩ : ∃ K0, K = K0 + 1 := ⟨K - 1, by omega⟩
   unfold hU at hoff
   rw [hK0] at hoff
   have hrun := Jt 30000 ht.row fam hpk i1 i2 i3 i4 sf bl ts (iP p ts.length) W.out K0 30000 ⟨true, iX (W.ret.getD k []) inp, W.mem⟩ (by omega) (vm ht.row _ _ _) rfl hoff
   rw [← hK0] at hrun
   rw [show xC 30000 (fam.set (p + k) (fT (ej ts k) (scanI (ej ts k)).1 true (iX (W.ret.getD k []) inp)), p + k + 1, i1, i2, i3, i4, sf, bl, ts, iP p ts.length, W.mem, W.out) = some (fam.set (p + k) (fT (ej ts k) (scanI (ej ts k)).1 false (hU K (ej ts k) (W.ret.getD k []) inp W.mem).s), p + k + 1, i1, i2, i3, i4, sf, bl, ts, iP p ts.length, (hU K (ej ts k) (W.ret.getD k []) inp W.mem).mem, W.out) from hrun, ae]
   dsimp only
   have houts := Ly K ht (W.ret.getD k []) inp W.mem
   have hpos : ∀ e ∈ kw (hU K (ej ts k) (W.ret.getD k []) inp W.mem).s.out (hU K (ej ts k) (W.ret.getD k []) inp W.mem).s.set, 0 ≤ e.1 ∧ e.1 < (sf.length : Int) := fun e he => by
    have := ht.ok.2.2.1.mem _ (houts e he)
    have h2 : e.1 < (sf.length : Int) := this.2
    omega
   generalize hU K (ej ts k) (W.ret.getD k []) inp W.mem = c at *
   have hpk2 : p + k < (fam.set (p + k) (fT (ej ts k) (scanI (ej ts k)).1 false c.s)).length := by rw [aJ]; exact hpk
   rw [xY 30000 (by decide) hpk2 (f8 hpk), ae]
   dsimp only
   rw [O5 30000 sf.length _ _ i1 i2 i3 i4 sf bl ts _ c.mem (pq c.s.out c.s.set) (by decide) hpos ho, ae]
   dsimp only
   rw [xY 30000 (by decide) hpk2 (f8 hpk), ae]
   exact ⟨_, rfl, hr.put hk c.s, aJ, fun j hj => oZ (by omega), by show (vk _ _).length = _; rw [Ec]; exact ho⟩
  ·rw [if_pos (af h0), if_pos (by rw [bq h1]; rfl), if_neg (fun h => h1 h.2)]
   exact ⟨_, rfl, hr, rfl, fun j _ => rfl, ho⟩
 ·rw [if_neg (fun h => h0 (ba h)), if_neg (fun h => h0 h.1)]
  exact ⟨_, rfl, hr, rfl, fun j _ => rfl, ho⟩
theorem ED {fam : List gu} {p : Nat} {ts : List Tsk} {ret : List (List Int)} (hr : Rep fam p ts ret) (n : Nat) (i : Int) (i1 i2 i3 i4 : Int) (sf : List Int) (bl : List (List Int)) (ts' : List Tsk) (mem : dQ) (out : List Int) :
  gY n i fam i1 i2 i3 i4 sf bl ts' (iP p ts.length) mem out = some (if 0 ≤ i ∧ i < (ts.length : Int) then ret.getD i.toNat [] else z8, fam, i1, i2, i3, i4, sf, bl, ts', iP p ts.length, mem, out) := by
 unfold gY
 rw [show (iP p ts.length).length = ts.length from List.length_range']
 by_cases h0 : 0 ≤ i
 ·by_cases h1 : i < (ts.length : Int)
  ·obtain ⟨k, rfl⟩ : ∃ k : Nat, i = (k : Int) := ⟨i.toNat, by omega⟩
   have hk : k < ts.length := by omega
   have hle := hr.le
   obtain ⟨s, hs1, hs2⟩ := hr.mb k hk
   rw [if_pos (af h0), if_neg (by rw [af h1]; decide), if_pos (zZ h0 h1), ag, Bm hk, FL n (by omega) hs1, ae, if_pos ⟨h0, h1⟩, hs2]
  ·rw [if_pos (af h0), if_pos (by rw [bq h1]; rfl), if_neg (fun h => h1 h.2)]
 ·rw [if_neg (fun h => h0 (ba h)), if_neg (fun h => h0 h.1)]
theorem O7 {a : Nat} (h : a ≤ 8) : (decide (0 = 0) && decide (0 = 0) && decide (a * 8 ≤ 140737488355328) && decide (1 ≤ 8)) = true := by simp; omega
theorem Lz (n : Nat) {i1 i2 i3 i4 : Int} {sf : List Int} {bl : List (List Int)} {ts : List Tsk} (hR : RightP (i1, i2, i3, i4, sf, bl, ts)) (i : Int) (fam : List gu) (ms : List Nat) (mem : dQ) (out : List Int) :
  jc n i fam i1 i2 i3 i4 sf bl ts ms mem out = some (if 0 ≤ i ∧ i < (bl.length : Int) then (mem.getD i.toNat z8).take (bl.getD i.toNat []).length else [], fam, i1, i2, i3, i4, sf, bl, ts, ms, mem, out) := by
 have hb : bl.length ≤ 8 := hR.1.2.2.2.2.2.1
 unfold jc
 by_cases h0 : i < 0
 ·rw [if_pos (af h0), if_neg (by omega)]
 ·rw [if_neg (by simp; omega)]
  by_cases h1 : i ≥ (bl.length : Int)
  ·rw [if_pos (af h1), if_neg (by omega)]
  ·obtain ⟨k, rfl⟩ : ∃ k : Nat, i = (k : Int) := ⟨i.toNat, by omega⟩
   have hw : (bl.getD k []).length ≤ 8 := (hR.2.1 _ (by rw [ao, aw (show k < bl.length by omega)]; exact bo _)).2
   have hc : (0 ≤ (k : Int) ∧ (k : Int) < (bl.length : Int)) := by omega
   rw [if_pos hc, if_neg (by simp; omega), if_pos (gU (by omega)), if_pos (gU (by omega)), ag, if_pos (by simp only [aj, av]; omega), ag]
   have h8 : ((mem.getD k [0, 0, 0, 0, 0, 0, 0, 0]).take (bl.getD k []).length).length ≤ 8 := by
    rw [bX]
    exact aS (Nat.min_le_left _ _) hw
   rw [show (decide (0 = 0) && decide (0 = 0) && decide (((mem.getD k [0, 0, 0, 0, 0, 0, 0, 0]).take (bl.getD k []).length).length * 8 ≤ 140737488355328) && decide (1 ≤ 8)) = true from O7 h8, if_pos rfl]
abbrev O8 : MS := ⟨z8, 0, [], z8, z16, z16, 0, [], 0, 0, 0⟩
abbrev gn (t : Tsk) : gu := fT t.code (scanI t.code).1 false O8
theorem Ed {m : Img} {t : Tsk} (h : TaskG m t) (fam : List gu) : fj 30000 t.code fam = some (fam.length + 1, 0, fam ++ [gn t]) := by
 have hl := h.row.fine.len
 unfold fj
 rw [po 30000 t.code (by omega) (by omega), ae]
 dsimp only
 rw [if_neg (by simp [h.lock]), zg 30000 t.code (by omega) (by omega) (by omega), ae]
 dsimp only
 rw [if_neg (by simp [h.stk]), oS 30000 t.code (by omega) (by omega), ae, if_pos (O1 hl.2)]
 rfl
theorem LA (l : List db) (hl : l.length ≤ 4019) (fam : List gu) : ∃ r, fj 30000 l fam = some r := by
 unfold fj
 rw [po 30000 l (by omega) (by omega), ae]
 split
 ·exact ⟨_, rfl⟩
 ·rw [zg 30000 l (by omega) (by omega) (by omega), ae]
  split
  ·exact ⟨_, rfl⟩
  ·rw [oS 30000 l (by omega) (by omega), ae, if_pos (by simp; omega)]
   exact ⟨_, rfl⟩
theorem Rep.new (fam : List gu) (ts : List Tsk) : Rep (fam ++ ts.map gn) fam.length ts (List.replicate ts.length z8) := by
 refine ⟨by rw [aF, bY]; omega, bV, fun k hk => ⟨O8, ?_, ?_⟩⟩
 ·rw [ao, aQ (by omega), Nat.add_sub_cancel_left, bK, aw hk]
  show gn ts[k] = _
  rw [show ts[k] = ts.getD k tz by rw [ao, aw hk]; rfl]
 ·rw [ao, bG, if_pos hk]
  rfl
theorem LB {α : Type} {xs ys : List α} {d : α} {j : Nat} (h : j < xs.length) : (xs ++ ys).getD j d = xs.getD j d := by
 rw [ao, aP h, ← ao]
theorem Rep.app {fam : List gu} {p : Nat} {ts : List Tsk} {ret : List (List Int)} (h : Rep fam p ts ret) (ys : List gu) : Rep (fam ++ ys) p ts ret := by
 have := h.le
 exact h.far (by rw [aF]; omega) (fun j h1 h2 => LB (by omega))
abbrev Ee (bl : List (List Int)) (mem : dQ) (k : Nat) : dQ := mem.set k ((bl.getD k []).take (min (bl.getD k []).length 8) ++ (mem.getD k z8).drop (min (bl.getD k []).length 8))
def gF (bl : List (List Int)) : Nat → dQ
 | 0 => oY
 | k + 1 => Ee bl (gF bl k) k
theorem xZ (bl : List (List Int)) : ∀ k, (gF bl k).length = 8
 | 0 => rfl
 | k + 1 => by
  show (Ee bl (gF bl k) k).length = 8
  rw [aJ]
  exact xZ bl k
theorem FN (bl : List (List Int)) : ∀ k, k ≤ 8 → ∀ b, b < 8 → (gF bl k).getD b z8 = if b < k then (bl.getD b []).take 8 ++ z8.drop (min (bl.getD b []).length 8) else z8
 | 0, _, b, hb => by
  rw [if_neg (by omega)]
  have : b = 0 ∨ b = 1 ∨ b = 2 ∨ b = 3 ∨ b = 4 ∨ b = 5 ∨ b = 6 ∨ b = 7 := by omega
  rcases this with rfl | rfl | rfl | rfl | rfl | rfl | rfl | rfl <;> rfl
 | k + 1, hk, b, hb => by
  have ih := FN bl k (by omega)
  show (Ee bl (gF bl k) k).getD b z8 = _
  by_cases e : k = b
  ·subst e
   rw [f8 (by rw [xZ]; omega), if_pos (by omega), ih k hb, if_neg (by omega), List.take_eq_take_min (i := min (bl.getD k []).length 8), List.take_eq_take_min (i := 8)]
   congr 2
   omega
  ·rw [oZ e, ih b hb]
   by_cases h : b < k
   ·rw [if_pos h, if_pos (by omega)]
   ·rw [if_neg h, if_neg (by omega)]
structure Agree (t : Tsk) (mem mem' : dQ) : Prop where
 len : mem.length = 8 ∧ mem'.length = 8
 own : ∀ b ∈ t.blocks, mem.getD b.toNat z8 = mem'.getD b.toNat z8
theorem MH : nO 30000 = some true := by kernel_rfl
theorem Ef {i1 i2 i3 i4 : Int} {sf : List Int} {bl : List (List Int)} {ts : List Tsk} (hG : GoodM (i1, i2, i3, i4, sf, bl, ts)) (j1 j2 j3 j4 : Int) (jf : List Int) (jb : List (List Int)) (js : List Tsk) (fam : List gu) (mem : dQ) (out : List Int) :
  rS 30000 (ts, (ts.length : Int), 0, fam, j1, j2, j3, j4, jf, jb, js, i1, i2, i3, i4, sf, bl, ts, [], mem, out) = some (fam ++ ts.map gn, j1, j2, j3, j4, jf, jb, js, i1, i2, i3, i4, sf, bl, ts, iP fam.length ts.length, mem, out) := by
 have hT : ts.length ≤ 8 := hG.right.1.2.2.2.2.2.2.2
 have key : ∃ r, rS 30000 (ts, (ts.length : Int), 0, fam, j1, j2, j3, j4, jf, jb, js, i1, i2, i3, i4, sf, bl, ts, [], mem, out) = some r ∧ r = (fam ++ ts.map gn, j1, j2, j3, j4, jf, jb, js, i1, i2, i3, i4, sf, bl, ts, iP fam.length ts.length, mem, out) := by
  show ∃ r, it _ 30000 _ = some r ∧ _
  refine jq (fun f x => ∃ k : Nat, k ≤ ts.length ∧ ts.length < f + k ∧ x = (ts, (ts.length : Int), (k : Int), fam ++ (ts.take k).map gn, j1, j2, j3, j4, jf, jb, js, i1, i2, i3, i4, sf, bl, ts, iP fam.length k, mem, out)) _ (fun x ⟨k, h1, h2, _⟩ => by omega) ?_ 30000 _ ⟨0, by omega, by omega, by rw [List.take_zero, List.map_nil, aG]; rfl⟩
  rintro f x F hF ⟨k, h1, h2, rfl⟩
  show ∃ r, yU 30000 F ts (ts.length : Int) (k : Int) (fam ++ (ts.take k).map gn) j1 j2 j3 j4 jf jb js i1 i2 i3 i4 sf bl ts (iP fam.length k) mem out = some r ∧ _
  unfold yU
  rcases am k ts.length with hk | hk
  ·rw [if_pos (af (by omega)), if_pos (de hk), ag, show fj 30000 (ts.getD k (0, 0, 0, 0, [], [], [])).2.2.2.2.2.2 (fam ++ (ts.take k).map gn) = _ from Ed (hG.task k hk) _, ae]
   dsimp only
   rw [if_pos (by rw [show (iP fam.length k).length = k from List.length_range']; simp; omega), dC (by omega)]
   refine hF _ ⟨k + 1, by omega, by omega, ?_⟩
   rw [List.take_add_one, aw hk, cC, ← aH]
   show _ = (_, _, _, _ ++ [gn ts[k]], _)
   rw [show ts[k] = ts.getD k tz by rw [ao, aw hk]; rfl, show iP fam.length (k + 1) = iP fam.length k ++ [fam.length + 1 + k] from List.range'_1_concat, show (fam ++ (ts.take k).map gn).length + 1 = fam.length + 1 + k by rw [aF, bY, bX]; omega]
  ·rw [if_neg (by simp; omega)]
   exact ⟨_, rfl, by rw [aV hk, show k = ts.length by omega]⟩
 obtain ⟨r, e1, e2⟩ := key
 rw [e1, e2]
theorem Eg (i1 i2 i3 i4 : Int) (sf : List Int) {bl : List (List Int)} (hb : bl.length ≤ 8) (ts : List Tsk) (fam : List gu) (ms : List Nat) (out : List Int) :
  rT 30000 (bl, (bl.length : Int), 0, fam, i1, i2, i3, i4, sf, bl, ts, ms, oY, out) = some (fam, i1, i2, i3, i4, sf, bl, ts, ms, gF bl bl.length, out) := by
 have key : ∃ r, rT 30000 (bl, (bl.length : Int), 0, fam, i1, i2, i3, i4, sf, bl, ts, ms, oY, out) = some r ∧ r = (fam, i1, i2, i3, i4, sf, bl, ts, ms, gF bl bl.length, out) := by
  show ∃ r, it _ 30000 _ = some r ∧ _
  refine jq (fun f x => ∃ k : Nat, k ≤ bl.length ∧ bl.length < f + k ∧ x = (bl, (bl.length : Int), (k : Int), fam, i1, i2, i3, i4, sf, bl, ts, ms, gF bl k, out)) _ (fun x ⟨k, h1, h2, _⟩ => by omega) ?_ 30000 _ ⟨0, by omega, by omega, rfl⟩
  rintro f x F hF ⟨k, h1, h2, rfl⟩
  show ∃ r, yV 30000 F bl (bl.length : Int) (k : Int) fam i1 i2 i3 i4 sf bl ts ms (gF bl k) out = some r ∧ _
  unfold yV
  rcases am k bl.length with hk | hk
  ·rw [if_pos (af (by omega)), if_pos (de hk), if_pos (gU (by omega)), ag, dC (by omega)]
   exact hF _ ⟨k + 1, by omega, by omega, rfl⟩
  ·rw [if_neg (by simp; omega)]
   exact ⟨_, rfl, by rw [show k = bl.length by omega]⟩
 obtain ⟨r, e1, e2⟩ := key
 rw [e1, e2]
theorem GY {l : List db} {m h : List Int} {st : List ByteArray} (hR : Row l m h st) {c : CS} (hc : nl l m st c) (n : Nat) {fam : List gu} {k : Nat} (hk : k < fam.length) (hf : fam.getD k dM = fT l m c.on c.s) :
  ∃ ev e, gg n (k + 1) fam c.mem = some (ev, e, fam.set k (fT l m (eu l m c).on (eu l m c).s), (eu l m c).mem) := by
 obtain ⟨⟨ev, e, he⟩, _⟩ := wa hR hc n
 refine ⟨(ev.1, ev.2), e, ?_⟩
 unfold vW at he
 unfold gg
 rw [lk dM hk, hf]
 unfold fT jd
 dsimp only
 rw [A7, he]
 rfl
theorem MI {ws row : List Int} {w : Nat} (h1 : w < ws.length) (h2 : w < row.length) : (ws.take w ++ row.drop w).set w (ws.getD w 0) = ws.take (w + 1) ++ row.drop (w + 1) := by
 have e : (ws.take w).length = w := by rw [bX]; omega
 rw [List.set_append_right _ _ (by omega), e, bf, bW h2, List.set_cons_zero, List.take_add_one, aw h1, ao, aw h1, aH]
 rfl
theorem PU (i1 i2 i3 i4 : Int) (sf : List Int) {bl : List (List Int)} (ts : List Tsk) {b : Nat} (hb : b < bl.length) (hb8 : b < 8) (hw : (bl.getD b []).length ≤ 8) (q : Nat) (fam : List gu) (a : Int) (inp : List Int) (ms : List Nat) (mem : dQ) (out : List Int) {mv : dQ} (hm : mv.length = 8) (hr : (mv.getD b z8).length = 8) :
  rU 30000 (q, (b : Int), 0, fam, i1, i2, i3, i4, sf, bl, ts, a, inp, i1, i2, i3, i4, sf, bl, ts, ms, mem, out, mv) = some (q, (b : Int), fam, i1, i2, i3, i4, sf, bl, ts, a, inp, i1, i2, i3, i4, sf, bl, ts, ms, mem, out, Ee bl mv b) := by
 have key : ∃ r, rU 30000 (q, (b : Int), 0, fam, i1, i2, i3, i4, sf, bl, ts, a, inp, i1, i2, i3, i4, sf, bl, ts, ms, mem, out, mv) = some r ∧ r = (q, (b : Int), fam, i1, i2, i3, i4, sf, bl, ts, a, inp, i1, i2, i3, i4, sf, bl, ts, ms, mem, out, Ee bl mv b) := by
  show ∃ r, it _ 30000 _ = some r ∧ _
  refine jq (fun f x => ∃ w : Nat, w ≤ (bl.getD b []).length ∧ (bl.getD b []).length < f + w ∧ x = (q, (b : Int), (w : Int), fam, i1, i2, i3, i4, sf, bl, ts, a, inp, i1, i2, i3, i4, sf, bl, ts, ms, mem, out, mv.set b ((bl.getD b []).take w ++ (mv.getD b z8).drop w))) _ (fun x ⟨w, h1, h2, _⟩ => by omega) ?_ 30000 _ ⟨0, by omega, by omega, by rw [List.take_zero, bI, bw, wb (d := z8) (by omega) rfl]; rfl⟩
  rintro f x F hF ⟨w, h1, h2, rfl⟩
  show ∃ r, yW 30000 F q (b : Int) (w : Int) fam i1 i2 i3 i4 sf bl ts a inp i1 i2 i3 i4 sf bl ts ms mem out (mv.set b ((bl.getD b []).take w ++ (mv.getD b z8).drop w)) = some r ∧ _
  unfold yW
  rw [if_pos (de hb), ag]
  rcases am w (bl.getD b []).length with hw2 | hw2
  ·rw [if_pos (af (by omega)), if_pos (af (by omega)), if_pos (de hb), if_pos (de hw2), if_pos (gU (by omega)), if_pos (gU (by omega)), ag, dC (by omega), List.set_set, f8 (by omega), MI hw2 (by omega)]
   exact hF _ ⟨w + 1, by omega, by omega, rfl⟩
  ·rw [if_neg (fun h => by have := ba h; omega)]
   refine ⟨_, rfl, ?_⟩
   rw [show w = (bl.getD b []).length by omega]
   show _ = (q, (b : Int), fam, i1, i2, i3, i4, sf, bl, ts, a, inp, i1, i2, i3, i4, sf, bl, ts, ms, mem, out, mv.set b ((bl.getD b []).take (min (bl.getD b []).length 8) ++ (mv.getD b z8).drop (min (bl.getD b []).length 8)))
   rw [cj hw]
 obtain ⟨r, e1, e2⟩ := key
 rw [e1, e2]
theorem PV (i1 i2 i3 i4 : Int) (sf : List Int) {bl : List (List Int)} (hb : bl.length ≤ 8) (hW : li bl) (ts : List Tsk) (q : Nat) (fam : List gu) (a : Int) (inp : List Int) (ms : List Nat) (mem : dQ) (out : List Int) :
  rV 30000 (q, 0, fam, i1, i2, i3, i4, sf, bl, ts, a, inp, i1, i2, i3, i4, sf, bl, ts, ms, mem, out, oY) = some (q, fam, i1, i2, i3, i4, sf, bl, ts, a, inp, i1, i2, i3, i4, sf, bl, ts, ms, mem, out, gF bl bl.length) := by
 have key : ∃ r, rV 30000 (q, 0, fam, i1, i2, i3, i4, sf, bl, ts, a, inp, i1, i2, i3, i4, sf, bl, ts, ms, mem, out, oY) = some r ∧ r = (q, fam, i1, i2, i3, i4, sf, bl, ts, a, inp, i1, i2, i3, i4, sf, bl, ts, ms, mem, out, gF bl bl.length) := by
  show ∃ r, it _ 30000 _ = some r ∧ _
  refine jq (fun f x => ∃ k : Nat, k ≤ bl.length ∧ bl.length < f + k ∧ x = (q, (k : Int), fam, i1, i2, i3, i4, sf, bl, ts, a, inp, i1, i2, i3, i4, sf, bl, ts, ms, mem, out, gF bl k)) _ (fun x ⟨w, h1, h2, _⟩ => by omega) ?_ 30000 _ ⟨0, by omega, by omega, rfl⟩
  rintro f x F hF ⟨k, h1, h2, rfl⟩
  show ∃ r, yX 30000 F q (k : Int) fam i1 i2 i3 i4 sf bl ts a inp i1 i2 i3 i4 sf bl ts ms mem out (gF bl k) = some r ∧ _
  unfold yX
  rcases am k bl.length with hk | hk
  ·have hw := hW (bl.getD k []) (by rw [ao, aw hk]; exact bo _)
   rw [if_pos (af (by omega)), if_pos (af (by omega)), PU i1 i2 i3 i4 sf ts hk (by omega) hw.2 q fam a inp ms mem out (xZ bl k) (by rw [FN bl k (by omega) k (by omega), if_neg (by omega)]; rfl), ae]
   dsimp only
   rw [dC (by omega)]
   exact hF _ ⟨k + 1, by omega, by omega, rfl⟩
  ·rw [if_neg (by simp; omega)]
   exact ⟨_, rfl, by rw [show k = bl.length by omega]⟩
 obtain ⟨r, e1, e2⟩ := key
 rw [e1, e2]
theorem PW {K : Nat} (hK : K = 6000) {l : List db} {m h : List Int} {st : List ByteArray} (hR : Row l m h st) {fam0 : List gu} {q : Nat} (hq : q < fam0.length) (i1 i2 i3 i4 : Int) (sf : List Int) (bl : List (List Int)) (ts : List Tsk) (a : Int) (inp : List Int) (ms : List Nat) (mem : dQ) (out : List Int) {c : CS} (hc : nl l m st c) :
  rW 30000 (q + 1, 0, fam0.set q (fT l m c.on c.s), i1, i2, i3, i4, sf, bl, ts, a, inp, i1, i2, i3, i4, sf, bl, ts, ms, mem, out, c.mem) = some (q + 1, fam0.set q (fT l m (dX l m K c).on (dX l m K c).s), i1, i2, i3, i4, sf, bl, ts, a, inp, i1, i2, i3, i4, sf, bl, ts, ms, mem, out, (dX l m K c).mem) := by
 have key : ∃ r, rW 30000 (q + 1, 0, fam0.set q (fT l m c.on c.s), i1, i2, i3, i4, sf, bl, ts, a, inp, i1, i2, i3, i4, sf, bl, ts, ms, mem, out, c.mem) = some r ∧ r = (q + 1, fam0.set q (fT l m (dX l m K c).on (dX l m K c).s), i1, i2, i3, i4, sf, bl, ts, a, inp, i1, i2, i3, i4, sf, bl, ts, ms, mem, out, (dX l m K c).mem) := by
  show ∃ r, it _ 30000 _ = some r ∧ _
  refine jq (fun f x => ∃ j : Nat, j ≤ K ∧ K < f + j ∧ x = (q + 1, (j : Int), fam0.set q (fT l m (dX l m j c).on (dX l m j c).s), i1, i2, i3, i4, sf, bl, ts, a, inp, i1, i2, i3, i4, sf, bl, ts, ms, mem, out, (dX l m j c).mem)) _ (fun x ⟨w, h1, h2, _⟩ => by omega) ?_ 30000 _ ⟨0, by omega, by omega, rfl⟩
  rintro f x F hF ⟨j, h1, h2, rfl⟩
  show ∃ r, yY 30000 F (q + 1) (j : Int) (fam0.set q (fT l m (dX l m j c).on (dX l m j c).s)) i1 i2 i3 i4 sf bl ts a inp i1 i2 i3 i4 sf bl ts ms mem out (dX l m j c).mem = some r ∧ _
  unfold yY
  have hq2 : q < (fam0.set q (fT l m (dX l m j c).on (dX l m j c).s)).length := by rw [aJ]; exact hq
  rcases am j K with hj | hj
  ·rw [if_pos (af (by omega)), wM 30000 hq2 (f8 hq), ae]
   dsimp only
   by_cases hon : (dX l m j c).on = true
   ·obtain ⟨ev, e, he⟩ := GY hR (DZ hR j hc) 30000 hq2 (f8 hq)
    rw [if_pos hon, he, ae]
    dsimp only
    rw [List.set_set, dC (by omega), ← zt]
    exact hF _ ⟨j + 1, by omega, by omega, rfl⟩
   ·have h3 : (dX l m j c).on = false := by cases h : (dX l m j c).on with | false => rfl | true => exact absurd h hon
    have e : dX l m K c = dX l m j c := by
     obtain ⟨d, rfl⟩ : ∃ d, K = j + d := ⟨K - j, by omega⟩
     rw [vf, ve h3]
    rw [if_neg hon, e]
    exact ⟨_, rfl, rfl⟩
  ·rw [if_neg (by simp; omega)]
   exact ⟨_, rfl, by rw [show j = K by omega]⟩
 obtain ⟨r, e1, e2⟩ := key
 rw [e1, e2]
theorem PX (i1 i2 i3 i4 : Int) (sf : List Int) (bl : List (List Int)) (ts : List Tsk) (q : Nat) (os : List (Int × Int)) (e : Int) {k : Nat} (hk : k < 8) {lst : List Int} (hl : lst.length ≤ 8) {mv : dQ} (hm : ∀ w, w < lst.length → lst.getD w 0 = (mv.getD k z8).getD w 0) (fam : List gu) (a : Int) (inp : List Int) (ms : List Nat) (mem : dQ) (out : List Int) :
  rX 30000 (q, os, e, (k : Int), lst, 0, fam, i1, i2, i3, i4, sf, bl, ts, a, inp, i1, i2, i3, i4, sf, bl, ts, ms, mem, out, mv) = some (.inr ((q, os, e, (k : Int), ()), ((fam, ()), (i1, i2, i3, i4, sf, bl, ts, ()), (a, inp, ()), (i1, i2, i3, i4, sf, bl, ts, ms, mem, out, ()), (mv, ()), ()))) := by
 have key : ∃ r, rX 30000 (q, os, e, (k : Int), lst, 0, fam, i1, i2, i3, i4, sf, bl, ts, a, inp, i1, i2, i3, i4, sf, bl, ts, ms, mem, out, mv) = some r ∧ r = (.inr ((q, os, e, (k : Int), ()), ((fam, ()), (i1, i2, i3, i4, sf, bl, ts, ()), (a, inp, ()), (i1, i2, i3, i4, sf, bl, ts, ms, mem, out, ()), (mv, ()), ()))) := by
  show ∃ r, it _ 30000 _ = some r ∧ _
  refine jq (fun f x => ∃ w : Nat, w ≤ lst.length ∧ lst.length < f + w ∧ x = (q, os, e, (k : Int), lst, (w : Int), fam, i1, i2, i3, i4, sf, bl, ts, a, inp, i1, i2, i3, i4, sf, bl, ts, ms, mem, out, mv)) _ (fun x ⟨w, h1, h2, _⟩ => by omega) ?_ 30000 _ ⟨0, by omega, by omega, rfl⟩
  rintro f x F hF ⟨w, h1, h2, rfl⟩
  show ∃ r, yZ 30000 F q os e (k : Int) lst (w : Int) fam i1 i2 i3 i4 sf bl ts a inp i1 i2 i3 i4 sf bl ts ms mem out mv = some r ∧ _
  unfold yZ
  rcases am w lst.length with hw | hw
  ·rw [if_pos (af (by omega)), if_neg (by simp; omega), if_pos (de hw), if_pos (gU (by omega)), if_pos (gU (by omega)), ag, ag, show lst.getD w (0 : Int) = (mv.getD k [(0 : Int), (0 : Int), (0 : Int), (0 : Int), (0 : Int), (0 : Int), (0 : Int), (0 : Int)]).getD w (0 : Int) from hm w hw, if_neg (by rw [bne_self_eq_false]; decide), dC (by omega)]
   exact hF _ ⟨w + 1, by omega, by omega, rfl⟩
  ·rw [if_neg (by simp; omega)]
   exact ⟨_, rfl, rfl⟩
 obtain ⟨r, e1, e2⟩ := key
 rw [e1, e2]
theorem PY {i1 i2 i3 i4 : Int} {sf : List Int} {bl : List (List Int)} {ts : List Tsk} (hR : RightP (i1, i2, i3, i4, sf, bl, ts)) (q : Nat) (os : List (Int × Int)) (e : Int) (fam : List gu) (a : Int) (inp : List Int) (ms : List Nat) (mem : dQ) (out : List Int) :
  rY 30000 (q, os, e, 0, fam, i1, i2, i3, i4, sf, bl, ts, a, inp, i1, i2, i3, i4, sf, bl, ts, ms, mem, out, mem) = some (.inr ((q, os, e, ()), ((fam, ()), (i1, i2, i3, i4, sf, bl, ts, ()), (a, inp, ()), (i1, i2, i3, i4, sf, bl, ts, ms, mem, out, ()), (mem, ()), ()))) := by
 have hb : bl.length ≤ 8 := hR.1.2.2.2.2.2.1
 have key : ∃ r, rY 30000 (q, os, e, 0, fam, i1, i2, i3, i4, sf, bl, ts, a, inp, i1, i2, i3, i4, sf, bl, ts, ms, mem, out, mem) = some r ∧ r = (.inr ((q, os, e, ()), ((fam, ()), (i1, i2, i3, i4, sf, bl, ts, ()), (a, inp, ()), (i1, i2, i3, i4, sf, bl, ts, ms, mem, out, ()), (mem, ()), ()))) := by
  show ∃ r, it _ 30000 _ = some r ∧ _
  refine jq (fun f x => ∃ k : Nat, k ≤ bl.length ∧ bl.length < f + k ∧ x = (q, os, e, (k : Int), fam, i1, i2, i3, i4, sf, bl, ts, a, inp, i1, i2, i3, i4, sf, bl, ts, ms, mem, out, mem)) _ (fun x ⟨w, h1, h2, _⟩ => by omega) ?_ 30000 _ ⟨0, by omega, by omega, rfl⟩
  rintro f x F hF ⟨k, h1, h2, rfl⟩
  show ∃ r, y0 30000 F q os e (k : Int) fam i1 i2 i3 i4 sf bl ts a inp i1 i2 i3 i4 sf bl ts ms mem out mem = some r ∧ _
  unfold y0
  rcases am k bl.length with hk | hk
  ·have hw : (bl.getD k []).length ≤ 8 := (hR.2.1 _ (by rw [ao, aw hk]; exact bo _)).2
   rw [if_pos (af (by omega)), if_pos (af (by omega)), show iD 30000 (k : Int) fam i1 i2 i3 i4 sf bl ts ms mem out = _ from Lz 30000 hR (k : Int) fam ms mem out, ae]
   dsimp only
   rw [if_pos (show 0 ≤ (k : Int) ∧ (k : Int) < (bl.length : Int) by omega), ag]
   have hl : ((mem.getD k z8).take (bl.getD k []).length).length ≤ 8 := by rw [bX]; omega
   rw [PX i1 i2 i3 i4 sf bl ts q os e (show k < 8 by omega) hl (mv := mem) (fun w hw => by
    rw [bX] at hw
    rw [ao, aO, if_pos (by omega), ← ao]) fam a inp ms mem out, ae]
   dsimp only [Sum.elim_inr]
   rw [dC (by omega)]
   exact hF _ ⟨k + 1, by omega, by omega, rfl⟩
  ·rw [if_neg (by simp; omega)]
   exact ⟨_, rfl, rfl⟩
 obtain ⟨r, e1, e2⟩ := key
 rw [e1, e2]
theorem nA (a0 : (Int × (Int × (Int × (Int × ((List Int) × ((List (List Int)) × (List (Int × (Int × (Int × (Int × ((List Int) × ((List Int) × (List (Int × (Int × Int))))))))))))))))) (a1 : (Int × (List Int))) (ok0 : Sh.Ok (.pair (.int .i64) (.pair (.int .i64) (.pair (.int .i64) (.pair (.int .i64) (.pair (.sl (.int .i64)) (.pair (.sl (.sl (.int .i64))) (.sl (.pair (.int .i64) (.pair (.int .i64) (.pair (.int .i64) (.pair (.int .i64) (.pair (.sl (.int .i64)) (.pair (.sl (.int .i64)) (.sl (.pair (.int .i64) (.pair (.int .i64) (.int .i64))))))))))))))))) a0) (ok1 : Sh.Ok (.pair (.int .i64) (.arr 16 (.int .i64))) a1) (sm0 : Sh.Sm (.pair (.int .i64) (.pair (.int .i64) (.pair (.int .i64) (.pair (.int .i64) (.pair (.sl (.int .i64)) (.pair (.sl (.sl (.int .i64))) (.sl (.pair (.int .i64) (.pair (.int .i64) (.pair (.int .i64) (.pair (.int .i64) (.pair (.sl (.int .i64)) (.pair (.sl (.int .i64)) (.sl (.pair (.int .i64) (.pair (.int .i64) (.int .i64))))))))))))))))) a0) (LU : Sh.Sm (.pair (.int .i64) (.arr 16 (.int .i64))) a1) : ∃ n, Gz n a0 a1 = some true := by
 refine ⟨30000, ?_⟩
 obtain ⟨K, hK⟩ : ∃ K : Nat, K = 6000 := ⟨6000, rfl⟩
 obtain ⟨i1, i2, i3, i4, sf, bl, ts⟩ := a0
 obtain ⟨a, inp⟩ := a1
 unfold Gz
 dsimp only
 rw [MH]
 obtain ⟨b, hb1, hb2⟩ := GX sm0
 rw [hb1, ae]
 cases b with
 | false => rfl
 | true =>
  obtain ⟨hL, hW⟩ := hb2 rfl
  rw [if_neg (by decide)]
  by_cases h0 : a < 0
  ·rw [if_pos (af h0)]; rfl
  rw [if_neg (fun h => h0 (ba h))]
  by_cases h1 : a ≥ (ts.length : Int)
  ·rw [if_pos (af h1)]; rfl
  rw [if_neg (fun h => h1 (ba h))]
  obtain ⟨k, rfl⟩ : ∃ k : Nat, a = (k : Int) := ⟨a.toNat, by omega⟩
  have hk : k < ts.length := by omega
  have hc : (ej ts k).length ≤ 4019 := hL.2 _ (by show ts.getD k tz ∈ ts; rw [ao, aw hk]; exact bo _)
  obtain ⟨x, e, c1, c2⟩ := Lv (i1, i2, i3, i4, sf, bl, ts)
  rw [c1, ae]
  dsimp only
  by_cases he : e = 0
  ·obtain ⟨hR, hT⟩ := c2 he
   have hG := MG hR hT hW
   subst he
   have hs16 : sf.length ≤ 16 := hR.1.2.2.2.2.1
   have hb8 : bl.length ≤ 8 := hR.1.2.2.2.2.2.1
   have ht := hG.task k hk
   rw [if_neg (by decide), if_pos (by simp; omega)]
   have eA := Ef hG i1 i2 i3 i4 sf bl ts [] oY (List.replicate ((sf.length : Int)).toNat (0 : Int))
   rw [eA, ae]
   dsimp only
   rw [Eg i1 i2 i3 i4 sf hb8 ts _ _ _, ae]
   dsimp only
   rw [if_pos (de hk), ag, show fj 30000 (ts.getD k (0, 0, 0, 0, [], [], [])).2.2.2.2.2.2 ([] ++ ts.map gn) = _ from Ed ht _, ae]
   dsimp only
   rw [if_neg (by decide), if_neg (fun h => by have h : false = true := h; cases h)]
   have hr0 := (Rep.new [] ts).app [gn (ts.getD k tz)]
   have hq : ([] ++ ts.map gn).length < ([] ++ ts.map gn ++ [gn (ts.getD k tz)]).length := by rw [aF (bs := [gn (ts.getD k tz)])]; exact Nat.lt_succ_self _
   have hq0 : ([] ++ ts.map gn).length = ts.length := by rw [bw, bY]
   have hg : ([] ++ ts.map gn ++ [gn (ts.getD k tz)]).getD ([] ++ ts.map gn).length dM = gn (ts.getD k tz) := by rw [ao, aQ (ak _), bf]; rfl
   generalize [] ++ ts.map gn ++ [gn (ts.getD k tz)] = fam at *
   generalize ([] ++ ts.map gn).length = q at *
   rw [PV i1 i2 i3 i4 sf hb8 hR.2.1 ts (q + 1) fam (k : Int) inp _ _ _, ae]
   dsimp only
   rw [Bj 30000 hq ht.row.fine.len.1 hg inp, ae]
   dsimp only
   have e4 := PW hK ht.row hq i1 i2 i3 i4 sf bl ts (k : Int) inp (iP ([] : List gu).length ts.length) (gF bl bl.length) (List.replicate ((sf.length : Int)).toNat (0 : Int)) (vm ht.row z8 inp (gF bl bl.length))
   dsimp only at e4
   rw [show dX (ej ts k) (scanI (ej ts k)).1 K ⟨true, iX z8 inp, gF bl bl.length⟩ = hU K (ej ts k) z8 inp (gF bl bl.length) from rfl] at e4
   have hoff := FM (K := K) (by omega) ht z8 inp (gF bl bl.length)
   rw [e4, ae]
   dsimp only
   have hr1 : Rep (fam.set q (fT (ej ts k) (scanI (ej ts k)).1 (hU K (ej ts k) z8 inp (gF bl bl.length)).on (hU K (ej ts k) z8 inp (gF bl bl.length)).s)) ([] : List gu).length ts (List.replicate ts.length z8) := hr0.far (by rw [aJ]; exact ak _) (fun j h1 h2 => oZ (by simp at h2; omega))
   obtain ⟨fam1, q1, q2, q3, q4, q5⟩ := O6 (K := K) ⟨by omega, by omega⟩ hG (W := ⟨List.replicate ts.length z8, gF bl bl.length, List.replicate ((sf.length : Int)).toNat (0 : Int)⟩) hr1 (by rw [bV, ag]) (k : Int) inp
   dsimp only at q1
   rw [q1, ae]
   dsimp only
   have hin : (0 ≤ (k : Int) ∧ (k : Int) < (ts.length : Int)) := by omega
   have hz0 : (List.replicate ts.length z8).getD k [] = z8 := by rw [ao, bG, if_pos hk]; rfl
   have hgq := q4 q (by right; simp; omega)
   rw [f8 hq] at hgq
   have hq1 : q < fam1.length := by rw [q3, aJ]; exact hq
   unfold vl at q2 ⊢
   rw [if_pos hin, ag, hz0] at q2 ⊢
   dsimp only at q2 ⊢
   generalize hU K (ej ts k) z8 inp (gF bl bl.length) = c at *
   rw [PY hR (q + 1) _ _ fam1 (k : Int) inp _ c.mem _, ae]
   dsimp only [Sum.elim_inr]
   rw [if_pos (by decide), D0 30000 (pq _ _) (by decide), ae, xY 30000 (by decide) hq1 hgq, ae]
   dsimp only
   rw [D0 30000 (pq _ _) (by decide), ae, Lr 30000 (pq _ _) (by decide), ae, if_pos rfl]
   rw [show gB 30000 (k : Int) fam1 i1 i2 i3 i4 sf bl ts (iP ([] : List gu).length ts.length) _ _ = _ from ED q2 30000 (k : Int) i1 i2 i3 i4 sf bl ts _ _, ae]
   dsimp only
   rw [FL 30000 hq1 hgq, ae]
   dsimp only
   rw [if_pos hin, ag, f8 (by rw [bV]; exact hk), if_pos (PT _ 8)]
   rfl
  ·have hne : (e != 0) = true := ax.2 he
   obtain ⟨y, hy⟩ := LA (ej ts k) hc []
   rw [if_pos hne, if_pos (de hk), ag, show fj 30000 (ts.getD k (0, 0, 0, 0, [], [], [])).2.2.2.2.2.2 [] = _ from hy, ae, if_pos hne, if_pos hne]
   rfl
end Go.Proofs.Dk
