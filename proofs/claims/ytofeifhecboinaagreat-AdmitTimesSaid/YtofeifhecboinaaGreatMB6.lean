/- A part of the proofs: Plain: an image's uses, rows, verdict. -/
import Derived.Test.YtofeifhecboinaaGreatMB5
import Derived.Test.YtofeifhecboinaaGreatMB4
set_option linter.unusedVariables false
set_option linter.unusedSimpArgs false
noncomputable section
namespace Go.Proofs.Dk
open Go Go.IntKind
set_option maxRecDepth 100000
theorem EM {l : List cY} (hl : l.length < 30000) (h : (ew bM 30000 l).2 = 0) : (jX 30000 l).1.length = (fj l).length ∧ (∀ e ∈ (jX 30000 l).1, 1 ≤ e.2 ∧ e.2 + 2 ≤ (ew bM 30000 l).1) := by
 obtain ⟨h1, h2⟩ := rN h
 obtain ⟨b1, b2, b3, b4, b5⟩ := rP 30000 l h
 have hsI : jX 30000 l = (gC l (dq l).1 30000 l.length 0, 0) := by unfold jX; rw [if_neg (fun k => k h)]
 rw [hsI]
 obtain ⟨g1, g2⟩ := J6 (n := 30000) h1 (AF h2).2 hl (by omega) l.length 0 (by omega)
 refine ⟨?_, fun e he => ⟨(g2 e he).1, by have := (g2 e he).2; omega⟩⟩
 unfold fj
 rw [if_pos h1]
 exact BZ _ _
def My (m : Img) (i : Nat) : gb := ((dw m i).1, (dw m i).2.2.2.2.1, (lZ 30000 m i).1)
def eA (m : Img) : List gb := (List.range m.tasks.length).map (fun (k : Nat) => My m k)
def rR (m : Img) (i : Nat) : Row := ((fP 30000 m i).1, (fG (eA m)).getD i 0, (dw m i).2.1, (dw m i).2.2.1, (dw m i).2.2.2.1, (dw m i).1)
def d5 (m : Img) : List Row := (List.range m.tasks.length).map (fun (k : Nat) => rR m k)
abbrev Vd := Int × Int × List Row × List Int × List Int
def qI (m : Img) : Vd := if (eh 30000 m).2 ≠ 0 then ((eh 30000 m).2, (eh 30000 m).1, [], [], []) else ((xN (d5 m)).2.2, (xN (d5 m)).2.1, d5 m, (xN (d5 m)).1, dX (m.blocks.length : Int) (eA m))
theorem zy {e : Nat → Int} : ∀ {r i : Nat}, iM e r i = none → ∀ j, i ≤ j → j < i + r → e j = 0
 | 0, i, _, j, h1, h2 => by omega
 | r + 1, i, h, j, h1, h2 => by
  unfold iM at h
  split at h
  ·cases h
  ·rename_i hz
   rcases ak i j with h3 | h3
   ·exact zy h j (by omega) (by omega)
   ·have : j = i := by omega
    rw [this]
    exact Decidable.not_not.1 hz
theorem zA {e : Nat → Int} {p : Int × Int} : ∀ {r i : Nat}, iM e r i = some p → p.2 ≠ 0
 | 0, i, h => by cases h
 | r + 1, i, h => by
  unfold iM at h
  split at h
  ·rename_i hz
   simp only [ab] at h
   rw [← h]
   exact hz
  ·exact zA h
theorem jq {n : Nat} {m : Img} (h : (eh n m).2 = 0) : RightP m ∧ (eh n m).1 = -1 ∧ ∀ i, i < m.tasks.length → fk n m (i : Int) = 0 := by
 unfold eh at h ⊢
 split at h
 ·rename_i hR
  rw [if_pos hR]
  refine ⟨hR, ?_⟩
  cases hf : iM (fun i => fk n m (i : Int)) m.tasks.length 0 with
  | none => exact ⟨rfl, fun i hi => zy hf i (ao _) (by omega)⟩
  | some p =>
   rw [hf] at h
   exact absurd h (zA hf)
 ·exact absurd h (by decide)
def rS (m : Img) : Prop := ∀ t ∈ m.tasks, ¬ (t.2.2.1 > 20000 ∧ t.2.2.1 ≤ 1048576)
theorem EN {m : Img} {i : Nat} (hi : i < m.tasks.length) : dw m (i : Int) ∈ m.tasks := by
 unfold dw
 rw [ai, ar, av hi]
 exact aQ hi
theorem B6 {m : Img} (h : RightP m) {i : Nat} (hi : i < m.tasks.length) : lw m (dw m (i : Int)) := (h.task (i := (i : Int)) (by omega) (by omega)).1
theorem wq {m : Img} {i : Nat} (hz : fk 30000 m (i : Int) = 0) : (lZ 30000 m (i : Int)).1.length = (dw m (i : Int)).2.2.2.2.1.length ∧ ∀ a ∈ (lZ 30000 m (i : Int)).1, 1 ≤ a ∧ a ≤ 1048576 := by
 obtain ⟨hR, ⟨h0, h1⟩, h2, h3, h4⟩ := nE hz
 have hc : (dw m i).code.length ≤ 200 := (hR.task h0 h1).1.2.2.2.2.1
 obtain ⟨k1, k2⟩ := EM (l := (dw m i).code) (by omega) h2
 obtain ⟨b1, b2, b3, b4, b5⟩ := rP 30000 _ h2
 unfold lZ
 rw [if_neg (fun k => k hz)]
 refine ⟨?_, fun a ha => ?_⟩
 ·show ((jX 30000 (dw m i).code).1.map Prod.snd).length = _
  rw [bb, k1, h3]
 ·obtain ⟨e, he, rfl⟩ := List.mem_map.1 ha
  have := k2 e he
  omega
theorem zB {m : Img} {i : Nat} (hz : fk 30000 m (i : Int) = 0) : (fP 30000 m (i : Int)).2 = 0 ∧ (fP 30000 m (i : Int)).1 = (ew bM 30000 (dw m (i : Int)).code).1 + 2 * m.1 + m.2.1 + m.2.2.1 ∧ 1 ≤ (ew bM 30000 (dw m (i : Int)).code).1 ∧ (ew bM 30000 (dw m (i : Int)).code).1 ≤ 1048576 := by
 obtain ⟨hR, ⟨h0, h1⟩, h2, h3, h4⟩ := nE hz
 obtain ⟨b1, b2, b3, b4, b5⟩ := rP 30000 _ h2
 unfold fP
 rw [if_neg (fun k => k hz)]
 exact ⟨rfl, rfl, by omega, b5⟩
theorem pq (m : Img) : (eA m).length = m.tasks.length := by unfold eA; rw [bb, bO]
theorem Ny {m : Img} (h : (eh 30000 m).2 = 0) : UsesOk (m.blocks.length : Int) (eA m) := by
 obtain ⟨hR, _, hz⟩ := jq h
 have hN := hR.1
 refine ⟨by have := hN.2.2.2.2.2.1; omega, by rw [pq]; have := hN.2.2.2.2.2.2; omega, fun u hu => ?_⟩
 unfold eA at hu
 obtain ⟨i, hi, rfl⟩ := List.mem_map.1 hu
 have hi' : i < m.tasks.length := by simpa using hi
 have hT := B6 hR hi'
 obtain ⟨k1, k2⟩ := wq (hz i hi')
 exact ⟨hT.1.1, hT.2.1, k1.symm, fun a ha => by have := k2 a ha; omega⟩
theorem EO {c : Int → Int} {p q M : Int} : ∀ {s t : List Int} {m : Int}, (∀ a ∈ t, a ≤ M) → m ≤ M → m ≤ mg c p q s t m ∧ mg c p q s t m ≤ M
 | [], [], m, _, h => by unfold mg; omega
 | [], _ :: _, m, _, h => by unfold mg; omega
 | _ :: _, [], m, _, h => by unfold mg; omega
 | k :: s, a :: t, m, ht, h => by
  unfold mg
  have ha := ht a (aB ..)
  have : m ≤ (if q < p then if c k ≥ p then hi a m else m else m) ∧ (if q < p then if c k ≥ p then hi a m else m else m) ≤ M := by
   split
   ·split
    ·unfold hi; split <;> omega
    ·omega
   ·omega
  have := EO (c := c) (p := p) (q := q) (s := s) (t := t) (fun x hx => ht x (az _ hx)) this.2
  omega
theorem EP {c : Int → Int} {p M : Int} : ∀ {l : List gb} {m : Int}, (∀ u ∈ l, ∀ a ∈ u.2.2, a ≤ M) → m ≤ M → m ≤ pp c p l m ∧ pp c p l m ≤ M
 | [], m, _, h => by unfold pp; omega
 | u :: t, m, ht, h => by
  unfold pp
  have h1 := EO (c := c) (p := p) (q := u.1) (s := u.2.1) (ht u (aB ..)) h
  have h2 := EP (c := c) (p := p) (l := t) (fun v hv => ht v (az _ hv)) h1.2
  omega
theorem zC (l : List gb) : (fG l).length = l.length := by unfold fG; rw [bb, bO]
theorem HM {l : List gb} {i : Nat} (hi : i < l.length) : (fG l).getD i 0 = zx l i := by
 unfold fG
 rw [ar, bz, cc hi]
 rfl
theorem HN {m : Img} (h : (eh 30000 m).2 = 0) {i : Nat} (hi : i < m.tasks.length) : 0 ≤ (fG (eA m)).getD i 0 ∧ (fG (eA m)).getD i 0 ≤ 1048576 := by
 obtain ⟨hR, _, hz⟩ := jq h
 rw [HM (by rw [pq]; exact hi)]
 unfold zx
 refine EP (fun u hu a ha => ?_) (by omega)
 unfold eA at hu
 obtain ⟨j, hj, rfl⟩ := List.mem_map.1 hu
 have hj' : j < m.tasks.length := by simpa using hj
 exact ((wq (hz j hj')).2 a ha).2
theorem jg (m : Img) : (d5 m).length = m.tasks.length := by unfold d5; rw [bb, bO]
theorem Ko (m : Img) {i : Nat} (hi : i < m.tasks.length) : (d5 m).getD i dz = rR m i := by
 unfold d5
 rw [ar, bz, cc hi]
 rfl
theorem Kp {m : Img} (h : (eh 30000 m).2 = 0) {i : Nat} (hi : i < m.tasks.length) : RowB (rR m i) := by
 obtain ⟨hR, _, hz⟩ := jq h
 have hN := hR.1
 have hT := B6 hR hi
 obtain ⟨n1, n2, n3, n4⟩ := hT.1
 obtain ⟨s1, s2, s3, s4⟩ := zB (hz i hi)
 have hw := HN h hi
 have hn1 := hN.1
 have hn2 := hN.2.1
 have hn3 := hN.2.2.1
 refine ⟨?_, ?_, n2, ?_, n4, n1⟩
 ·show 1 ≤ (fP 30000 m (i : Int)).1 ∧ (fP 30000 m (i : Int)).1 ≤ 2000000
  omega
 ·show 0 ≤ (fG (eA m)).getD i 0 ∧ (fG (eA m)).getD i 0 ≤ 2000000
  omega
 ·show 1 ≤ (dw m (i : Int)).2.2.1 ∧ (dw m (i : Int)).2.2.1 ≤ 1048576
  omega
theorem qJ {m : Img} (h : (eh 30000 m).2 = 0) : RowsB (d5 m) := by
 obtain ⟨hR, _, hz⟩ := jq h
 refine ⟨by rw [jg]; have := hR.1.2.2.2.2.2.2; omega, fun r hr => ?_⟩
 unfold d5 at hr
 obtain ⟨i, hi, rfl⟩ := List.mem_map.1 hr
 exact Kp h (by simpa using hi)
theorem pt {m : Img} (h : (eh 30000 m).2 = 0) (hd : rS m) : ∀ r ∈ d5 m, r.2.2.2.1 ≤ 20000 := by
 obtain ⟨hR, _, hz⟩ := jq h
 intro r hr
 unfold d5 at hr
 obtain ⟨i, hi, rfl⟩ := List.mem_map.1 hr
 have hi' : i < m.tasks.length := by simpa using hi
 have h1 := hd _ (EN hi')
 have h2 := Kp h hi'
 have : (rR m i).2.2.2.1 = (dw m (i : Int)).2.2.1 := rfl
 have := h2.d
 omega
theorem qK : ea 30000 = some true := rfl
theorem Fl (n : Nat) (hn1 : 200 < n) (hn2 : n < 1000000) (m : Img) (i : Nat) (hi : i < m.tasks.length) : gK n (i : Int) m.1 m.2.1 m.2.2.1 m.2.2.2.1 m.2.2.2.2.1 m.2.2.2.2.2.1 m.2.2.2.2.2.2 = some (((dw m (i : Int)).1, (dw m (i : Int)).2.2.2.2.1, (lZ n m (i : Int)).1), m.1, m.2.1, m.2.2.1, m.2.2.2.1, m.2.2.2.2.1, m.2.2.2.2.2.1, m.2.2.2.2.2.2) := by
 unfold gK
 rw [show gW n (m.1, m.2.1, m.2.2.1, m.2.2.2.1, m.2.2.2.2.1, m.2.2.2.2.2.1, m.2.2.2.2.2.2) (i : Int) = _ from Kg n hn1 hn2 m i, ae, if_pos (dc hi), if_pos (dc hi)]
theorem Fm (n : Nat) (hn1 : 200 < n) (hn2 : n < 1000000) (m : Img) (i : Nat) (hi : i < m.tasks.length) (w : Int) : gM n (i : Int) w m.1 m.2.1 m.2.2.1 m.2.2.2.1 m.2.2.2.2.1 m.2.2.2.2.2.1 m.2.2.2.2.2.2 = some (((fP n m (i : Int)).1, w, (dw m (i : Int)).2.1, (dw m (i : Int)).2.2.1, (dw m (i : Int)).2.2.2.1, (dw m (i : Int)).1), m.1, m.2.1, m.2.2.1, m.2.2.2.1, m.2.2.2.2.1, m.2.2.2.2.2.1, m.2.2.2.2.2.2) := by
 unfold gM
 rw [if_pos (dc hi), show fK n (m.1, m.2.1, m.2.2.1, m.2.2.2.1, m.2.2.2.2.1, m.2.2.2.2.2.1, m.2.2.2.2.2.2) (i : Int) = _ from ED n hn1 hn2 m i, ae]
theorem zD {α : Type} (f : Nat → α) (i : Nat) : (List.range i).map f ++ [f i] = (List.range (i + 1)).map f := by
 rw [List.range_succ, cq]
 rfl
theorem B7 {α : Type} {l : List α} {i k : Nat} (h : l.length ≤ i) (hi : i ≤ 1000000) (hk : 1 ≤ k ∧ k ≤ 1000) : (decide ((l.length + 1) * k ≤ 140737488355328) && decide (1 ≤ k)) = true := by
 rw [ag (show (l.length + 1) * k ≤ 140737488355328 by
  have : (l.length + 1) * k ≤ 1000001 * 1000 := Nat.mul_le_mul (by omega) hk.2
  omega), ag hk.1]
 rfl
theorem Mz (n : Nat) (hn : n = 30000) (m : Img) (hd : rS m) : qu n m = some (qI m) := by
 unfold qu qI
 rw [show jF n (m.1, m.2.1, m.2.2.1, m.2.2.2.1, m.2.2.2.2.1, m.2.2.2.2.2.1, m.2.2.2.2.2.2) = some (eh 30000 m) from by rw [← hn]; exact Mr n (by omega) (by omega) m, ae]
 by_cases h : (eh 30000 m).2 ≠ 0
 ·rw [if_pos (aj.2 h), if_pos h]
 ·rw [if_neg (fun e => h (aj.1 e)), if_neg h]
  have hz := Decidable.not_not.1 h
  have hU := Ny hz
  have h8 : m.tasks.length ≤ 8 := by rw [← jg]; exact (qJ hz).len
  have e0 := d7 (S := fun F => (kS (dM q_)) (qr n F)) (fun f x r => ∃ i : Nat, x = ((List.range i).map (fun (k : Nat) => My m k), (m.tasks.length : Int), (i : Int), m.1, m.2.1, m.2.2.1, m.2.2.2.1, m.2.2.2.2.1, m.2.2.2.2.2.1, m.2.2.2.2.2.2, 0, 0, [], [], [], m.1, m.2.1, m.2.2.1, m.2.2.2.1, m.2.2.2.2.1, m.2.2.2.2.2.1, m.2.2.2.2.2.2) ∧ i ≤ m.tasks.length ∧ m.tasks.length < f + i ∧ r = (eA m, m.1, m.2.1, m.2.2.1, m.2.2.2.1, m.2.2.2.2.1, m.2.2.2.2.2.1, m.2.2.2.2.2.2, 0, 0, [], [], [], m.1, m.2.1, m.2.2.1, m.2.2.2.1, m.2.2.2.2.1, m.2.2.2.2.2.1, m.2.2.2.2.2.2)) (fun x r ⟨i, _, h1, h2, _⟩ => by omega) (fun f x F hF r => ?_) n ([], (m.tasks.length : Int), 0, m.1, m.2.1, m.2.2.1, m.2.2.2.1, m.2.2.2.2.1, m.2.2.2.2.2.1, m.2.2.2.2.2.2, 0, 0, [], [], [], m.1, m.2.1, m.2.2.1, m.2.2.2.1, m.2.2.2.2.1, m.2.2.2.2.2.1, m.2.2.2.2.2.2) _ ⟨0, rfl, ao _, by omega, rfl⟩
  ·unfold ub
   rw [e0, ae]
   show (fJ n (m.blocks.length : Int) (eA m)).bind _ = _
   rw [wo n (by omega) (by omega) hU, ae]
   show (i7 n (m.blocks.length : Int) (eA m)).bind _ = _
   rw [Mx n (by omega) (by omega) hU, ae]
   have e1 := d7 (S := fun F => (kS (dk q_)) (qt n F)) (fun f x r => ∃ i : Nat, x = (fG (eA m), (m.tasks.length : Int), (i : Int), 0, 0, [], [], [], 0, 0, (List.range i).map (fun (k : Nat) => rR m k), [], dX (m.blocks.length : Int) (eA m), m.1, m.2.1, m.2.2.1, m.2.2.2.1, m.2.2.2.2.1, m.2.2.2.2.2.1, m.2.2.2.2.2.2) ∧ i ≤ m.tasks.length ∧ m.tasks.length < f + i ∧ r = (0, 0, [], [], [], 0, 0, d5 m, [], dX (m.blocks.length : Int) (eA m), m.1, m.2.1, m.2.2.1, m.2.2.2.1, m.2.2.2.2.1, m.2.2.2.2.2.1, m.2.2.2.2.2.2)) (fun x r ⟨i, _, h1, h2, _⟩ => by omega) (fun f x F hF r => ?_) n (fG (eA m), (m.tasks.length : Int), 0, 0, 0, [], [], [], 0, 0, [], [], dX (m.blocks.length : Int) (eA m), m.1, m.2.1, m.2.2.1, m.2.2.2.1, m.2.2.2.2.1, m.2.2.2.2.2.1, m.2.2.2.2.2.2) _ ⟨0, rfl, ao _, by omega, rfl⟩
   ·unfold uc
    show (it _ n (fG (eA m), ((fG (eA m)).length : Int), 0, 0, 0, [], [], [], 0, 0, [], [], dX (m.blocks.length : Int) (eA m), m.1, m.2.1, m.2.2.1, m.2.2.2.1, m.2.2.2.2.1, m.2.2.2.2.2.1, m.2.2.2.2.2.2)).bind _ = _
    rw [show (fG (eA m)).length = m.tasks.length by rw [zC, pq], e1, ae]
    show (jc n (d5 m)).bind _ = _
    rw [Km n (by omega) (by omega) (qJ hz) (pt hz hd), ae]
   ·rintro ⟨i, rfl, h1, h2, rfl⟩
    show qt n F (fG (eA m)) (m.tasks.length : Int) (i : Int) 0 0 [] [] [] 0 0 ((List.range i).map (fun (k : Nat) => rR m k)) [] (dX (m.blocks.length : Int) (eA m)) m.1 m.2.1 m.2.2.1 m.2.2.2.1 m.2.2.2.2.1 m.2.2.2.2.2.1 m.2.2.2.2.2.2 = _
    unfold qt
    rcases ak i m.tasks.length with hlt | hge
    ·rw [if_pos (ag (by omega)), if_pos (dc (by rw [zC, pq]; exact hlt)), Fm n (by omega) (by omega) m i hlt, ae, if_pos (B7 (i := i) (by rw [bb, bO]; exact aq _) (by omega) (by decide)), di (by omega)]
     refine hF _ _ ⟨i + 1, ?_, by omega, by omega, rfl⟩
     rw [← zD, hn]
     rfl
    ·have : i = m.tasks.length := by omega
     subst this
     rw [if_neg (by simp)]
     rfl
  ·rintro ⟨i, rfl, h1, h2, rfl⟩
   show qr n F ((List.range i).map (fun (k : Nat) => My m k)) (m.tasks.length : Int) (i : Int) m.1 m.2.1 m.2.2.1 m.2.2.2.1 m.2.2.2.2.1 m.2.2.2.2.2.1 m.2.2.2.2.2.2 0 0 [] [] [] m.1 m.2.1 m.2.2.1 m.2.2.2.1 m.2.2.2.2.1 m.2.2.2.2.2.1 m.2.2.2.2.2.2 = _
   unfold qr
   rcases ak i m.tasks.length with hlt | hge
   ·rw [if_pos (ag (by omega)), Fl n (by omega) (by omega) m i hlt, ae, if_pos (B7 (i := i) (by rw [bb, bO]; exact aq _) (by omega) (by decide)), di (by omega)]
    refine hF _ _ ⟨i + 1, ?_, by omega, by omega, rfl⟩
    rw [← zD, hn]
    rfl
   ·have : i = m.tasks.length := by omega
    subst this
    rw [if_neg (by simp)]
    rfl
theorem HO (n : Nat) (hn : 200 < n) (hn2 : n < 1000000) {m : Img} (h : Sh.Sm PL m) : rz n m = some 0 ∨ (rz n m = some 1 ∧ EC m ∧ rS m) := by
 unfold rz
 rcases Kh n hn hn2 h with e | ⟨e, hL⟩
 ·left
  rw [show ny n (m.1, m.2.1, m.2.2.1, m.2.2.2.1, m.2.2.2.2.1, m.2.2.2.2.2.1, m.2.2.2.2.2.2) = some 0 from e, ae]
  rfl
 ·rw [show ny n (m.1, m.2.1, m.2.2.1, m.2.2.2.1, m.2.2.2.2.1, m.2.2.2.2.2.1, m.2.2.2.2.2.2) = some 1 from e, ae, if_neg (by decide)]
  have h80 := hL.1
  unfold wL
  by_cases hD : rS m
  ·right
   refine ⟨?_, hL, hD⟩
   have := d7 (S := fun F => (dM (dk q_)) (mz n F)) (fun f x r => ∃ i : Nat, x = ((i : Int), m.1, m.2.1, m.2.2.1, m.2.2.2.1, m.2.2.2.2.1, m.2.2.2.2.2.1, m.2.2.2.2.2.2) ∧ i ≤ m.tasks.length ∧ m.tasks.length < f + i ∧ r = .inr ((), ((m.1, m.2.1, m.2.2.1, m.2.2.2.1, m.2.2.2.2.1, m.2.2.2.2.2.1, m.2.2.2.2.2.2, ()), ()))) (fun x r ⟨i, _, h1, h2, _⟩ => by omega) (fun f x F hF r => ?_) n (0, m.1, m.2.1, m.2.2.1, m.2.2.2.1, m.2.2.2.2.1, m.2.2.2.2.2.1, m.2.2.2.2.2.2) _ ⟨0, rfl, ao _, by omega, rfl⟩
   ·rw [this]; rfl
   ·rintro ⟨i, rfl, h1, h2, rfl⟩
    show mz n F (i : Int) m.1 m.2.1 m.2.2.1 m.2.2.2.1 m.2.2.2.2.1 m.2.2.2.2.2.1 m.2.2.2.2.2.2 = _
    unfold mz
    rcases ak i m.tasks.length with hlt | hge
    ·rw [if_pos (ag (show (i : Int) < (m.tasks.length : Int) by omega)), if_pos (dc hlt)]
     have hm := hD _ (EN hlt)
     by_cases c : (dw m (i : Int)).2.2.1 > 20000
     ·rw [if_pos (ag c), if_pos (dc hlt), if_neg (fun e => hm ⟨c, aD e⟩), di (by omega)]
      exact hF _ _ ⟨i + 1, rfl, by omega, by omega, rfl⟩
     ·rw [if_neg (fun e => c (aD e)), di (by omega)]
      exact hF _ _ ⟨i + 1, rfl, by omega, by omega, rfl⟩
    ·have : i = m.tasks.length := by omega
     subst this
     rw [if_neg (by simp)]
  ·left
   have hex : ∃ t ∈ m.tasks, t.2.2.1 > 20000 ∧ t.2.2.1 ≤ 1048576 := by
    refine cG fun hn => hD fun t ht c => hn ⟨t, ht, c⟩
   obtain ⟨t, ht, hc⟩ := hex
   obtain ⟨k, hk, rfl⟩ := bZ ht
   have hg : dw m (k : Int) = m.tasks[k] := by
    show m.tasks.getD (k : Int).toNat _ = _
    rw [ai, ar, av hk]
    rfl
   rw [← hg] at hc
   have := d7 (S := fun F => (dM (dk q_)) (mz n F)) (fun f x r => ∃ i : Nat, x = ((i : Int), m.1, m.2.1, m.2.2.1, m.2.2.2.1, m.2.2.2.2.1, m.2.2.2.2.2.1, m.2.2.2.2.2.2) ∧ i ≤ k ∧ m.tasks.length < f + i ∧ r = .inl ((0, ()), ((m.1, m.2.1, m.2.2.1, m.2.2.2.1, m.2.2.2.2.1, m.2.2.2.2.2.1, m.2.2.2.2.2.2, ()), ()))) (fun x r ⟨i, _, h1, h2, _⟩ => by omega) (fun f x F hF r => ?_) n (0, m.1, m.2.1, m.2.2.1, m.2.2.2.1, m.2.2.2.2.1, m.2.2.2.2.2.1, m.2.2.2.2.2.2) _ ⟨0, rfl, ao _, by omega, rfl⟩
   ·rw [this]; rfl
   ·rintro ⟨i, rfl, h1, h2, rfl⟩
    show mz n F (i : Int) m.1 m.2.1 m.2.2.1 m.2.2.2.1 m.2.2.2.2.1 m.2.2.2.2.2.1 m.2.2.2.2.2.2 = _
    unfold mz
    have hlt : i < m.tasks.length := by omega
    rw [if_pos (ag (show (i : Int) < (m.tasks.length : Int) by omega)), if_pos (dc hlt)]
    by_cases c : (dw m (i : Int)).2.2.1 > 20000
    ·by_cases c2 : (dw m (i : Int)).2.2.1 ≤ 1048576
     ·rw [if_pos (ag c), if_pos (dc hlt), if_pos (ag c2)]
     ·rw [if_pos (ag c), if_pos (dc hlt), if_neg (fun e => c2 (aD e)), di (by omega)]
      refine hF _ _ ⟨i + 1, rfl, ?_, by omega, rfl⟩
      have : i ≠ k := fun e => c2 (e ▸ hc.2)
      omega
    ·rw [if_neg (fun e => c (aD e)), di (by omega)]
     refine hF _ _ ⟨i + 1, rfl, ?_, by omega, rfl⟩
     have : i ≠ k := fun e => c (e ▸ hc.1)
     omega
theorem MA {l : List Row} (hl : RowsB l) {i : Nat} (hi : i < l.length) : ∀ (f : Nat) (w v e : Int), 0 ≤ w → w ≤ 1048576 → zv l i f w = some (v, e) → (e = 13 ∧ v = 0) ∨ (e = 0 ∧ ∃ u, 0 ≤ u ∧ eq l i u = u ∧ v = (l.getD i dz).2.2.2.2.1 + u ∧ v ≤ (l.getD i dz).2.2.2.1 ∧ ∀ z, w ≤ z → z ≤ 1048576 → eq l i z ≤ z → u ≤ z) := by
 have hd := (hl.get hi).d
 intro f
 induction f with
 | zero => intro w v e h0 h1 h; cases h
 | succ f ih =>
  intro w v e h0 h1 h
  have h' : gH l i (it (gH l i) f) w = some (v, e) := h
  unfold gH at h'
  split at h'
  ·simp only [ab, ah] at h'
   exact .inl ⟨h'.2.symm, h'.1.symm⟩
  ·split at h'
   ·simp only [ab, ah] at h'
    exact .inl ⟨h'.2.symm, h'.1.symm⟩
   ·split at h'
    ·rename_i c1 c2 c3
     simp only [ab, ah] at h'
     refine .inr ⟨h'.2.symm, w, h0, c3, h'.1.symm, by omega, fun z hz _ _ => hz⟩
    ·rename_i c1 c2 c3
     have hg := (oC hl hi (w := w) (by omega)).2
     rcases ih _ v e hg (by omega) h' with h2 | ⟨h2, u, u0, u1, u2, u3, u4⟩
     ·exact .inl h2
     ·refine .inr ⟨h2, u, u0, u1, u2, u3, fun z hz hz2 hn => u4 z ?_ hz2 hn⟩
      have := zu hl i h0 hz (by omega)
      omega
theorem zE {l : List Row} (hl : RowsB l) {i : Nat} (hi : i < l.length) (hd : (l.getD i dz).2.2.2.1 ≤ 20000) : ((eg l i).2 = 13 ∧ (eg l i).1 = 0) ∨ ((eg l i).2 = 0 ∧ ∃ u, 0 ≤ u ∧ eq l i u = u ∧ (eg l i).1 = (l.getD i dz).2.2.2.2.1 + u ∧ (eg l i).1 ≤ (l.getD i dz).2.2.2.1 ∧ ∀ z, 0 ≤ z → z ≤ 1048576 → eq l i z ≤ z → u ≤ z) :=
 MA hl hi 25000 0 _ _ (aZ _) (by omega) (zw hl hi hd (aq _))
theorem zF (R : Nat → Int × Int) : ∀ (k i : Nat) (o : List Int), (∃ j, i ≤ j ∧ j < i + k ∧ (R j).2 ≠ 0 ∧ uQ R k i o = ([], (j : Int), (R j).2)) ∨ ((∀ j, i ≤ j → j < i + k → (R j).2 = 0) ∧ uQ R k i o = (o ++ (List.range' i k).map (fun j => (R j).1), -1, 0))
 | 0, i, o => .inr ⟨fun j h1 h2 => by omega, by unfold uQ; simp⟩
 | k + 1, i, o => by
  unfold uQ
  by_cases h : (R i).2 ≠ 0
  ·rw [if_pos h]
   exact .inl ⟨i, aq _, by omega, h, rfl⟩
  ·rw [if_neg h]
   rcases zF R k (i + 1) (o ++ [(R i).1]) with ⟨j, h1, h2, h3, h4⟩ | ⟨h1, h2⟩
   ·exact .inl ⟨j, by omega, by omega, h3, h4⟩
   ·refine .inr ⟨fun j j1 j2 => ?_, ?_⟩
    ·rcases Nat.eq_or_lt_of_le j1 with rfl | j3
     ·exact Decidable.not_not.1 h
     ·exact h1 j (by omega) (by omega)
    ·rw [h2, List.range'_succ, List.map_cons, aM]
     rfl
theorem HP (l : List Row) : (∃ j, j < l.length ∧ (eg l j).2 ≠ 0 ∧ xN l = ([], (j : Int), (eg l j).2)) ∨ ((∀ j, j < l.length → (eg l j).2 = 0) ∧ xN l = ((List.range l.length).map (fun j => (eg l j).1), -1, 0)) := by
 unfold xN
 rcases zF (eg l) l.length 0 [] with ⟨j, h1, h2, h3, h4⟩ | ⟨h1, h2⟩
 ·exact .inl ⟨j, by omega, h3, h4⟩
 ·refine .inr ⟨fun j hj => h1 j (ao _) (by omega), ?_⟩
  rw [h2, List.range_eq_range']
  rfl
theorem HQ (l : List cY) : (dq l).2.2 ≤ 12 := by
 unfold dq
 split
 ·split
  ·split
   ·exact (by decide : (7 : Int) ≤ 12)
   ·exact (by decide : (0 : Int) ≤ 12)
  ·exact (by decide : (7 : Int) ≤ 12)
 ·exact (by decide : (1 : Int) ≤ 12)
theorem wr (l : List cY) : eK l ≤ 12 := by
 unfold eK
 split
 ·exact HQ l
 ·split
  ·split <;> decide
  ·decide
theorem Fo (l : List cY) : d6 l ≤ 12 := by
 unfold d6
 split
 ·exact wr l
 ·split <;> decide
theorem Fp (x : cY) (s : ByteArray) : (gz x s).2 ≤ 12 := by
 unfold gz
 split
 ·exact (by decide : (9 : Int) ≤ 12)
 ·split
  ·split
   ·exact (by decide : (9 : Int) ≤ 12)
   ·exact (by decide : (0 : Int) ≤ 12)
  ·exact (by decide : (10 : Int) ≤ 12)
theorem HS {l : List cY} {m : List Int} {i : Nat} {f : f5} {e : Int} (h : fw l m i f = .inl e) : e ≤ 12 := by
 unfold fw at h
 split at h
 ·cases h; decide
 ·split at h
  ·cases h; decide
  ·split at h
   ·cases h; decide
   ·split at h
    ·cases h; exact Fp _ _
    ·cases h
theorem sj {l : List cY} {m : List Int} : ∀ {r i : Nat} {f : f5} {e : Int}, gj l m r i f = .inl e → e ≤ 12
 | 0, _, _, _, h => by cases h
 | r + 1, i, f, e, h => by
  unfold gj at h
  split at h
  ·rename_i e' he
   cases h
   exact HS he
  ·exact sj h
theorem EQ (l : List cY) : fg l ≤ 12 := by
 unfold fg
 split
 ·exact wr l
 ·split
  ·rename_i e he
   exact sj he
  ·decide
theorem Kq (n : Nat) (l : List cY) : (ew bM n l).2 ≤ 12 := by
 unfold ew
 split
 ·exact Fo l
 ·split
  ·exact EQ l
  ·split
   ·exact (by decide : (4 : Int) ≤ 12)
   ·exact (by decide : (0 : Int) ≤ 12)
theorem HT (n : Nat) (m : Img) (i : Int) : fk n m i ≠ 13 := by
 unfold fk
 split
 ·split
  ·decide
  ·have := Kq n (m.tasks.getD i.toNat (0, 0, 0, 0, [], [], [])).code
   show (if (ew bM n (m.tasks.getD i.toNat (0, 0, 0, 0, [], [], [])).code).2 ≠ 0 then (ew bM n (m.tasks.getD i.toNat (0, 0, 0, 0, [], [], [])).code).2 else if fj (m.tasks.getD i.toNat (0, 0, 0, 0, [], [], [])).code = (m.tasks.getD i.toNat (0, 0, 0, 0, [], [], [])).blocks then (if (m.tasks.getD i.toNat (0, 0, 0, 0, [], [], [])).code.all (me m (m.tasks.getD i.toNat (0, 0, 0, 0, [], [], []))) = true then 0 else 12) else 11) ≠ 13
   split
   ·omega
   ·split
    ·split <;> decide
    ·decide
 ·decide
theorem zG {e : Nat → Int} (h : ∀ i, e i ≠ 13) : ∀ {r i : Nat} {p : Int × Int}, iM e r i = some p → p.2 ≠ 13
 | 0, i, p, hp => by cases hp
 | r + 1, i, p, hp => by
  unfold iM at hp
  split at hp
  ·cases hp; exact h i
  ·exact zG h hp
theorem Fq (n : Nat) (m : Img) : (eh n m).2 ≠ 13 := by
 unfold eh
 split
 ·cases hf : iM (fun i => fk n m (i : Int)) m.tasks.length 0 with
  | none => exact (by decide : (0 : Int) ≠ 13)
  | some p => exact zG (fun i => HT n m i) hf
 ·exact (by decide : (12 : Int) ≠ 13)
theorem Fr (m : Img) (hd : rS m) : ((eh 30000 m).2 ≠ 0 ∧ qI m = ((eh 30000 m).2, (eh 30000 m).1, [], [], [])) ∨
  ((eh 30000 m).2 = 0 ∧ ∃ j, j < m.tasks.length ∧ (eg (d5 m) j).2 = 13 ∧ qI m = (13, (j : Int), d5 m, [], dX (m.blocks.length : Int) (eA m))) ∨
  ((eh 30000 m).2 = 0 ∧ (∀ j, j < m.tasks.length → (eg (d5 m) j).2 = 0) ∧ qI m = (0, -1, d5 m, (List.range m.tasks.length).map (fun j => (eg (d5 m) j).1), dX (m.blocks.length : Int) (eA m))) := by
 unfold qI
 by_cases h : (eh 30000 m).2 ≠ 0
 ·rw [if_pos h]; exact .inl ⟨h, rfl⟩
 ·rw [if_neg h]
  have hz := Decidable.not_not.1 h
  right
  have hL := jg m
  rcases HP (d5 m) with ⟨j, h1, h2, h3⟩ | ⟨h1, h2⟩
  ·left
   rw [hL] at h1
   have hd' : ((d5 m).getD j dz).2.2.2.1 ≤ 20000 := pt hz hd _ (by rw [ar, av (by omega)]; exact aQ _)
   rcases zE (qJ hz) (by omega) hd' with ⟨h4, _⟩ | ⟨h4, _⟩
   ·exact ⟨hz, j, h1, h4, by rw [h3, h4]⟩
   ·exact absurd h4 h2
  ·right
   rw [hL] at h1
   exact ⟨hz, h1, by rw [h2, hL]⟩
theorem HU {α : Type} (f : Nat → α) {k i : Nat} (d : α) (h : i < k) : ((List.range k).map f).getD i d = f i := by
 rw [ar, bz, cc h]
 rfl
theorem Ft {m : Img} (hz : (eh 30000 m).2 = 0) (hd : rS m) (hr : ∀ j, j < m.tasks.length → (eg (d5 m) j).2 = 0) {i : Nat} (hi : i < m.tasks.length) : (fP 30000 m (i : Int)).2 = 0 ∧ (eg (d5 m) i).1 ≤ (dw m (i : Int)).2.2.1 ∧ (fP 30000 m (i : Int)).1 + (dw m (i : Int)).2.2.2.1 ≤ (eg (d5 m) i).1 ∧ 0 ≤ (fP 30000 m (i : Int)).1 + (dw m (i : Int)).2.2.2.1 ∧ (eg (d5 m) i).1 ≤ 1048576 := by
 have hR := qJ hz
 have hL := jg m
 have hi' : i < (d5 m).length := by omega
 have hd' : ((d5 m).getD i dz).2.2.2.1 ≤ 20000 := pt hz hd _ (by rw [ar, av hi']; exact aQ _)
 have hB := hR.get hi'
 obtain ⟨s1, s2, s3, s4⟩ := zB ((jq hz).2.2 i hi)
 rcases zE hR hi' hd' with ⟨h1, _⟩ | ⟨_, u, u0, u1, u2, u3, u4⟩
 ·rw [hr i hi] at h1; exact absurd h1 (by decide)
 ·have hg := (oC hR hi' (w := u) (by have := hB.d; have := hB.j; omega)).1
  have hc := hB.c
  have hj := hB.j
  have hD := hB.d
  rw [Ko m hi] at hg u2 u3 hc hj hD hd'
  have e1 : (rR m i).1 = (fP 30000 m (i : Int)).1 := rfl
  have e2 : (rR m i).2.2.2.2.1 = (dw m (i : Int)).2.2.2.1 := rfl
  have e3 : (rR m i).2.2.2.1 = (dw m (i : Int)).2.2.1 := rfl
  rw [e1] at hg hc
  rw [e2] at u2 hj
  rw [e3] at u3 hD hd'
  exact ⟨s1, u3, by omega, by omega, by omega⟩
theorem HV (n : Nat) (hn : n = 30000) {m : Img} (hz : (eh 30000 m).2 = 0) (hd : rS m) (hr : ∀ j, j < m.tasks.length → (eg (d5 m) j).2 = 0) (h8 : m.tasks.length ≤ 80) (e a : Int) (l : List Row) (c : List Int) :
  oz n (0, m.1, m.2.1, m.2.2.1, m.2.2.2.1, m.2.2.2.2.1, m.2.2.2.2.2.1, m.2.2.2.2.2.2, e, a, l, (List.range m.tasks.length).map (fun j => (eg (d5 m) j).1), c) = some (.inr ((), ((m.1, m.2.1, m.2.2.1, m.2.2.2.1, m.2.2.2.2.1, m.2.2.2.2.2.1, m.2.2.2.2.2.2, ()), (e, a, l, (List.range m.tasks.length).map (fun j => (eg (d5 m) j).1), c, ()), ()))) := by
 unfold oz
 refine d7 (S := fun F => (eX (dk (C_ q_))) (uD n F)) (fun f x r => ∃ i : Nat, x = ((i : Int), m.1, m.2.1, m.2.2.1, m.2.2.2.1, m.2.2.2.2.1, m.2.2.2.2.2.1, m.2.2.2.2.2.2, e, a, l, (List.range m.tasks.length).map (fun j => (eg (d5 m) j).1), c) ∧ i ≤ m.tasks.length ∧ m.tasks.length < f + i ∧ r = .inr ((), ((m.1, m.2.1, m.2.2.1, m.2.2.2.1, m.2.2.2.2.1, m.2.2.2.2.2.1, m.2.2.2.2.2.2, ()), (e, a, l, (List.range m.tasks.length).map (fun j => (eg (d5 m) j).1), c, ()), ()))) (fun x r ⟨i, _, h1, h2, _⟩ => by omega) (fun f x F hF r => ?_) n _ _ ⟨0, rfl, ao _, by omega, rfl⟩
 rintro ⟨i, rfl, h1, h2, rfl⟩
 show uD n F (i : Int) m.1 m.2.1 m.2.2.1 m.2.2.2.1 m.2.2.2.2.1 m.2.2.2.2.2.1 m.2.2.2.2.2.2 e a l ((List.range m.tasks.length).map (fun j => (eg (d5 m) j).1)) c = _
 unfold uD
 rcases ak i m.tasks.length with hlt | hge
 ·obtain ⟨t1, t2, t3, t4, t5⟩ := Ft hz hd hr hlt
  have hq : (decide (0 ≤ (i : Int)) && decide ((i : Int) < ((((List.range m.tasks.length).map (fun j => (eg (d5 m) j).1)).length : Nat) : Int))) = true := dc (by rw [bb, bO]; exact hlt)
  rw [if_pos (ag (show (i : Int) < (m.tasks.length : Int) by omega)), show fK n (m.1, m.2.1, m.2.2.1, m.2.2.2.1, m.2.2.2.2.1, m.2.2.2.2.2.1, m.2.2.2.2.2.2) (i : Int) = some (fP 30000 m (i : Int)) from by rw [← hn]; exact ED n (by omega) (by omega) m i, ae, if_neg (fun k => aj.1 k t1), if_pos hq, if_pos (dc hlt), ai, HU _ _ hlt, if_neg (fun k => by have := aD k; exact absurd t2 (Int.not_le.2 this)), if_pos hq, if_pos (dc hlt), if_neg (fun k => by
    have := aD k
    rw [dA (by show -9223372036854775808 ≤ (fP 30000 m (i : Int)).1 + (dw m (i : Int)).2.2.2.1; omega) (by show (fP 30000 m (i : Int)).1 + (dw m (i : Int)).2.2.2.1 ≤ 9223372036854775807; omega)] at this
    exact absurd t3 (Int.not_le.2 this)), di (by omega)]
  exact hF _ _ ⟨i + 1, rfl, by omega, by omega, rfl⟩
 ·have : i = m.tasks.length := by omega
  subst this
  rw [if_neg (by simp)]
theorem lz (a0 : (Int × (Int × (Int × (Int × ((List Int) × ((List (List Int)) × (List (Int × (Int × (Int × (Int × ((List Int) × ((List Int) × (List (Int × (Int × Int))))))))))))))))) (ok0 : Sh.Ok (.pair (.int .i64) (.pair (.int .i64) (.pair (.int .i64) (.pair (.int .i64) (.pair (.sl (.int .i64)) (.pair (.sl (.sl (.int .i64))) (.sl (.pair (.int .i64) (.pair (.int .i64) (.pair (.int .i64) (.pair (.int .i64) (.pair (.sl (.int .i64)) (.pair (.sl (.int .i64)) (.sl (.pair (.int .i64) (.pair (.int .i64) (.int .i64))))))))))))))))) a0) (sm0 : Sh.Sm (.pair (.int .i64) (.pair (.int .i64) (.pair (.int .i64) (.pair (.int .i64) (.pair (.sl (.int .i64)) (.pair (.sl (.sl (.int .i64))) (.sl (.pair (.int .i64) (.pair (.int .i64) (.pair (.int .i64) (.pair (.int .i64) (.pair (.sl (.int .i64)) (.pair (.sl (.int .i64)) (.sl (.pair (.int .i64) (.pair (.int .i64) (.int .i64))))))))))))))))) a0) : ∃ n, Hv n a0 = some true := by
 refine ⟨30000, ?_⟩
 unfold Hv
 rcases HO 30000 (by decide) (by decide) sm0 with h | ⟨h, hL, hD⟩
 ·rw [show rz 30000 (a0.1, a0.2.1, a0.2.2.1, a0.2.2.2.1, a0.2.2.2.2.1, a0.2.2.2.2.2.1, a0.2.2.2.2.2.2) = some 0 from h, ae, if_pos (by decide), qK]
  rfl
 ·rw [show rz 30000 (a0.1, a0.2.1, a0.2.2.1, a0.2.2.2.1, a0.2.2.2.2.1, a0.2.2.2.2.2.1, a0.2.2.2.2.2.2) = some 1 from h, ae, if_neg (by decide)]
  rw [show qu 30000 (a0.1, a0.2.1, a0.2.2.1, a0.2.2.2.1, a0.2.2.2.2.1, a0.2.2.2.2.2.1, a0.2.2.2.2.2.2) = _ from Mz 30000 rfl a0 hD, ae]
  unfold D8
  rcases Fr a0 hD with ⟨h1, h2⟩ | ⟨h1, j, hj, h2, h3⟩ | ⟨h1, h2, h3⟩
  ·rw [h2]
   rw [if_neg (fun k => Fq 30000 a0 (af.1 k))]
   by_cases h4 : (eh 30000 a0).2 = 4
   ·rw [if_pos (af.2 h4), if_neg (by simp), ae]
    show (if ((eh 30000 a0).2 != 0) = true then _ else _) = _
    rw [if_pos (aj.2 h1)]
    show (if ((([] : List Row).length : Int) == 0) = true then (if ((([] : List Int).length : Int) == 0) = true then (if ((([] : List Int).length : Int) == 0) = true then _ else _) else _) else _) = _
    rw [if_pos (by decide), if_pos (by decide), if_pos (by decide), qK]
    rfl
   ·rw [if_neg (fun k => h4 (af.1 k)), ae]
    show (if ((eh 30000 a0).2 != 0) = true then _ else _) = _
    rw [if_pos (aj.2 h1)]
    show (if ((([] : List Row).length : Int) == 0) = true then (if ((([] : List Int).length : Int) == 0) = true then (if ((([] : List Int).length : Int) == 0) = true then _ else _) else _) else _) = _
    rw [if_pos (by decide), if_pos (by decide), if_pos (by decide), qK]
    rfl
  ·rw [h3]
   dsimp only
   have hd' : ((d5 a0).getD j dz).2.2.2.1 ≤ 20000 := pt h1 hD _ (by rw [ar, av (by rw [jg]; exact hj)]; exact aQ _)
   rw [if_pos (by decide), show fu 30000 (d5 a0) (j : Int) = _ from Gp 30000 (by decide) (by decide) (qJ h1) (by rw [jg]; exact hj) hd', ae, h2, if_pos (by decide), if_pos (by decide), if_pos (by rw [jg]; exact ba _), qK]
   rfl
  ·rw [h3]
   dsimp only
   rw [if_neg (by decide), if_neg (by decide), ae]
   rw [cd]
   dsimp only
   rw [if_neg (by decide)]
   show (if ((((List.range a0.2.2.2.2.2.2.length).map (fun j => (eg (d5 a0) j).1)).length : Int) != (a0.2.2.2.2.2.2.length : Int)) = true then _ else _) = _
   rw [if_neg (by rw [bb, bO]; simp)]
   rw [if_neg (by decide)]
   show ((oz 30000 (0, a0.1, a0.2.1, a0.2.2.1, a0.2.2.2.1, a0.2.2.2.2.1, a0.2.2.2.2.2.1, a0.2.2.2.2.2.2, 0, -1, d5 a0, (List.range a0.2.2.2.2.2.2.length).map (fun j => (eg (d5 a0) j).1), dX (a0.2.2.2.2.2.1.length : Int) (eA a0))).bind _) = _
   rw [HV 30000 rfl h1 hD h2 (by have := hL.1; omega), ae]
   show ((ea 30000).bind _) = _
   rw [qK]
   rfl
end Go.Proofs.Dk
