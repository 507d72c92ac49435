/- A part of the proofs: Plain: an image's uses, rows, verdict. -/
import Derived.Test.YtofeifhecboinaaGreatMB5
import Derived.Test.YtofeifhecboinaaGreatMB4
set_option linter.unusedVariables false
set_option linter.unusedSimpArgs false
noncomputable section
namespace Go.Proofs.Dk
open Go Go.IntKind
set_option maxRecDepth 100000
theorem EW {l : List cY} (hl : l.length < 30000) (h : (eG bM 30000 l).2 = 0) : (j9 30000 l).1.length = (fk l).length ∧ (∀ e ∈ (j9 30000 l).1, 1 ≤ e.2 ∧ e.2 + 2 ≤ (eG bM 30000 l).1) := by
 obtain ⟨h1, h2⟩ := rU h
 obtain ⟨b1, b2, b3, b4, b5⟩ := rW 30000 l h
 have hsI : j9 30000 l = (gx l (dt l).1 30000 l.length 0, 0) := by unfold j9; rw [if_neg (fun k => k h)]
 rw [hsI]
 obtain ⟨g1, g2⟩ := Kc (n := 30000) h1 (AV h2).2 hl (by omega) l.length 0 (by omega)
 refine ⟨?_, fun e he => ⟨(g2 e he).1, by have := (g2 e he).2; omega⟩⟩
 unfold fk
 rw [if_pos h1]
 exact Ch _ _
def HS (m : Img) (i : Nat) : fE := ((dk m i).1, (dk m i).2.2.2.2.1, (iL 30000 m i).1)
def el (m : Img) : List fE := (List.range m.tasks.length).map (fun (k : Nat) => HS m k)
def xZ (m : Img) (i : Nat) : Row := ((gy 30000 m i).1, (fh (el m)).getD i 0, (dk m i).2.1, (dk m i).2.2.1, (dk m i).2.2.2.1, (dk m i).1)
def et (m : Img) : List Row := (List.range m.tasks.length).map (fun (k : Nat) => xZ m k)
abbrev Vd := Int × Int × List Row × List Int × List Int
def fF (m : Img) : Vd := if (ei 30000 m).2 ≠ 0 then ((ei 30000 m).2, (ei 30000 m).1, [], [], []) else ((xX (et m)).2.2, (xX (et m)).2.1, et m, (xX (et m)).1, dY (m.blocks.length : Int) (el m))
theorem zH {e : Nat → Int} : ∀ {r i : Nat}, ju e r i = none → ∀ j, i ≤ j → j < i + r → e j = 0
 | 0, i, _, j, h1, h2 => by omega
 | r + 1, i, h, j, h1, h2 => by
  unfold ju at h
  split at h
  ·cases h
  ·rename_i hz
   rcases am i j with h3 | h3
   ·exact zH h j (by omega) (by omega)
   ·have : j = i := by omega
    rw [this]
    exact Decidable.not_not.1 hz
theorem zI {e : Nat → Int} {p : Int × Int} : ∀ {r i : Nat}, ju e r i = some p → p.2 ≠ 0
 | 0, i, h => by cases h
 | r + 1, i, h => by
  unfold ju at h
  split at h
  ·rename_i hz
   simp only [ab] at h
   rw [← h]
   exact hz
  ·exact zI h
theorem gz {n : Nat} {m : Img} (h : (ei n m).2 = 0) : RightP m ∧ (ei n m).1 = -1 ∧ ∀ i, i < m.tasks.length → fg n m (i : Int) = 0 := by
 unfold ei at h ⊢
 split at h
 ·rename_i hR
  rw [if_pos hR]
  refine ⟨hR, ?_⟩
  cases hf : ju (fun i => fg n m (i : Int)) m.tasks.length 0 with
  | none => exact ⟨rfl, fun i hi => zH hf i (ao _) (by omega)⟩
  | some p =>
   rw [hf] at h
   exact absurd h (zI hf)
 ·exact absurd h (by decide)
def nL (m : Img) : Prop := ∀ t ∈ m.tasks, ¬ (t.2.2.1 > 20000 ∧ t.2.2.1 ≤ 1048576)
theorem r4 {m : Img} {i : Nat} (hi : i < m.tasks.length) : dk m (i : Int) ∈ m.tasks := by
 unfold dk
 rw [ai, ar, av hi]
 exact aT hi
theorem u5 {m : Img} (h : RightP m) {i : Nat} (hi : i < m.tasks.length) : lC m (dk m (i : Int)) := (h.task (i := (i : Int)) (by omega) (by omega)).1
theorem wD {m : Img} {i : Nat} (hz : fg 30000 m (i : Int) = 0) : (iL 30000 m (i : Int)).1.length = (dk m (i : Int)).2.2.2.2.1.length ∧ ∀ a ∈ (iL 30000 m (i : Int)).1, 1 ≤ a ∧ a ≤ 1048576 := by
 obtain ⟨hR, ⟨h0, h1⟩, h2, h3, h4⟩ := nI hz
 have hc : (dk m i).code.length ≤ 200 := (hR.task h0 h1).1.2.2.2.2.1
 obtain ⟨k1, k2⟩ := EW (l := (dk m i).code) (by omega) h2
 obtain ⟨b1, b2, b3, b4, b5⟩ := rW 30000 _ h2
 unfold iL
 rw [if_neg (fun k => k hz)]
 refine ⟨?_, fun a ha => ?_⟩
 ·show ((j9 30000 (dk m i).code).1.map Prod.snd).length = _
  rw [bj, k1, h3]
 ·obtain ⟨e, he, rfl⟩ := List.mem_map.1 ha
  have := k2 e he
  omega
theorem HT {m : Img} {i : Nat} (hz : fg 30000 m (i : Int) = 0) : (gy 30000 m (i : Int)).2 = 0 ∧ (gy 30000 m (i : Int)).1 = (eG bM 30000 (dk m (i : Int)).code).1 + 2 * m.1 + m.2.1 + m.2.2.1 ∧ 1 ≤ (eG bM 30000 (dk m (i : Int)).code).1 ∧ (eG bM 30000 (dk m (i : Int)).code).1 ≤ 1048576 := by
 obtain ⟨hR, ⟨h0, h1⟩, h2, h3, h4⟩ := nI hz
 obtain ⟨b1, b2, b3, b4, b5⟩ := rW 30000 _ h2
 unfold gy
 rw [if_neg (fun k => k hz)]
 exact ⟨rfl, rfl, by omega, b5⟩
theorem kH (m : Img) : (el m).length = m.tasks.length := by unfold el; rw [bj, ce]
theorem NE {m : Img} (h : (ei 30000 m).2 = 0) : UsesOk (m.blocks.length : Int) (el m) := by
 obtain ⟨hR, _, hz⟩ := gz h
 have hN := hR.1
 refine ⟨by have := hN.2.2.2.2.2.1; omega, by rw [kH]; have := hN.2.2.2.2.2.2; omega, fun u hu => ?_⟩
 unfold el at hu
 obtain ⟨i, hi, rfl⟩ := List.mem_map.1 hu
 have hi' : i < m.tasks.length := by simpa using hi
 have hT := u5 hR hi'
 obtain ⟨k1, k2⟩ := wD (hz i hi')
 exact ⟨hT.1.1, hT.2.1, k1.symm, fun a ha => by have := k2 a ha; omega⟩
theorem EX {c : Int → Int} {p q M : Int} : ∀ {s t : List Int} {m : Int}, (∀ a ∈ t, a ≤ M) → m ≤ M → m ≤ ip c p q s t m ∧ ip c p q s t m ≤ M
 | [], [], m, _, h => by unfold ip; omega
 | [], _ :: _, m, _, h => by unfold ip; omega
 | _ :: _, [], m, _, h => by unfold ip; omega
 | k :: s, a :: t, m, ht, h => by
  unfold ip
  have ha := ht a (aB ..)
  have : m ≤ (if q < p then if c k ≥ p then hi a m else m else m) ∧ (if q < p then if c k ≥ p then hi a m else m else m) ≤ M := by
   split
   ·split
    ·unfold hi; split <;> omega
    ·omega
   ·omega
  have := EX (c := c) (p := p) (q := q) (s := s) (t := t) (fun x hx => ht x (ax _ hx)) this.2
  omega
theorem EY {c : Int → Int} {p M : Int} : ∀ {l : List fE} {m : Int}, (∀ u ∈ l, ∀ a ∈ u.2.2, a ≤ M) → m ≤ M → m ≤ jw c p l m ∧ jw c p l m ≤ M
 | [], m, _, h => by unfold jw; omega
 | u :: t, m, ht, h => by
  unfold jw
  have h1 := EX (c := c) (p := p) (q := u.1) (s := u.2.1) (ht u (aB ..)) h
  have h2 := EY (c := c) (p := p) (l := t) (fun v hv => ht v (ax _ hv)) h1.2
  omega
theorem zJ (l : List fE) : (fh l).length = l.length := by unfold fh; rw [bj, ce]
theorem r5 {l : List fE} {i : Nat} (hi : i < l.length) : (fh l).getD i 0 = pC l i := by
 unfold fh
 rw [ar, bC, cb hi]
 rfl
theorem HU {m : Img} (h : (ei 30000 m).2 = 0) {i : Nat} (hi : i < m.tasks.length) : 0 ≤ (fh (el m)).getD i 0 ∧ (fh (el m)).getD i 0 ≤ 1048576 := by
 obtain ⟨hR, _, hz⟩ := gz h
 rw [r5 (by rw [kH]; exact hi)]
 unfold pC
 refine EY (fun u hu a ha => ?_) (by omega)
 unfold el at hu
 obtain ⟨j, hj, rfl⟩ := List.mem_map.1 hu
 have hj' : j < m.tasks.length := by simpa using hj
 exact ((wD (hz j hj')).2 a ha).2
theorem hM (m : Img) : (et m).length = m.tasks.length := by unfold et; rw [bj, ce]
theorem Cl (m : Img) {i : Nat} (hi : i < m.tasks.length) : (et m).getD i du = xZ m i := by
 unfold et
 rw [ar, bC, cb hi]
 rfl
theorem Ku {m : Img} (h : (ei 30000 m).2 = 0) {i : Nat} (hi : i < m.tasks.length) : RowB (xZ m i) := by
 obtain ⟨hR, _, hz⟩ := gz h
 have hN := hR.1
 have hT := u5 hR hi
 obtain ⟨n1, n2, n3, n4⟩ := hT.1
 obtain ⟨s1, s2, s3, s4⟩ := HT (hz i hi)
 have hw := HU h hi
 have hn1 := hN.1
 have hn2 := hN.2.1
 have hn3 := hN.2.2.1
 refine ⟨?_, ?_, n2, ?_, n4, n1⟩
 ·show 1 ≤ (gy 30000 m (i : Int)).1 ∧ (gy 30000 m (i : Int)).1 ≤ 2000000
  omega
 ·show 0 ≤ (fh (el m)).getD i 0 ∧ (fh (el m)).getD i 0 ≤ 2000000
  omega
 ·show 1 ≤ (dk m (i : Int)).2.2.1 ∧ (dk m (i : Int)).2.2.1 ≤ 1048576
  omega
theorem l8 {m : Img} (h : (ei 30000 m).2 = 0) : RowsB (et m) := by
 obtain ⟨hR, _, hz⟩ := gz h
 refine ⟨by rw [hM]; have := hR.1.2.2.2.2.2.2; omega, fun r hr => ?_⟩
 unfold et at hr
 obtain ⟨i, hi, rfl⟩ := List.mem_map.1 hr
 exact Ku h (by simpa using hi)
theorem u6 {m : Img} (h : (ei 30000 m).2 = 0) (hd : nL m) : ∀ r ∈ et m, r.2.2.2.1 ≤ 20000 := by
 obtain ⟨hR, _, hz⟩ := gz h
 intro r hr
 unfold et at hr
 obtain ⟨i, hi, rfl⟩ := List.mem_map.1 hr
 have hi' : i < m.tasks.length := by simpa using hi
 have h1 := hd _ (r4 hi')
 have h2 := Ku h hi'
 have : (xZ m i).2.2.2.1 = (dk m (i : Int)).2.2.1 := rfl
 have := h2.d
 omega
theorem vz : ey 30000 = some true := rfl
theorem Fx (n : Nat) (hn1 : 200 < n) (hn2 : n < 1000000) (m : Img) (i : Nat) (hi : i < m.tasks.length) : gH n (i : Int) m.1 m.2.1 m.2.2.1 m.2.2.2.1 m.2.2.2.2.1 m.2.2.2.2.2.1 m.2.2.2.2.2.2 = some (((dk m (i : Int)).1, (dk m (i : Int)).2.2.2.2.1, (iL n m (i : Int)).1), m.1, m.2.1, m.2.2.1, m.2.2.2.1, m.2.2.2.2.1, m.2.2.2.2.2.1, m.2.2.2.2.2.2) := by
 unfold gH
 rw [show gT n (m.1, m.2.1, m.2.2.1, m.2.2.2.1, m.2.2.2.2.1, m.2.2.2.2.2.1, m.2.2.2.2.2.2) (i : Int) = _ from Km n hn1 hn2 m i, ae, if_pos (dc hi), if_pos (dc hi)]
theorem Fy (n : Nat) (hn1 : 200 < n) (hn2 : n < 1000000) (m : Img) (i : Nat) (hi : i < m.tasks.length) (w : Int) : gJ n (i : Int) w m.1 m.2.1 m.2.2.1 m.2.2.2.1 m.2.2.2.2.1 m.2.2.2.2.2.1 m.2.2.2.2.2.2 = some (((gy n m (i : Int)).1, w, (dk m (i : Int)).2.1, (dk m (i : Int)).2.2.1, (dk m (i : Int)).2.2.2.1, (dk m (i : Int)).1), m.1, m.2.1, m.2.2.1, m.2.2.2.1, m.2.2.2.2.1, m.2.2.2.2.2.1, m.2.2.2.2.2.2) := by
 unfold gJ
 rw [if_pos (dc hi), show iC n (m.1, m.2.1, m.2.2.1, m.2.2.2.1, m.2.2.2.2.1, m.2.2.2.2.2.1, m.2.2.2.2.2.2) (i : Int) = _ from Mu n hn1 hn2 m i, ae]
theorem zK {α : Type} (f : Nat → α) (i : Nat) : (List.range i).map f ++ [f i] = (List.range (i + 1)).map f := by
 rw [List.range_succ, ct]
 rfl
theorem Cm {α : Type} {l : List α} {i k : Nat} (h : l.length ≤ i) (hi : i ≤ 1000000) (hk : 1 ≤ k ∧ k ≤ 1000) : (decide ((l.length + 1) * k ≤ 140737488355328) && decide (1 ≤ k)) = true := by
 rw [af (show (l.length + 1) * k ≤ 140737488355328 by
  have : (l.length + 1) * k ≤ 1000001 * 1000 := Nat.mul_le_mul (by omega) hk.2
  omega), af hk.1]
 rfl
theorem EZ (n : Nat) (hn : n = 30000) (m : Img) (hd : nL m) : oF n m = some (fF m) := by
 unfold oF fF
 rw [show jL n (m.1, m.2.1, m.2.2.1, m.2.2.2.1, m.2.2.2.2.1, m.2.2.2.2.2.1, m.2.2.2.2.2.2) = some (ei 30000 m) from by rw [← hn]; exact Mx n (by omega) (by omega) m, ae]
 by_cases h : (ei 30000 m).2 ≠ 0
 ·rw [if_pos (ak.2 h), if_pos h]
 ·rw [if_neg (fun e => h (ak.1 e)), if_neg h]
  have hz := Decidable.not_not.1 h
  have hU := NE hz
  have h8 : m.tasks.length ≤ 8 := by rw [← hM]; exact (l8 hz).len
  have e0 := d6 (S := fun F => (kY (dM q_)) (qC n F)) (fun f x r => ∃ i : Nat, x = ((List.range i).map (fun (k : Nat) => HS m k), (m.tasks.length : Int), (i : Int), m.1, m.2.1, m.2.2.1, m.2.2.2.1, m.2.2.2.2.1, m.2.2.2.2.2.1, m.2.2.2.2.2.2, 0, 0, [], [], [], m.1, m.2.1, m.2.2.1, m.2.2.2.1, m.2.2.2.2.1, m.2.2.2.2.2.1, m.2.2.2.2.2.2) ∧ i ≤ m.tasks.length ∧ m.tasks.length < f + i ∧ r = (el m, m.1, m.2.1, m.2.2.1, m.2.2.2.1, m.2.2.2.2.1, m.2.2.2.2.2.1, m.2.2.2.2.2.2, 0, 0, [], [], [], m.1, m.2.1, m.2.2.1, m.2.2.2.1, m.2.2.2.2.1, m.2.2.2.2.2.1, m.2.2.2.2.2.2)) (fun x r ⟨i, _, h1, h2, _⟩ => by omega) (fun f x F hF r => ?_) n ([], (m.tasks.length : Int), 0, m.1, m.2.1, m.2.2.1, m.2.2.2.1, m.2.2.2.2.1, m.2.2.2.2.2.1, m.2.2.2.2.2.2, 0, 0, [], [], [], m.1, m.2.1, m.2.2.1, m.2.2.2.1, m.2.2.2.2.1, m.2.2.2.2.2.1, m.2.2.2.2.2.2) _ ⟨0, rfl, ao _, by omega, rfl⟩
  ·unfold uk
   rw [e0, ae]
   show (fI n (m.blocks.length : Int) (el m)).bind _ = _
   rw [wC n (by omega) (by omega) hU, ae]
   show (ja n (m.blocks.length : Int) (el m)).bind _ = _
   rw [MD n (by omega) (by omega) hU, ae]
   have e1 := d6 (S := fun F => (kY (dm q_)) (qD n F)) (fun f x r => ∃ i : Nat, x = (fh (el m), (m.tasks.length : Int), (i : Int), 0, 0, [], [], [], 0, 0, (List.range i).map (fun (k : Nat) => xZ m k), [], dY (m.blocks.length : Int) (el m), m.1, m.2.1, m.2.2.1, m.2.2.2.1, m.2.2.2.2.1, m.2.2.2.2.2.1, m.2.2.2.2.2.2) ∧ i ≤ m.tasks.length ∧ m.tasks.length < f + i ∧ r = (0, 0, [], [], [], 0, 0, et m, [], dY (m.blocks.length : Int) (el m), m.1, m.2.1, m.2.2.1, m.2.2.2.1, m.2.2.2.2.1, m.2.2.2.2.2.1, m.2.2.2.2.2.2)) (fun x r ⟨i, _, h1, h2, _⟩ => by omega) (fun f x F hF r => ?_) n (fh (el m), (m.tasks.length : Int), 0, 0, 0, [], [], [], 0, 0, [], [], dY (m.blocks.length : Int) (el m), m.1, m.2.1, m.2.2.1, m.2.2.2.1, m.2.2.2.2.1, m.2.2.2.2.2.1, m.2.2.2.2.2.2) _ ⟨0, rfl, ao _, by omega, rfl⟩
   ·unfold ul
    show (it _ n (fh (el m), ((fh (el m)).length : Int), 0, 0, 0, [], [], [], 0, 0, [], [], dY (m.blocks.length : Int) (el m), m.1, m.2.1, m.2.2.1, m.2.2.2.1, m.2.2.2.2.1, m.2.2.2.2.2.1, m.2.2.2.2.2.2)).bind _ = _
    rw [show (fh (el m)).length = m.tasks.length by rw [zJ, kH], e1, ae]
    show (jf n (et m)).bind _ = _
    rw [Ks n (by omega) (by omega) (l8 hz) (u6 hz hd), ae]
   ·rintro ⟨i, rfl, h1, h2, rfl⟩
    show qD n F (fh (el m)) (m.tasks.length : Int) (i : Int) 0 0 [] [] [] 0 0 ((List.range i).map (fun (k : Nat) => xZ m k)) [] (dY (m.blocks.length : Int) (el m)) m.1 m.2.1 m.2.2.1 m.2.2.2.1 m.2.2.2.2.1 m.2.2.2.2.2.1 m.2.2.2.2.2.2 = _
    unfold qD
    rcases am i m.tasks.length with hlt | hge
    ·rw [if_pos (af (by omega)), if_pos (dc (by rw [zJ, kH]; exact hlt)), Fy n (by omega) (by omega) m i hlt, ae, if_pos (Cm (i := i) (by rw [bj, ce]; exact aq _) (by omega) (by decide)), di (by omega)]
     refine hF _ _ ⟨i + 1, ?_, by omega, by omega, rfl⟩
     rw [← zK, hn]
     rfl
    ·have : i = m.tasks.length := by omega
     subst this
     rw [if_neg (by simp)]
     rfl
  ·rintro ⟨i, rfl, h1, h2, rfl⟩
   show qC n F ((List.range i).map (fun (k : Nat) => HS m k)) (m.tasks.length : Int) (i : Int) m.1 m.2.1 m.2.2.1 m.2.2.2.1 m.2.2.2.2.1 m.2.2.2.2.2.1 m.2.2.2.2.2.2 0 0 [] [] [] m.1 m.2.1 m.2.2.1 m.2.2.2.1 m.2.2.2.2.1 m.2.2.2.2.2.1 m.2.2.2.2.2.2 = _
   unfold qC
   rcases am i m.tasks.length with hlt | hge
   ·rw [if_pos (af (by omega)), Fx n (by omega) (by omega) m i hlt, ae, if_pos (Cm (i := i) (by rw [bj, ce]; exact aq _) (by omega) (by decide)), di (by omega)]
    refine hF _ _ ⟨i + 1, ?_, by omega, by omega, rfl⟩
    rw [← zK, hn]
    rfl
   ·have : i = m.tasks.length := by omega
    subst this
    rw [if_neg (by simp)]
    rfl
theorem HV (n : Nat) (hn : 200 < n) (hn2 : n < 1000000) {m : Img} (h : Sh.Sm PS m) : rF n m = some 0 ∨ (rF n m = some 1 ∧ EO m ∧ nL m) := by
 unfold rF
 rcases Kn n hn hn2 h with e | ⟨e, hL⟩
 ·left
  rw [show nC n (m.1, m.2.1, m.2.2.1, m.2.2.2.1, m.2.2.2.2.1, m.2.2.2.2.2.1, m.2.2.2.2.2.2) = some 0 from e, ae]
  rfl
 ·rw [show nC n (m.1, m.2.1, m.2.2.1, m.2.2.2.1, m.2.2.2.2.1, m.2.2.2.2.2.1, m.2.2.2.2.2.2) = some 1 from e, ae, if_neg (by decide)]
  have h80 := hL.1
  unfold wW
  by_cases hD : nL m
  ·right
   refine ⟨?_, hL, hD⟩
   have := d6 (S := fun F => (dM (dm q_)) (mC n F)) (fun f x r => ∃ i : Nat, x = ((i : Int), m.1, m.2.1, m.2.2.1, m.2.2.2.1, m.2.2.2.2.1, m.2.2.2.2.2.1, m.2.2.2.2.2.2) ∧ i ≤ m.tasks.length ∧ m.tasks.length < f + i ∧ r = .inr ((), ((m.1, m.2.1, m.2.2.1, m.2.2.2.1, m.2.2.2.2.1, m.2.2.2.2.2.1, m.2.2.2.2.2.2, ()), ()))) (fun x r ⟨i, _, h1, h2, _⟩ => by omega) (fun f x F hF r => ?_) n (0, m.1, m.2.1, m.2.2.1, m.2.2.2.1, m.2.2.2.2.1, m.2.2.2.2.2.1, m.2.2.2.2.2.2) _ ⟨0, rfl, ao _, by omega, rfl⟩
   ·rw [this]; rfl
   ·rintro ⟨i, rfl, h1, h2, rfl⟩
    show mC n F (i : Int) m.1 m.2.1 m.2.2.1 m.2.2.2.1 m.2.2.2.2.1 m.2.2.2.2.2.1 m.2.2.2.2.2.2 = _
    unfold mC
    rcases am i m.tasks.length with hlt | hge
    ·rw [if_pos (af (show (i : Int) < (m.tasks.length : Int) by omega)), if_pos (dc hlt)]
     have hm := hD _ (r4 hlt)
     by_cases c : (dk m (i : Int)).2.2.1 > 20000
     ·rw [if_pos (af c), if_pos (dc hlt), if_neg (fun e => hm ⟨c, aC e⟩), di (by omega)]
      exact hF _ _ ⟨i + 1, rfl, by omega, by omega, rfl⟩
     ·rw [if_neg (fun e => c (aC e)), di (by omega)]
      exact hF _ _ ⟨i + 1, rfl, by omega, by omega, rfl⟩
    ·have : i = m.tasks.length := by omega
     subst this
     rw [if_neg (by simp)]
  ·left
   have hex : ∃ t ∈ m.tasks, t.2.2.1 > 20000 ∧ t.2.2.1 ≤ 1048576 := by
    refine cH fun hn => hD fun t ht c => hn ⟨t, ht, c⟩
   obtain ⟨t, ht, hc⟩ := hex
   obtain ⟨k, hk, rfl⟩ := bO ht
   have hg : dk m (k : Int) = m.tasks[k] := by
    show m.tasks.getD (k : Int).toNat _ = _
    rw [ai, ar, av hk]
    rfl
   rw [← hg] at hc
   have := d6 (S := fun F => (dM (dm q_)) (mC n F)) (fun f x r => ∃ i : Nat, x = ((i : Int), m.1, m.2.1, m.2.2.1, m.2.2.2.1, m.2.2.2.2.1, m.2.2.2.2.2.1, m.2.2.2.2.2.2) ∧ i ≤ k ∧ m.tasks.length < f + i ∧ r = .inl ((0, ()), ((m.1, m.2.1, m.2.2.1, m.2.2.2.1, m.2.2.2.2.1, m.2.2.2.2.2.1, m.2.2.2.2.2.2, ()), ()))) (fun x r ⟨i, _, h1, h2, _⟩ => by omega) (fun f x F hF r => ?_) n (0, m.1, m.2.1, m.2.2.1, m.2.2.2.1, m.2.2.2.2.1, m.2.2.2.2.2.1, m.2.2.2.2.2.2) _ ⟨0, rfl, ao _, by omega, rfl⟩
   ·rw [this]; rfl
   ·rintro ⟨i, rfl, h1, h2, rfl⟩
    show mC n F (i : Int) m.1 m.2.1 m.2.2.1 m.2.2.2.1 m.2.2.2.2.1 m.2.2.2.2.2.1 m.2.2.2.2.2.2 = _
    unfold mC
    have hlt : i < m.tasks.length := by omega
    rw [if_pos (af (show (i : Int) < (m.tasks.length : Int) by omega)), if_pos (dc hlt)]
    by_cases c : (dk m (i : Int)).2.2.1 > 20000
    ·by_cases c2 : (dk m (i : Int)).2.2.1 ≤ 1048576
     ·rw [if_pos (af c), if_pos (dc hlt), if_pos (af c2)]
     ·rw [if_pos (af c), if_pos (dc hlt), if_neg (fun e => c2 (aC e)), di (by omega)]
      refine hF _ _ ⟨i + 1, rfl, ?_, by omega, rfl⟩
      have : i ≠ k := fun e => c2 (e ▸ hc.2)
      omega
    ·rw [if_neg (fun e => c (aC e)), di (by omega)]
     refine hF _ _ ⟨i + 1, rfl, ?_, by omega, rfl⟩
     have : i ≠ k := fun e => c (e ▸ hc.1)
     omega
theorem ME {l : List Row} (hl : RowsB l) {i : Nat} (hi : i < l.length) : ∀ (f : Nat) (w v e : Int), 0 ≤ w → w ≤ 1048576 → wB l i f w = some (v, e) → (e = 13 ∧ v = 0) ∨ (e = 0 ∧ ∃ u, 0 ≤ u ∧ d5 l i u = u ∧ v = (l.getD i du).2.2.2.2.1 + u ∧ v ≤ (l.getD i du).2.2.2.1 ∧ ∀ z, w ≤ z → z ≤ 1048576 → d5 l i z ≤ z → u ≤ z) := by
 have hd := (hl.get hi).d
 intro f
 induction f with
 | zero => intro w v e h0 h1 h; cases h
 | succ f ih =>
  intro w v e h0 h1 h
  have h' : fP l i (it (fP l i) f) w = some (v, e) := h
  unfold fP at h'
  split at h'
  ·simp only [ab, ah] at h'
   exact .inl ⟨h'.2.symm, h'.1.symm⟩
  ·split at h'
   ·simp only [ab, ah] at h'
    exact .inl ⟨h'.2.symm, h'.1.symm⟩
   ·split at h'
    ·rename_i c1 c2 c3
     simp only [ab, ah] at h'
     refine .inr ⟨h'.2.symm, w, h0, c3, h'.1.symm, by omega, fun z hz _ _ => hz⟩
    ·rename_i c1 c2 c3
     have hg := (oN hl hi (w := w) (by omega)).2
     rcases ih _ v e hg (by omega) h' with h2 | ⟨h2, u, u0, u1, u2, u3, u4⟩
     ·exact .inl h2
     ·refine .inr ⟨h2, u, u0, u1, u2, u3, fun z hz hz2 hn => u4 z ?_ hz2 hn⟩
      have := rY hl i h0 hz (by omega)
      omega
theorem PU {l : List Row} (hl : RowsB l) {i : Nat} (hi : i < l.length) {z : Int} (hn : d5 l i z ≤ z) (hz : (l.getD i du).2.2.2.2.1 + z ≤ (l.getD i du).2.2.2.1) : ∀ (f : Nat) (w v e : Int), 0 ≤ w → w ≤ z → wB l i f w = some (v, e) → e = 0 := by
 have hd := (hl.get hi).d
 have hj := (hl.get hi).j
 intro f
 induction f with
 | zero => intro w v e h0 h1 h; cases h
 | succ f ih =>
  intro w v e h0 h1 h
  have h' : fP l i (it (fP l i) f) w = some (v, e) := h
  have hm := rY hl i h0 h1 (by omega)
  have hg := (oN hl hi (w := w) (by omega)).2
  unfold fP at h'
  rw [if_neg (by omega), if_neg (by omega)] at h'
  split at h'
  ·simp only [ab, ah] at h'
   exact h'.2.symm
  ·exact ih _ v e hg (by omega) h'
theorem r6 {l : List Row} (hl : RowsB l) {i : Nat} (hi : i < l.length) (hd : (l.getD i du).2.2.2.1 ≤ 20000) : ((ep l i).2 = 13 ∧ (ep l i).1 = 0) ∨ ((ep l i).2 = 0 ∧ ∃ u, 0 ≤ u ∧ d5 l i u = u ∧ (ep l i).1 = (l.getD i du).2.2.2.2.1 + u ∧ (ep l i).1 ≤ (l.getD i du).2.2.2.1 ∧ ∀ z, 0 ≤ z → z ≤ 1048576 → d5 l i z ≤ z → u ≤ z) :=
 ME hl hi 25000 0 _ _ (aE _) (by omega) (rZ hl hi hd (aq _))
theorem HX {l l' : List Row} (hl : RowsB l) (hl' : RowsB l') {i : Nat} (hi : i < l.length) (hi' : i < l'.length) (hd : (l.getD i du).2.2.2.1 ≤ 20000) (hD : (l'.getD i du).2.2.2.1 = (l.getD i du).2.2.2.1) (hJ : (l'.getD i du).2.2.2.2.1 = (l.getD i du).2.2.2.2.1) (hn : ∀ z, 0 ≤ z → z ≤ 1048576 → d5 l' i z ≤ d5 l i z) (h : (ep l i).2 = 0) : (ep l' i).2 = 0 ∧ (ep l' i).1 ≤ (ep l i).1 := by
 have hj := (hl.get hi).j
 rcases r6 hl hi hd with ⟨h1, _⟩ | ⟨_, u, u0, u1, u2, u3, u4⟩
 ·rw [h] at h1; exact absurd h1 (by decide)
 ·have hz : d5 l' i u ≤ u := by have := hn u u0 (by omega); omega
  have e0 : (ep l' i).2 = 0 := PU hl' hi' hz (by omega) 25000 0 _ _ (aE _) u0 (rZ hl' hi' (by omega) (aq _))
  refine ⟨e0, ?_⟩
  rcases r6 hl' hi' (by omega) with ⟨h1, _⟩ | ⟨_, v, v0, v1, v2, v3, v4⟩
  ·rw [e0] at h1; exact absurd h1 (by decide)
  ·have := v4 u u0 (by omega) hz
   omega
theorem zL (R : Nat → Int × Int) : ∀ (k i : Nat) (o : List Int), (∃ j, i ≤ j ∧ j < i + k ∧ (R j).2 ≠ 0 ∧ uY R k i o = ([], (j : Int), (R j).2)) ∨ ((∀ j, i ≤ j → j < i + k → (R j).2 = 0) ∧ uY R k i o = (o ++ (List.range' i k).map (fun j => (R j).1), -1, 0))
 | 0, i, o => .inr ⟨fun j h1 h2 => by omega, by unfold uY; simp⟩
 | k + 1, i, o => by
  unfold uY
  by_cases h : (R i).2 ≠ 0
  ·rw [if_pos h]
   exact .inl ⟨i, aq _, by omega, h, rfl⟩
  ·rw [if_neg h]
   rcases zL R k (i + 1) (o ++ [(R i).1]) with ⟨j, h1, h2, h3, h4⟩ | ⟨h1, h2⟩
   ·exact .inl ⟨j, by omega, by omega, h3, h4⟩
   ·refine .inr ⟨fun j j1 j2 => ?_, ?_⟩
    ·rcases Nat.eq_or_lt_of_le j1 with rfl | j3
     ·exact Decidable.not_not.1 h
     ·exact h1 j (by omega) (by omega)
    ·rw [h2, List.range'_succ, List.map_cons, aN]
     rfl
theorem HY (l : List Row) : (∃ j, j < l.length ∧ (ep l j).2 ≠ 0 ∧ xX l = ([], (j : Int), (ep l j).2)) ∨ ((∀ j, j < l.length → (ep l j).2 = 0) ∧ xX l = ((List.range l.length).map (fun j => (ep l j).1), -1, 0)) := by
 unfold xX
 rcases zL (ep l) l.length 0 [] with ⟨j, h1, h2, h3, h4⟩ | ⟨h1, h2⟩
 ·exact .inl ⟨j, by omega, h3, h4⟩
 ·refine .inr ⟨fun j hj => h1 j (ao _) (by omega), ?_⟩
  rw [h2, List.range_eq_range']
  rfl
theorem pX (m : Img) (hd : nL m) : ((ei 30000 m).2 ≠ 0 ∧ fF m = ((ei 30000 m).2, (ei 30000 m).1, [], [], [])) ∨
  ((ei 30000 m).2 = 0 ∧ ∃ j, j < m.tasks.length ∧ (ep (et m) j).2 = 13 ∧ fF m = (13, (j : Int), et m, [], dY (m.blocks.length : Int) (el m))) ∨
  ((ei 30000 m).2 = 0 ∧ (∀ j, j < m.tasks.length → (ep (et m) j).2 = 0) ∧ fF m = (0, -1, et m, (List.range m.tasks.length).map (fun j => (ep (et m) j).1), dY (m.blocks.length : Int) (el m))) := by
 unfold fF
 by_cases h : (ei 30000 m).2 ≠ 0
 ·rw [if_pos h]; exact .inl ⟨h, rfl⟩
 ·rw [if_neg h]
  have hz := Decidable.not_not.1 h
  right
  have hL := hM m
  rcases HY (et m) with ⟨j, h1, h2, h3⟩ | ⟨h1, h2⟩
  ·left
   rw [hL] at h1
   have hd' : ((et m).getD j du).2.2.2.1 ≤ 20000 := u6 hz hd _ (by rw [ar, av (by omega)]; exact aT _)
   rcases r6 (l8 hz) (by omega) hd' with ⟨h4, _⟩ | ⟨h4, _⟩
   ·exact ⟨hz, j, h1, h4, by rw [h3, h4]⟩
   ·exact absurd h4 h2
  ·right
   rw [hL] at h1
   exact ⟨hz, h1, by rw [h2, hL]⟩
theorem zM {α : Type} (f : Nat → α) {k i : Nat} (d : α) (h : i < k) : ((List.range k).map f).getD i d = f i := by
 rw [ar, bC, cb h]
 rfl
structure RowLe (r' r : Row) : Prop where
 c : r'.1 = r.1
 b : r'.2.1 ≤ r.2.1
 t : r.2.2.1 ≤ r'.2.2.1
 d : r'.2.2.2.1 = r.2.2.2.1
 j : r'.2.2.2.2.1 = r.2.2.2.2.1
 p : r'.2.2.2.2.2 = r.2.2.2.2.2
def LessR : List Row → List Row → Prop
 | [], _ => True
 | r' :: t', r :: t => RowLe r' r ∧ LessR t' t
 | _ :: _, [] => False
theorem LessR.get : ∀ {l' l : List Row}, LessR l' l → ∀ {i : Nat}, i < l'.length → RowLe (l'.getD i du) (l.getD i du)
 | [], _, _, i, hi => by simp at hi
 | r' :: t', r :: t, h, 0, hi => h.1
 | r' :: t', r :: t, h, i + 1, hi => by
  have := LessR.get (l' := t') (l := t) h.2 (i := i) (by simpa using hi)
  simpa using this
 | _ :: _, [], h, _, _ => h.elim
theorem LessR.len : ∀ {l' l : List Row}, LessR l' l → l'.length ≤ l.length
 | [], _, _ => ao _
 | r' :: t', r :: t, h => by
  have := LessR.len h.2
  simp only [aF]
  omega
 | _ :: _, [], h => h.elim
theorem zN (i : Nat) {w p : Int} (hw : 0 ≤ w ∧ w ≤ 2000000) : ∀ {l' l : List Row} (k : Nat), LessR l' l → (∀ r ∈ l', RowB r) → (∀ r ∈ l, RowB r) → im i w p l' k ≤ im i w p l k
 | [], l, k, _, _, h => (xW i hw l k h).1
 | r' :: t', r :: t, k, h, h1, h2 => by
  unfold im
  have a := zN i hw (p := p) (k + 1) h.2 (fun r hr => h1 r (ax _ hr)) (fun r hr => h2 r (ax _ hr))
  have b := zF (h1 r' (aB ..)) (h2 r (aB ..)) (p := p) hw.1 (aE w) hw.2 h.1.c h.1.t h.1.j h.1.p
  rw [h.1.p]
  split <;> omega
 | _ :: _, [], _, h, _, _ => h.elim
theorem HZ {l' l : List Row} (h : LessR l' l) (h1 : RowsB l') (h2 : RowsB l) {i : Nat} (hi : i < l'.length) {w : Int} (hw : 0 ≤ w ∧ w ≤ 2000000) : d5 l' i w ≤ d5 l i w := by
 have hg := h.get hi
 unfold d5
 have := zN i hw (p := (l.getD i du).2.2.2.2.2) 0 h h1.all h2.all
 rw [hg.p, hg.c]
 have := hg.b
 omega
theorem H3 (a m : Int) : m ≤ hi a m ∧ a ≤ hi a m := by unfold hi; split <;> omega
theorem Gw {a m m' : Int} (h : m ≤ m') : hi a m ≤ hi a m' := by unfold hi; split <;> split <;> omega
theorem zO (c : Int → Int) (p q : Int) : ∀ (s t : List Int) (m : Int), m ≤ ip c p q s t m
 | [], [], m => aE _
 | [], _ :: _, m => aE _
 | _ :: _, [], m => aE _
 | k :: s, a :: t, m => by
  unfold ip
  have h1 := zO c p q s t (if q < p then if c k ≥ p then hi a m else m else m)
  have h2 : m ≤ (if q < p then if c k ≥ p then hi a m else m else m) := by
   have := (H3 a m).1
   split
   ·split <;> omega
   ·omega
  omega
theorem zP {c c' : Int → Int} (hc : ∀ k, c k ≤ c' k) (p q : Int) : ∀ (s t : List Int) {m m' : Int}, m ≤ m' → ip c p q s t m ≤ ip c' p q s t m'
 | [], [], m, m', h => h
 | [], _ :: _, m, m', h => h
 | _ :: _, [], m, m', h => h
 | k :: s, a :: t, m, m', h => by
  unfold ip
  refine zP hc p q s t ?_
  have h1 := hc k
  have h2 := Gw (a := a) h
  have h3 := (H3 a m').1
  split
  ·split
   ·rw [if_pos (by omega)]; exact h2
   ·split <;> omega
  ·exact h
theorem zQ (c : Int → Int) (p : Int) : ∀ (l : List fE) (m : Int), m ≤ jw c p l m
 | [], m => aE _
 | u :: t, m => by
  unfold jw
  exact bg (zO c p u.1 u.2.1 u.2.2 m) (zQ c p t _)
theorem zR {c c' : Int → Int} (hc : ∀ k, c k ≤ c' k) (p : Int) : ∀ (l : List fE) (j : Nat) {m m' : Int}, m ≤ m' → jw c p (l.take j) m ≤ jw c' p l m'
 | [], j, m, m', h => by rw [List.take_nil]; exact h
 | u :: t, 0, m, m', h => bg h (zQ c' p (u :: t) m')
 | u :: t, j + 1, m, m', h => by
  rw [List.take_succ_cons]
  unfold jw
  exact zR hc p t j (zP hc p u.1 u.2.1 u.2.2 h)
theorem zS (p k : Int) : ∀ (s : List Int) (m : Int), m ≤ nJ p k s m
 | [], m => aE _
 | x :: t, m => by
  unfold nJ
  have h1 := zS p k t (if x = k then hi p m else m)
  have h2 := (H3 p m).1
  split at h1 <;> (rename_i c; first | rw [if_pos c] | rw [if_neg c]) <;> omega
theorem zT (p k : Int) : ∀ (s : List Int) {m m' : Int}, m ≤ m' → nJ p k s m ≤ nJ p k s m'
 | [], _, _, h => h
 | x :: t, m, m', h => by
  unfold nJ
  refine zT p k t ?_
  have := Gw (a := p) h
  split <;> assumption
theorem zU (k : Int) : ∀ (l : List fE) (m : Int), m ≤ nK k l m
 | [], m => aE _
 | u :: t, m => by
  unfold nK
  exact bg (zS u.1 k u.2.1 m) (zU k t _)
theorem zV (k : Int) : ∀ (l : List fE) (j : Nat) {m m' : Int}, m ≤ m' → nK k (l.take j) m ≤ nK k l m'
 | [], j, m, m', h => by rw [List.take_nil]; exact h
 | u :: t, 0, m, m', h => bg h (zU k (u :: t) m')
 | u :: t, j + 1, m, m', h => by
  rw [List.take_succ_cons]
  unfold nK
  exact zV k t j (zT u.1 k u.2.1 h)
theorem H4 (l : List fE) {i j : Nat} (hi : i < j) : pC (l.take j) i ≤ pC l i := by
 unfold pC
 rw [show (l.take j).getD i eK = l.getD i eK by rw [ar, ar, aR, if_pos hi]]
 exact zR (fun k => zV k l j (aE 0)) _ l j (aE 0)
theorem zW {e : Nat → Int} : ∀ {r i : Nat}, (∀ j, i ≤ j → j < i + r → e j = 0) → ju e r i = none
 | 0, _, _ => rfl
 | r + 1, i, h => by
  unfold ju
  rw [if_neg (fun k => k (h i (aq _) (by omega)))]
  exact zW fun j h1 h2 => h j (by omega) (by omega)
theorem MF {n : Nat} {m : Img} (hR : RightP m) (hz : ∀ i, i < m.tasks.length → fg n m (i : Int) = 0) : (ei n m).2 = 0 := by
 unfold ei
 rw [if_pos hR, zW fun j _ h => hz j (by omega)]
 rfl
structure SameBut (x m : Img) : Prop where
 s : x.1 = m.1
 l : x.2.1 = m.2.1
 c : x.2.2.1 = m.2.2.1
 i : x.inputs = m.inputs
 f : x.safe = m.safe
 b : x.blocks = m.blocks
 n : 1 ≤ x.tasks.length ∧ x.tasks.length ≤ m.tasks.length
 t : ∀ i, i < x.tasks.length → (dk x (i : Int)).1 = (dk m (i : Int)).1 ∧ (dk m (i : Int)).2.1 ≤ (dk x (i : Int)).2.1 ∧ (dk x (i : Int)).2.1 ≤ 1048576 ∧ (dk x (i : Int)).2.2 = (dk m (i : Int)).2.2
 o : x.tasks.flatMap Tsk.outs = (m.tasks.take x.tasks.length).flatMap Tsk.outs
theorem E0 {x : Img} {t : Tsk} (h : t ∈ x.tasks) : ∃ i, i < x.tasks.length ∧ t = dk x (i : Int) := by
 obtain ⟨i, hi, rfl⟩ := bO h
 refine ⟨i, hi, ?_⟩
 show _ = x.tasks.getD (i : Int).toNat _
 rw [ai, ar, av hi]
 rfl
theorem Kv {s : List Int} : ∀ {a b : List Int}, apart s (a ++ b) = true → apart s a = true := by
 intro a b h
 rw [oM, aj] at h
 exact h.1
theorem oP {t' t : Tsk} (h : t'.2.2 = t.2.2) : t'.blocks = t.blocks ∧ t'.outs = t.outs ∧ t'.code = t.code := ⟨congrArg (fun q => q.2.2.1) h, congrArg (fun q => q.2.2.2.1) h, congrArg (fun q => q.2.2.2.2) h⟩
theorem SameBut.right {x m : Img} (h : SameBut x m) (hR : RightP m) : RightP x := by
 obtain ⟨hN, hW, hT⟩ := hR
 have hTa := TasksOk.all.1 hT
 refine ⟨?_, by rw [h.b]; exact hW, TasksOk.all.2 ⟨fun t ht => ?_, ?_⟩⟩
 ·obtain ⟨n1, n2, n3, n4, n5, n6, n7⟩ := hN
  unfold vy
  rw [h.s, h.l, h.c, show x.2.2.2.1 = m.2.2.2.1 from h.i, h.f, h.b]
  have := h.n
  exact ⟨n1, n2, n3, n4, n5, n6, by omega⟩
 ·obtain ⟨i, hi, rfl⟩ := E0 ht
  obtain ⟨e1, e2, e3, e4⟩ := h.t i hi
  obtain ⟨⟨m1, m2, m3, m4⟩, k1, k2, k3⟩ := hTa.1 _ (r4 (m := m) (i := i) (by have := h.n; omega))
  obtain ⟨f1, f2, f3⟩ := oP e4
  refine ⟨⟨by omega, by omega, ?_, ?_⟩, ?_, ?_, ?_⟩
  ·rw [e4]; omega
  ·rw [e4]; exact m4
  ·rw [f1, h.b]; exact k1
  ·rw [f2, h.f]; exact k2
  ·rw [f3]; exact k3
 ·rw [h.o]
  refine Kv (b := (m.tasks.drop x.tasks.length).flatMap Tsk.outs) ?_
  rw [← List.flatMap_append, bz]
  exact hTa.2
theorem Kw {x m : Img} (h : SameBut x m) {t t' : Tsk} (ht : t'.2.2 = t.2.2) (i : cY) : jt x t' i = jt m t i := by
 unfold jt
 rw [h.i, h.b, (oP ht).2.1]
theorem SameBut.task {n : Nat} {x m : Img} (h : SameBut x m) (hR : RightP m) {i : Nat} (hi : i < x.tasks.length) : fg n x (i : Int) = fg n m (i : Int) := by
 obtain ⟨e1, e2, e3, e4⟩ := h.t i hi
 have hn := h.n
 unfold fg
 rw [if_pos (h.right hR), if_pos hR, if_neg (show ¬ ((i : Int) < 0 ∨ (i : Int) ≥ (x.tasks.length : Int)) by omega), if_neg (show ¬ ((i : Int) < 0 ∨ (i : Int) ≥ (m.tasks.length : Int)) by omega)]
 show (if (eG bM n (dk x (i : Int)).code).2 ≠ 0 then (eG bM n (dk x (i : Int)).code).2 else if fk (dk x (i : Int)).code = (dk x (i : Int)).blocks then (if (dk x (i : Int)).code.all (jt x (dk x (i : Int))) = true then 0 else 12) else 11) = _
 obtain ⟨f1, f2, f3⟩ := oP e4
 rw [funext (Kw h e4), f1, f3]
theorem SameBut.every {n : Nat} {x m : Img} (h : SameBut x m) (hz : (ei n m).2 = 0) : (ei n x).2 = 0 := by
 obtain ⟨hR, _, hz'⟩ := gz hz
 exact MF (h.right hR) fun i hi => by rw [h.task hR hi]; exact hz' i (by have := h.n; omega)
theorem SameBut.dead {x m : Img} (h : SameBut x m) (hd : nL m) : nL x := fun t ht => by
 obtain ⟨i, hi, rfl⟩ := E0 ht
 rw [(h.t i hi).2.2.2]
 exact hd _ (r4 (by have := h.n; omega))
theorem SameBut.locked {x m : Img} (h : SameBut x m) (hR : RightP m) {i : Nat} (hi : i < x.tasks.length) : iL 30000 x (i : Int) = iL 30000 m (i : Int) := by
 unfold iL
 rw [h.task hR hi, (oP (h.t i hi).2.2.2).2.2]
theorem SameBut.slots {x m : Img} (h : SameBut x m) (hR : RightP m) {i : Nat} (hi : i < x.tasks.length) : gy 30000 x (i : Int) = gy 30000 m (i : Int) := by
 unfold gy
 rw [h.task hR hi, (oP (h.t i hi).2.2.2).2.2, h.s, h.l, h.c]
theorem SameBut.uses {x m : Img} (h : SameBut x m) (hR : RightP m) : el x = (el m).take x.tasks.length := by
 unfold el
 rw [← List.map_take, List.take_range, cn h.n.2]
 refine bs fun i hi => ?_
 have hi' : i < x.tasks.length := by simpa using hi
 unfold HS
 rw [h.locked hR hi', (h.t i hi').1, (h.t i hi').2.2.2]
theorem NF {l' l : List Row} (hl : l'.length ≤ l.length) (h : ∀ i, i < l'.length → RowLe (l'.getD i du) (l.getD i du)) : LessR l' l := by
 induction l' generalizing l with
 | nil => trivial
 | cons r' t' ih =>
  cases l with
  | nil => simp at hl
  | cons r t => exact ⟨h 0 (by simp), ih (by simpa using hl) fun i hi => by simpa using h (i + 1) (by simpa using hi)⟩
theorem SameBut.rows {x m : Img} (h : SameBut x m) (hz : (ei 30000 m).2 = 0) : LessR (et x) (et m) := by
 obtain ⟨hR, _, hz'⟩ := gz hz
 refine NF (by rw [hM, hM]; exact h.n.2) fun i hi => ?_
 rw [hM] at hi
 obtain ⟨e1, e2, e3, e4⟩ := h.t i hi
 have hi' : i < m.tasks.length := by have := h.n; omega
 rw [Cl x hi, Cl m hi']
 unfold xZ
 refine ⟨?_, ?_, e2, ?_, ?_, e1⟩
 ·show (gy 30000 x (i : Int)).1 = (gy 30000 m (i : Int)).1
  rw [h.slots hR hi]
 ·show (fh (el x)).getD i 0 ≤ (fh (el m)).getD i 0
  rw [r5 (by rw [kH]; exact hi), r5 (by rw [kH]; exact hi'), h.uses hR]
  exact H4 _ hi
 ·show (dk x (i : Int)).2.2.1 = (dk m (i : Int)).2.2.1
  rw [e4]
 ·show (dk x (i : Int)).2.2.2.1 = (dk m (i : Int)).2.2.2.1
  rw [e4]
theorem SameBut.judge {x m : Img} (h : SameBut x m) (hd : nL m) (hm : (fF m).1 = 0) : (fF x).1 = 0 ∧ (fF x).2.2.2.1.length = x.tasks.length ∧ (fF m).2.2.2.1.length = m.tasks.length ∧ ∀ i, i < x.tasks.length → (fF x).2.2.2.1.getD i 0 ≤ (fF m).2.2.2.1.getD i 0 := by
 rcases pX m hd with ⟨h1, h2⟩ | ⟨h1, j, hj, h2, h3⟩ | ⟨h1, h2, h3⟩
 ·rw [h2] at hm; exact absurd hm h1
 ·rw [h3] at hm; exact absurd hm (show ¬ ((13 : Int) = 0) by decide)
 ·have hx := h.every h1
  have hl := h.rows h1
  have less : ∀ i, i < x.tasks.length → (ep (et x) i).2 = 0 ∧ (ep (et x) i).1 ≤ (ep (et m) i).1 := fun i hi => by
   have hi' : i < m.tasks.length := by have := h.n; omega
   have hxl : i < (et x).length := by rw [hM]; exact hi
   have hml : i < (et m).length := by rw [hM]; exact hi'
   have hg := hl.get hxl
   exact HX (l8 h1) (l8 hx) hml hxl (u6 h1 hd _ (by rw [ar, av hml]; exact aT _)) hg.d hg.j (fun z z0 z1 => HZ hl (l8 hx) (l8 h1) hxl (by omega)) (h2 i hi')
  rcases pX x (h.dead hd) with ⟨g1, g2⟩ | ⟨g1, j, hj, g2, g3⟩ | ⟨g1, g2, g3⟩
  ·exact absurd hx g1
  ·rw [(less j hj).1] at g2; exact absurd g2 (by decide)
  ·rw [g3, h3]
   refine ⟨rfl, by simp, by simp, fun i hi => ?_⟩
   show ((List.range x.tasks.length).map (fun j => (ep (et x) j).1)).getD i 0 ≤ ((List.range m.tasks.length).map (fun j => (ep (et m) j).1)).getD i 0
   rw [zM _ _ hi, zM _ _ (by have := h.n; omega)]
   exact (less i hi).2
theorem H5 (n : Nat) (hn : n = 30000) (v w : Vd) (hl : w.2.2.2.1.length ≤ v.2.2.2.1.length) (h8 : w.2.2.2.1.length ≤ 80) (h : ∀ i, i < w.2.2.2.1.length → w.2.2.2.1.getD i 0 ≤ v.2.2.2.1.getD i 0) :
  rP n (0, v.1, v.2.1, v.2.2.1, v.2.2.2.1, v.2.2.2.2, w.1, w.2.1, w.2.2.1, w.2.2.2.1, w.2.2.2.2) = some (.inr ((), ((v.1, v.2.1, v.2.2.1, v.2.2.2.1, v.2.2.2.2, ()), (w.1, w.2.1, w.2.2.1, w.2.2.2.1, w.2.2.2.2, ()), ()))) := by
 unfold rP
 refine d6 (S := fun F => (e8 (C_ q_)) (uM n F)) (fun f x r => ∃ i : Nat, x = ((i : Int), v.1, v.2.1, v.2.2.1, v.2.2.2.1, v.2.2.2.2, w.1, w.2.1, w.2.2.1, w.2.2.2.1, w.2.2.2.2) ∧ i ≤ w.2.2.2.1.length ∧ w.2.2.2.1.length < f + i ∧ r = .inr ((), ((v.1, v.2.1, v.2.2.1, v.2.2.2.1, v.2.2.2.2, ()), (w.1, w.2.1, w.2.2.1, w.2.2.2.1, w.2.2.2.2, ()), ()))) (fun x r ⟨i, _, h1, h2, _⟩ => by omega) (fun f x F hF r => ?_) n _ _ ⟨0, rfl, ao _, by omega, rfl⟩
 rintro ⟨i, rfl, h1, h2, rfl⟩
 show uM n F (i : Int) v.1 v.2.1 v.2.2.1 v.2.2.2.1 v.2.2.2.2 w.1 w.2.1 w.2.2.1 w.2.2.2.1 w.2.2.2.2 = _
 unfold uM
 rcases am i w.2.2.2.1.length with hlt | hge
 ·have := h i hlt
  rw [if_pos (af (by omega)), if_neg (fun k => by have := aC k; omega), if_pos (dc hlt), if_pos (dc (by omega)), ai, if_neg (fun k => by have := aC k; omega), di (by omega)]
  exact hF _ _ ⟨i + 1, rfl, by omega, by omega, rfl⟩
 ·have : i = w.2.2.2.1.length := by omega
  subst this
  rw [if_neg (by simp)]
theorem Kx {m : Img} (hR : RightP m) (h2 : 2 ≤ m.tasks.length) : SameBut (m.1, m.2.1, m.2.2.1, m.2.2.2.1, m.2.2.2.2.1, m.2.2.2.2.2.1, m.tasks.take (m.tasks.length - 1)) m := by
 have hl : (m.tasks.take (m.tasks.length - 1)).length = m.tasks.length - 1 := by rw [cm]; omega
 refine ⟨rfl, rfl, rfl, rfl, rfl, rfl, ?_, fun i hi => ?_, ?_⟩
 ·show 1 ≤ (m.tasks.take (m.tasks.length - 1)).length ∧ (m.tasks.take (m.tasks.length - 1)).length ≤ m.tasks.length
  omega
 ·have hi' : i < (m.tasks.take (m.tasks.length - 1)).length := hi
  have e : dk (m.1, m.2.1, m.2.2.1, m.2.2.2.1, m.2.2.2.2.1, m.2.2.2.2.2.1, m.tasks.take (m.tasks.length - 1)) (i : Int) = dk m (i : Int) := by
   show (m.tasks.take (m.tasks.length - 1)).getD (i : Int).toNat _ = m.tasks.getD (i : Int).toNat _
   rw [ai, ar, ar, aR, if_pos (by omega)]
  rw [e]
  have := (u5 hR (i := i) (by omega)).1.2.1
  exact ⟨rfl, aE _, this.2, rfl⟩
 ·show (m.tasks.take (m.tasks.length - 1)).flatMap Tsk.outs = (m.tasks.take (m.tasks.take (m.tasks.length - 1)).length).flatMap Tsk.outs
  rw [hl]
theorem lF (a0 : (Int × (Int × (Int × (Int × ((List Int) × ((List (List Int)) × (List (Int × (Int × (Int × (Int × ((List Int) × ((List Int) × (List (Int × (Int × Int))))))))))))))))) (ok0 : Sh.Ok (.pair (.int .i64) (.pair (.int .i64) (.pair (.int .i64) (.pair (.int .i64) (.pair (.sl (.int .i64)) (.pair (.sl (.sl (.int .i64))) (.sl (.pair (.int .i64) (.pair (.int .i64) (.pair (.int .i64) (.pair (.int .i64) (.pair (.sl (.int .i64)) (.pair (.sl (.int .i64)) (.sl (.pair (.int .i64) (.pair (.int .i64) (.int .i64))))))))))))))))) a0) (sm0 : Sh.Sm (.pair (.int .i64) (.pair (.int .i64) (.pair (.int .i64) (.pair (.int .i64) (.pair (.sl (.int .i64)) (.pair (.sl (.sl (.int .i64))) (.sl (.pair (.int .i64) (.pair (.int .i64) (.pair (.int .i64) (.pair (.int .i64) (.pair (.sl (.int .i64)) (.pair (.sl (.int .i64)) (.sl (.pair (.int .i64) (.pair (.int .i64) (.int .i64))))))))))))))))) a0) : ∃ n, HB n a0 = some true := by
 refine ⟨30000, ?_⟩
 unfold HB
 rcases HV 30000 (by decide) (by decide) sm0 with h | ⟨h, hL, hD⟩
 ·rw [show rF 30000 (a0.1, a0.2.1, a0.2.2.1, a0.2.2.2.1, a0.2.2.2.2.1, a0.2.2.2.2.2.1, a0.2.2.2.2.2.2) = some 0 from h, ae, if_pos (by decide), vz]
  rfl
 ·rw [show rF 30000 (a0.1, a0.2.1, a0.2.2.1, a0.2.2.2.1, a0.2.2.2.2.1, a0.2.2.2.2.2.1, a0.2.2.2.2.2.2) = some 1 from h, ae, if_neg (by decide)]
  have h80 : a0.2.2.2.2.2.2.length ≤ 80 := by have := hL.1; show (Img.tasks a0).length ≤ 80; omega
  by_cases h2 : a0.2.2.2.2.2.2.length < 2
  ·rw [if_pos (af (by omega)), vz]
   rfl
  ·rw [if_neg (fun k => by have := aC k; omega)]
   rw [show oF 30000 (a0.1, a0.2.1, a0.2.2.1, a0.2.2.2.1, a0.2.2.2.2.1, a0.2.2.2.2.2.1, a0.2.2.2.2.2.2) = _ from EZ 30000 rfl a0 hD, ae, dA (e := (a0.2.2.2.2.2.2.length : Int) - 1) (by omega) (by omega), if_pos (by rw [af (by omega), af (by omega)]; rfl), show ((a0.2.2.2.2.2.2.length : Int) - 1).toNat = a0.2.2.2.2.2.2.length - 1 by omega, bb]
   have hD' : nL (a0.1, a0.2.1, a0.2.2.1, a0.2.2.2.1, a0.2.2.2.2.1, a0.2.2.2.2.2.1, a0.2.2.2.2.2.2.take (a0.2.2.2.2.2.2.length - 1)) := fun t ht => hD t (List.mem_of_mem_take ht)
   rw [EZ 30000 rfl (a0.1, a0.2.1, a0.2.2.1, a0.2.2.2.1, a0.2.2.2.2.1, a0.2.2.2.2.2.1, a0.2.2.2.2.2.2.take (a0.2.2.2.2.2.2.length - 1)) hD', ae]
   by_cases h0 : (fF a0).1 ≠ 0
   ·rw [if_pos (ak.2 h0), vz]
    rfl
   ·rw [if_neg (fun k => h0 (ak.1 k))]
    have h0' := Decidable.not_not.1 h0
    have hz : (ei 30000 a0).2 = 0 := by
     rcases pX a0 hD with ⟨g1, g2⟩ | ⟨g1, _⟩ | ⟨g1, _⟩
     ·rw [g2] at h0'; exact h0'
     ·exact g1
     ·exact g1
    obtain ⟨j1, j2, j3, j4⟩ := (Kx (m := a0) (gz hz).1 (by show 2 ≤ a0.2.2.2.2.2.2.length; omega)).judge hD h0'
    have hl : (a0.2.2.2.2.2.2.take (a0.2.2.2.2.2.2.length - 1)).length = a0.2.2.2.2.2.2.length - 1 := by rw [cm]; omega
    have j2' : (fF (a0.1, a0.2.1, a0.2.2.1, a0.2.2.2.1, a0.2.2.2.2.1, a0.2.2.2.2.2.1, a0.2.2.2.2.2.2.take (a0.2.2.2.2.2.2.length - 1))).2.2.2.1.length = a0.2.2.2.2.2.2.length - 1 := j2.trans hl
    have j3' : (fF a0).2.2.2.1.length = a0.2.2.2.2.2.2.length := j3
    rw [H5 30000 rfl (fF a0) (fF (a0.1, a0.2.1, a0.2.2.1, a0.2.2.2.1, a0.2.2.2.2.1, a0.2.2.2.2.2.1, a0.2.2.2.2.2.2.take (a0.2.2.2.2.2.2.length - 1))) (by omega) (by omega) (fun i hi => j4 i (by show i < (a0.2.2.2.2.2.2.take (a0.2.2.2.2.2.2.length - 1)).length; omega)), ae, cc]
    dsimp only
    rw [if_pos (ag.2 j1), j2', j3', dA (by omega) (by omega), if_pos (ag.2 (by omega)), vz]
    rfl
end Go.Proofs.Dk
