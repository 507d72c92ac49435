/- A part of the proofs: Plain: the steps of ways. -/
import Derived.Test.YtofeifhecboinaaGreatMB5
set_option linter.unusedVariables false
set_option linter.unusedSimpArgs false
noncomputable section
namespace Go.Proofs.Dk
open Go Go.IntKind
set_option maxRecDepth 100000
theorem yz {A B : Int} (h : dR (21, A, B) = true) : 1 ≤ A ∧ A ≤ 1000 := by
 have h1 := (fG 0 (21, A, B)).symm.trans (VE 0 A B)
 rw [h] at h1
 by_cases h2 : 1 ≤ A
 ·by_cases h3 : A ≤ 1000
  ·exact ⟨h2, h3⟩
  ·rw [if_pos (af h2), if_neg (by simpa using h3)] at h1
   cases h1
 ·rw [if_neg (by simpa using h2)] at h1
  cases h1
def dp (a b : Int) : Int := if 1048577 < a + b then 1048577 else a + b
def gx (w A : Int) : Int := if dp w 1 = 1048577 then 1048577 else dp 1 (A * dp w 1)
def mN (m : List Int) (i : Nat) : Nat := (m.getD i 0).toNat
def ez (W : Nat → Nat → Int) (l : List da) (m : List Int) (i : Nat) : Int := if dm l i = 21 then gx (W (i + 1) (mN m i)) (dT l i) else 1
def eQ (l : List da) (m : List Int) (i : Nat) : List Nat := if dm l i = 21 then [mN m i + 1] else if dm l i = 19 then [dv l i] else if dm l i = 20 then [dv l i, i + 1] else [i + 1]
def eF (b : Int → Int → Int) (D : Nat → Int) (k : Nat) (v : Int) : Nat → Int := fun j => if j = k then (if D k = -1 then v else b (D k) v) else D j
def ev (b : Int → Int → Int) (W : Nat → Nat → Int) (l : List da) (m : List Int) (i : Nat) (D : Nat → Int) : Nat → Int :=
 if D i = -1 then D else (eQ l m i).foldl (fun g k => eF b g k (dp (D i) (ez W l m i))) D
def eR (b : Int → Int → Int) (W : Nat → Nat → Int) (l : List da) (m : List Int) : Nat → Nat → (Nat → Int) → Nat → Int
 | 0, _, D => D
 | r + 1, i, D => eR b W l m r (i + 1) (ev b W l m i D)
def fv (a : Nat) : Nat → Int := fun j => if j = a then 0 else -1
def ec (b : Int → Int → Int) (l : List da) (m : List Int) : Nat → Nat → Nat → Int
 | 0, _, _ => 0
 | f + 1, a, z => eR b (ec b l m f) l m (z - a) a (fv a) z
structure Reg (l : List da) (m : List Int) (a z : Nat) : Prop where
 le : a ≤ z
 lt : z < l.length
 loop : ∀ i, a ≤ i → i < z → dB l i = true → ∃ j : Nat, m.getD i 0 = (j : Int) ∧ i < j ∧ j < z
 jump : ∀ i, a ≤ i → i < z → dm l i = 19 ∨ dm l i = 20 → dv l i ≤ z
theorem Fine.reg {l : List da} {m h : List Int} (hF : Fine l m h) {p : Nat} (hp : p < l.length) (ho : dB l p = true) : Reg l m (p + 1) (mN m p) := by
 obtain ⟨j, j1, j2, j3⟩ := hF.nest.open_ p hp ho
 have hj : mN m p = j := by unfold mN; rw [j1]; rfl
 rw [hj]
 refine ⟨by omega, j3, fun i h1 h2 h3 => ?_, fun i h1 h2 h3 => ?_⟩
 ·obtain ⟨q, q1, q2, q3⟩ := hF.nest.open_ i (by omega) h3
  obtain ⟨q', e1, e2⟩ := hF.nest.cross p i j (by omega) h2 hp ho h3 j1
  exact ⟨q, q1, q2, by omega⟩
 ·obtain ⟨k1, k2⟩ := hF.jump (show i < l.length by omega) h3
  rcases ak j (dv l i) with hlt | hge
  ·exfalso
   have e1 : enc l m p i = true := by
    unfold enc
    rw [ho, j1]
    simp; omega
   have e2 : enc l m p (dv l i) = false := by
    unfold enc
    rw [ho, j1]
    simp; omega
   rcases o8 l m i with hh | ⟨q, hh⟩
   ·rw [p7 hh p] at e1; cases e1
   ·obtain ⟨_, _, x3⟩ := jP hF.nest (show i < l.length by omega) hh
    obtain ⟨_, _, y3⟩ := jP hF.nest k1 (k2.trans hh)
    rw [y3 p, ← x3 p, e1] at e2
    cases e2
  ·exact hge
theorem Fine.all {l : List da} {m h : List Int} (hF : Fine l m h) : Reg l m 0 (l.length - 1) := by
 obtain ⟨l1, l2⟩ := hF.len
 refine ⟨am _, by omega, fun i h1 h2 h3 => ?_, fun i h1 h2 h3 => ?_⟩
 ·obtain ⟨j, j1, j2, j3, j4, j5⟩ := hF.closed.op_ i (by omega) h3
  refine ⟨j, j1, j2, ?_⟩
  have : j ≠ l.length - 1 := fun e => by
   subst e
   have h5 := hF.last
   have h6 := Me (l.getD i (0, 0, 0))
   unfold dm at h5
   rw [j4] at h5
   omega
  omega
 ·have := (hF.jump (show i < l.length by omega) h3).1
  omega
def StepsI (v : Int) : Prop := v = -1 ∨ (0 ≤ v ∧ v ≤ 1048577)
theorem fH {a b : Int} (h1 : 0 ≤ a) (h2 : 0 ≤ b) : 0 ≤ dp a b ∧ dp a b ≤ 1048577 := by
 unfold dp
 split <;> omega
theorem Bd {w A : Int} (hw : StepsI w) (hA : 1 ≤ A ∧ A ≤ 1000) : 0 ≤ gx w A ∧ gx w A ≤ 1048577 := by
 have h1 : 0 ≤ dp w 1 ∧ dp w 1 ≤ 1048577 := by
  rcases hw with rfl | h
  ·decide
  ·exact fH h.1 (by decide)
 unfold gx
 split
 ·omega
 ·exact fH (by decide) (cu (by omega) h1.1)
def zA (b : Int → Int → Int) : Prop := ∀ x y, b x y = x ∨ b x y = y
theorem sE {b : Int → Int → Int} (hb : zA b) {D : Nat → Int} (hD : ∀ k, StepsI (D k)) (k : Nat) {v : Int} (hv : 0 ≤ v ∧ v ≤ 1048577) : ∀ j, StepsI (eF b D k v j) := by
 intro j
 unfold eF
 split
 ·split
  ·exact .inr hv
  ·rcases hb (D k) v with h | h
   ·rw [h]; exact hD k
   ·rw [h]; exact .inr hv
 ·exact hD j
theorem Mf {b : Int → Int → Int} (hb : zA b) {v : Int} (hv : 0 ≤ v ∧ v ≤ 1048577) : ∀ (ks : List Nat) {D : Nat → Int}, (∀ k, StepsI (D k)) → ∀ k, StepsI (ks.foldl (fun g k => eF b g k v) D k)
 | [], D, hD => hD
 | k :: ks, D, hD => Mf hb hv ks (sE hb hD k hv)
theorem iP {W : Nat → Nat → Int} {l : List da} {m : List Int} {i : Nat} (hr : dR (l.getD i (0, 0, 0)) = true) (hW : dm l i = 21 → StepsI (W (i + 1) (mN m i))) : 0 ≤ ez W l m i ∧ ez W l m i ≤ 1048577 := by
 unfold ez
 split
 ·rename_i h
  refine Bd (hW h) ?_
  unfold dT
  unfold dm at h
  generalize l.getD i (0, 0, 0) = x at *
  obtain ⟨o, A, B⟩ := x
  simp only at h
  subst h
  exact yz hr
 ·omega
theorem f5 {b : Int → Int → Int} (hb : zA b) {W : Nat → Nat → Int} {l : List da} {m : List Int} {i : Nat} {D : Nat → Int} (hD : ∀ k, StepsI (D k)) (hr : dR (l.getD i (0, 0, 0)) = true) (hW : dm l i = 21 → StepsI (W (i + 1) (mN m i))) : ∀ k, StepsI (ev b W l m i D k) := by
 unfold ev
 split
 ·exact hD
 ·rename_i h
  have hi : 0 ≤ D i := by
   rcases hD i with h1 | h1
   ·exact absurd h1 h
   ·exact h1.1
  exact Mf hb (fH hi (iP hr hW).1) _ hD
theorem yA {b : Int → Int → Int} (hb : zA b) {W : Nat → Nat → Int} {l : List da} {m : List Int} (hr : ∀ i, i < l.length → dR (l.getD i (0, 0, 0)) = true) : ∀ (r i : Nat) {D : Nat → Int}, (∀ k, StepsI (D k)) → r + i ≤ l.length → (∀ k, i ≤ k → k < r + i → dm l k = 21 → StepsI (W (k + 1) (mN m k))) → ∀ k, StepsI (eR b W l m r i D k)
 | 0, i, D, hD, hi, hW => hD
 | r + 1, i, D, hD, hi, hW => yA hb hr r (i + 1) (f5 hb hD (hr i (by omega)) (hW i (aq _) (by omega))) (by omega) fun k h1 h2 => hW k (by omega) (by omega)
theorem gQ (a : Nat) : ∀ k, StepsI (fv a k) := fun k => by
 unfold fv
 split
 ·exact .inr (by decide)
 ·exact .inl rfl
theorem j7 {b : Int → Int → Int} (hb : zA b) {l : List da} {m h : List Int} (hF : Fine l m h) : ∀ (f : Nat) {a z : Nat}, Reg l m a z → StepsI (ec b l m f a z)
 | 0, a, z, hR => .inr (by show 0 ≤ (0 : Int) ∧ (0 : Int) ≤ 1048577; decide)
 | f + 1, a, z, hR => by
  have h1 := hR.le
  have h2 := hR.lt
  exact yA hb (fun i hi => hF.right hi) (z - a) a (gQ a) (by omega) (fun k k1 k2 k3 => j7 hb hF f (hF.reg (by omega) (isOpen_iff.2 (.inl k3)))) z
def bM (x y : Int) : Int := if y > x then y else x
def bL (x y : Int) : Int := if y < x then y else x
theorem eM : zA bM := fun x y => by
 unfold bM
 split
 ·exact .inr rfl
 ·exact .inl rfl
theorem xM : zA bL := fun x y => by
 unfold bL
 split
 ·exact .inr rfl
 ·exact .inl rfl
theorem iQ (n : Nat) {a b : Int} (h1 : -1 ≤ a) (h2 : a ≤ 1048577) (h3 : -1 ≤ b) (h4 : b ≤ 1048577) : ef n a b = some (dp a b) := by
 unfold ef dp
 rw [dI (by omega) (by omega)]
structure LD (d : List Int) (D : Nat → Int) (a z : Nat) : Prop where
 len : d.length = z - a + 1
 at_ : ∀ k, a ≤ k → k ≤ z → d.getD (k - a) 0 = D k
theorem LD.put {d : List Int} {D : Nat → Int} {a z : Nat} (h : LD d D a z) (b : Int → Int → Int) {k : Nat} (hk : a ≤ k) (hk2 : k ≤ z) (v : Int) : LD (d.set (k - a) (if d.getD (k - a) 0 = -1 then v else b (d.getD (k - a) 0) v)) (eF b D k v) a z := by
 have hl := h.len
 refine ⟨by rw [aQ, hl], fun j h1 h2 => ?_⟩
 rw [ej (by omega), h.at_ k hk hk2]
 unfold eF
 by_cases e : j = k
 ·subst e
  rw [if_pos rfl, if_pos rfl]
 ·rw [if_neg (by omega), if_neg e, h.at_ j h1 h2]
theorem Jr (n : Nat) (x y : Int) : fi n x y = some (bM x y) := rfl
theorem ot (n : Nat) {d : List Int} {k : Nat} (hk : k < d.length) (v : Int) {R : Type} (K : List Int → Option R) :
  (if (decide (0 ≤ (k : Int)) && decide ((k : Int) < (d.length : Int))) = true then (if (d.getD k 0 != (-1)) = true then ((fi n (d.getD k 0) v).bind fun y => if (decide (0 ≤ (k : Int)) && decide ((k : Int) < (d.length : Int))) = true then K (d.set k y) else none) else (if (decide (0 ≤ (k : Int)) && decide ((k : Int) < (d.length : Int))) = true then K (d.set k v) else none)) else none) = K (d.set k (if d.getD k 0 = -1 then v else bM (d.getD k 0) v)) := by
 simp only [if_pos (dh hk), Jr, ae]
 by_cases h : d.getD k 0 = -1
 ·rw [if_neg (fun h2 => (aj.1 h2) h), if_pos h]
 ·rw [if_pos (aj.2 h), if_neg h]
theorem pa (n : Nat) (W : ((((List (Int × (Int × Int))) × (List Int)) × Int × Int × Unit) × Unit) → Option Int) {l : List da} {m : List Int} (hl : l.length < 1000000) (hm : m.length = l.length) {i : Nat} (hi : i < l.length) {w : Int} (hj : m.getD i 0 = ((mN m i : Nat) : Int)) (hW : W (((l, m), ((i + 1 : Nat) : Int), ((mN m i : Nat) : Int), ()), ()) = some w) (hw : StepsI w) (hA : 1 ≤ dT l i ∧ dT l i ≤ 1000) : fp n W (l, m) (i : Int) = some (gx w (dT l i)) := by
 unfold fp gx
 simp only [ai, dk (show i < 1000000 by omega), if_pos (dh hi), if_pos (dh (show i < m.length by omega)), hj, hW, ae]
 have hw2 : -1 ≤ w ∧ w ≤ 1048577 := by rcases hw with rfl | h <;> omega
 rw [iQ n hw2.1 hw2.2 (by decide) (by decide), ae]
 have h1 : 0 ≤ dp w 1 ∧ dp w 1 ≤ 1048577 := by
  rcases hw with rfl | h
  ·decide
  ·exact fH h.1 (by decide)
 generalize dp w 1 = x at h1 ⊢
 by_cases hx : x = 1048577
 ·rw [if_pos (by simpa only [ag] using hx), if_pos hx]
 ·rw [if_neg (by simpa only [ag] using hx), if_neg hx]
  unfold dT at hA ⊢
  generalize (l.getD i (0, 0, 0)).2.1 = A at hA ⊢
  have hb : 0 ≤ A * x ∧ A * x ≤ 1000 * 1048577 := ⟨cu (by omega) h1.1, Int.mul_le_mul hA.2 h1.2 h1.1 (by decide)⟩
  rw [dI (e := A * x) (by omega) (by omega), dI (by omega) (by omega)]
  rfl
theorem V3 (n : Nat) (W : ((((List (Int × (Int × Int))) × (List Int)) × Int × Int × Unit) × Unit) → Option Int) {l : List da} {m h : List Int} (hF : Fine l m h) {Wp : Nat → Nat → Int} {a z : Nat} (hR : Reg l m a z) {i : Nat} (hi : a ≤ i) (hi2 : i < z) (hW : dm l i = 21 → W (((l, m), ((i + 1 : Nat) : Int), ((mN m i : Nat) : Int), ()), ()) = some (Wp (i + 1) (mN m i)) ∧ StepsI (Wp (i + 1) (mN m i))) {d : List Int} {D : Nat → Int} (hL : LD d D a z) (hD : ∀ k, StepsI (D k)) (zz : Int) :
  ∃ d', LD d' (ev bM Wp l m i D) a z ∧ B8 n W zz (i : Int) l m (a : Int) d = some (zz, (i : Int), l, m, (a : Int), d') := by
 obtain ⟨l1, l2⟩ := hF.len
 have hlt := hR.lt
 have hdl := hL.len
 have hat := hL.at_ i hi (by omega)
 have hr := hF.right (show i < l.length by omega)
 have hm := hF.nest.hm
 unfold B8
 simp only [gP hi (show i < 1000000 by omega), ai, dk (show i < 1000000 by omega), if_pos (dh (show i < l.length by omega)), if_pos (dh (show i < m.length by omega)), if_pos (dh (show i - a < d.length by omega)), gP (show a ≤ i + 1 by omega) (show i + 1 < 1000000 by omega), hat]
 by_cases hn : D i = -1
 ·refine ⟨d, ?_, ?_⟩
  ·unfold ev
   rw [if_pos hn]
   exact hL
  ·rw [if_pos (by simpa only [ag] using hn)]
 ·rw [if_neg (by simpa only [ag] using hn)]
  have hDi : 0 ≤ D i ∧ D i ≤ 1048577 := by
   rcases hD i with h1 | h1
   ·exact absurd h1 hn
   ·exact h1
  by_cases h21 : (l.getD i (0, 0, 0)).1 = 21
  ·rw [if_pos (show ((l.getD i (0, 0, 0)).1 == 21) = true by simpa only [ag] using h21)]
   obtain ⟨j, j1, j2, j3⟩ := hR.loop i hi hi2 (isOpen_iff.2 (.inl h21))
   have hj : mN m i = j := by unfold mN; rw [j1]; rfl
   have hA : 1 ≤ dT l i ∧ dT l i ≤ 1000 := by
    unfold dT
    generalize l.getD i (0, 0, 0) = x at *
    obtain ⟨o, A, B⟩ := x
    simp only at h21
    subst h21
    exact yz hr
   obtain ⟨w1, w2⟩ := hW h21
   have hc : ez Wp l m i = gx (Wp (i + 1) (mN m i)) (dT l i) := by unfold ez; rw [if_pos h21]
   have hlo := Bd w2 hA
   rw [pa n W (by omega) hm (by omega) (by rw [hj]; exact j1) w1 w2 hA, ae, ← hc]
   rw [← hc] at hlo
   rw [iQ n (by omega) hDi.2 (by omega) hlo.2, ae]
   simp only [j1, dk (show j < 1000000 by omega), gP (show a ≤ j + 1 by omega) (show j + 1 < 1000000 by omega), ai]
   refine ⟨_, ?_, ot n (show j + 1 - a < d.length by omega) (dp (D i) (ez Wp l m i)) fun d' => some (zz, (i : Int), l, m, (a : Int), d')⟩
   have := hL.put bM (show a ≤ j + 1 by omega) (show j + 1 ≤ z by omega) (dp (D i) (ez Wp l m i))
   unfold ev eQ
   rw [if_neg hn, if_pos h21, hj]
   exact this
  ·rw [if_neg (show ¬ ((l.getD i (0, 0, 0)).1 == 21) = true by simpa only [ag] using h21)]
   have hc : ez Wp l m i = 1 := by unfold ez; rw [if_neg h21]
   rw [iQ n (by omega) hDi.2 (by decide) (by decide)]
   simp only [ae]
   by_cases h19 : (l.getD i (0, 0, 0)).1 = 19
   ·rw [if_pos (show ((l.getD i (0, 0, 0)).1 == 19) = true by simpa only [ag] using h19)]
    have hjt := hR.jump i hi hi2 (.inl h19)
    have hji : i < dv l i := by unfold dv; omega
    simp only [pn (show l.length < 1000000 by omega) (show i < l.length by omega) hr (.inl h19), gP (show a ≤ dv l i by omega) (show dv l i < 1000000 by omega), ai]
    refine ⟨_, ?_, ot n (show dv l i - a < d.length by omega) (dp (D i) 1) fun d' => some (zz, (i : Int), l, m, (a : Int), d')⟩
    have := hL.put bM (show a ≤ dv l i by omega) hjt (dp (D i) 1)
    unfold ev eQ
    rw [if_neg hn, if_neg h21, if_pos h19, hc]
    exact this
   ·rw [if_neg (show ¬ ((l.getD i (0, 0, 0)).1 == 19) = true by simpa only [ag] using h19)]
    by_cases h20 : (l.getD i (0, 0, 0)).1 = 20
    ·rw [if_pos (show ((l.getD i (0, 0, 0)).1 == 20) = true by simpa only [ag] using h20)]
     have hjt := hR.jump i hi hi2 (.inr h20)
     have hji : i < dv l i := by unfold dv; omega
     simp only [pn (show l.length < 1000000 by omega) (show i < l.length by omega) hr (.inr h20), gP (show a ≤ dv l i by omega) (show dv l i < 1000000 by omega), ai]
     have h1 := hL.put bM (show a ≤ dv l i by omega) hjt (dp (D i) 1)
     have h2 := h1.put bM (show a ≤ i + 1 by omega) (show i + 1 ≤ z by omega) (dp (D i) 1)
     refine ⟨_, ?_, (ot n (show dv l i - a < d.length by omega) (dp (D i) 1) fun d1 => (if (decide (0 ≤ ((i + 1 - a : Nat) : Int)) && decide (((i + 1 - a : Nat) : Int) < (d1.length : Int))) = true then (if (d1.getD (i + 1 - a) 0 != (-1)) = true then ((fi n (d1.getD (i + 1 - a) 0) (dp (D i) 1)).bind fun y => if (decide (0 ≤ ((i + 1 - a : Nat) : Int)) && decide (((i + 1 - a : Nat) : Int) < (d1.length : Int))) = true then some (zz, (i : Int), l, m, (a : Int), d1.set (i + 1 - a) y) else none) else (if (decide (0 ≤ ((i + 1 - a : Nat) : Int)) && decide (((i + 1 - a : Nat) : Int) < (d1.length : Int))) = true then some (zz, (i : Int), l, m, (a : Int), d1.set (i + 1 - a) (dp (D i) 1)) else none)) else none)).trans (ot n (by rw [aQ]; omega) (dp (D i) 1) fun d' => some (zz, (i : Int), l, m, (a : Int), d'))⟩
     unfold ev eQ
     rw [if_neg hn, if_neg h21, if_neg h19, if_pos h20, hc]
     exact h2
    ·rw [if_neg (show ¬ ((l.getD i (0, 0, 0)).1 == 20) = true by simpa only [ag] using h20)]
     refine ⟨_, ?_, ot n (show i + 1 - a < d.length by omega) (dp (D i) 1) fun d' => some (zz, (i : Int), l, m, (a : Int), d')⟩
     have := hL.put bM (show a ≤ i + 1 by omega) (show i + 1 ≤ z by omega) (dp (D i) 1)
     unfold ev eQ
     rw [if_neg hn, if_neg h21, if_neg h19, if_neg h20, hc]
     exact this
theorem xN (n : Nat) (x y : Int) : eh n x y = some (bM x y) := rfl
theorem ou (n : Nat) {d : List Int} {k : Nat} (hk : k < d.length) (v : Int) {R : Type} (K : List Int → Option R) :
  (if (decide (0 ≤ (k : Int)) && decide ((k : Int) < (d.length : Int))) = true then (if (d.getD k 0 != (-1)) = true then ((eh n (d.getD k 0) v).bind fun y => if (decide (0 ≤ (k : Int)) && decide ((k : Int) < (d.length : Int))) = true then K (d.set k y) else none) else (if (decide (0 ≤ (k : Int)) && decide ((k : Int) < (d.length : Int))) = true then K (d.set k v) else none)) else none) = K (d.set k (if d.getD k 0 = -1 then v else bM (d.getD k 0) v)) := by
 simp only [if_pos (dh hk), xN, ae]
 by_cases h : d.getD k 0 = -1
 ·rw [if_neg (fun h2 => (aj.1 h2) h), if_pos h]
 ·rw [if_pos (aj.2 h), if_neg h]
theorem rx (n : Nat) (W : ((((List (Int × (Int × Int))) × (List Int)) × Int × Int × Unit) × Unit) → Option Int) {l : List da} {m : List Int} (hl : l.length < 1000000) (hm : m.length = l.length) {i : Nat} (hi : i < l.length) {w : Int} (hj : m.getD i 0 = ((mN m i : Nat) : Int)) (hW : W (((l, m), ((i + 1 : Nat) : Int), ((mN m i : Nat) : Int), ()), ()) = some w) (hw : StepsI w) (hA : 1 ≤ dT l i ∧ dT l i ≤ 1000) : fX n W (l, m) (i : Int) = some (gx w (dT l i)) := by
 unfold fX gx
 simp only [ai, dk (show i < 1000000 by omega), if_pos (dh hi), if_pos (dh (show i < m.length by omega)), hj, hW, ae]
 have hw2 : -1 ≤ w ∧ w ≤ 1048577 := by rcases hw with rfl | h <;> omega
 rw [iQ n hw2.1 hw2.2 (by decide) (by decide), ae]
 have h1 : 0 ≤ dp w 1 ∧ dp w 1 ≤ 1048577 := by
  rcases hw with rfl | h
  ·decide
  ·exact fH h.1 (by decide)
 generalize dp w 1 = x at h1 ⊢
 by_cases hx : x = 1048577
 ·rw [if_pos (by simpa only [ag] using hx), if_pos hx]
 ·rw [if_neg (by simpa only [ag] using hx), if_neg hx]
  unfold dT at hA ⊢
  generalize (l.getD i (0, 0, 0)).2.1 = A at hA ⊢
  have hb : 0 ≤ A * x ∧ A * x ≤ 1000 * 1048577 := ⟨cu (by omega) h1.1, Int.mul_le_mul hA.2 h1.2 h1.1 (by decide)⟩
  rw [dI (e := A * x) (by omega) (by omega), dI (by omega) (by omega)]
  rfl
theorem V4 (n : Nat) (W : ((((List (Int × (Int × Int))) × (List Int)) × Int × Int × Unit) × Unit) → Option Int) {l : List da} {m h : List Int} (hF : Fine l m h) {Wp : Nat → Nat → Int} {a z : Nat} (hR : Reg l m a z) {i : Nat} (hi : a ≤ i) (hi2 : i < z) (hW : dm l i = 21 → W (((l, m), ((i + 1 : Nat) : Int), ((mN m i : Nat) : Int), ()), ()) = some (Wp (i + 1) (mN m i)) ∧ StepsI (Wp (i + 1) (mN m i))) {d : List Int} {D : Nat → Int} (hL : LD d D a z) (hD : ∀ k, StepsI (D k)) (zz : Int) :
  ∃ d', LD d' (ev bM Wp l m i D) a z ∧ Ca n W zz (i : Int) l m (a : Int) d = some (zz, (i : Int), l, m, (a : Int), d') := by
 obtain ⟨l1, l2⟩ := hF.len
 have hlt := hR.lt
 have hdl := hL.len
 have hat := hL.at_ i hi (by omega)
 have hr := hF.right (show i < l.length by omega)
 have hm := hF.nest.hm
 unfold Ca
 simp only [gP hi (show i < 1000000 by omega), ai, dk (show i < 1000000 by omega), if_pos (dh (show i < l.length by omega)), if_pos (dh (show i < m.length by omega)), if_pos (dh (show i - a < d.length by omega)), gP (show a ≤ i + 1 by omega) (show i + 1 < 1000000 by omega), hat]
 by_cases hn : D i = -1
 ·refine ⟨d, ?_, ?_⟩
  ·unfold ev
   rw [if_pos hn]
   exact hL
  ·rw [if_pos (by simpa only [ag] using hn)]
 ·rw [if_neg (by simpa only [ag] using hn)]
  have hDi : 0 ≤ D i ∧ D i ≤ 1048577 := by
   rcases hD i with h1 | h1
   ·exact absurd h1 hn
   ·exact h1
  by_cases h21 : (l.getD i (0, 0, 0)).1 = 21
  ·rw [if_pos (show ((l.getD i (0, 0, 0)).1 == 21) = true by simpa only [ag] using h21)]
   obtain ⟨j, j1, j2, j3⟩ := hR.loop i hi hi2 (isOpen_iff.2 (.inl h21))
   have hj : mN m i = j := by unfold mN; rw [j1]; rfl
   have hA : 1 ≤ dT l i ∧ dT l i ≤ 1000 := by
    unfold dT
    generalize l.getD i (0, 0, 0) = x at *
    obtain ⟨o, A, B⟩ := x
    simp only at h21
    subst h21
    exact yz hr
   obtain ⟨w1, w2⟩ := hW h21
   have hc : ez Wp l m i = gx (Wp (i + 1) (mN m i)) (dT l i) := by unfold ez; rw [if_pos h21]
   have hlo := Bd w2 hA
   rw [rx n W (by omega) hm (by omega) (by rw [hj]; exact j1) w1 w2 hA, ae, ← hc]
   rw [← hc] at hlo
   rw [iQ n (by omega) hDi.2 (by omega) hlo.2, ae]
   simp only [j1, dk (show j < 1000000 by omega), gP (show a ≤ j + 1 by omega) (show j + 1 < 1000000 by omega), ai]
   refine ⟨_, ?_, ou n (show j + 1 - a < d.length by omega) (dp (D i) (ez Wp l m i)) fun d' => some (zz, (i : Int), l, m, (a : Int), d')⟩
   have := hL.put bM (show a ≤ j + 1 by omega) (show j + 1 ≤ z by omega) (dp (D i) (ez Wp l m i))
   unfold ev eQ
   rw [if_neg hn, if_pos h21, hj]
   exact this
  ·rw [if_neg (show ¬ ((l.getD i (0, 0, 0)).1 == 21) = true by simpa only [ag] using h21)]
   have hc : ez Wp l m i = 1 := by unfold ez; rw [if_neg h21]
   rw [iQ n (by omega) hDi.2 (by decide) (by decide)]
   simp only [ae]
   by_cases h19 : (l.getD i (0, 0, 0)).1 = 19
   ·rw [if_pos (show ((l.getD i (0, 0, 0)).1 == 19) = true by simpa only [ag] using h19)]
    have hjt := hR.jump i hi hi2 (.inl h19)
    have hji : i < dv l i := by unfold dv; omega
    simp only [pn (show l.length < 1000000 by omega) (show i < l.length by omega) hr (.inl h19), gP (show a ≤ dv l i by omega) (show dv l i < 1000000 by omega), ai]
    refine ⟨_, ?_, ou n (show dv l i - a < d.length by omega) (dp (D i) 1) fun d' => some (zz, (i : Int), l, m, (a : Int), d')⟩
    have := hL.put bM (show a ≤ dv l i by omega) hjt (dp (D i) 1)
    unfold ev eQ
    rw [if_neg hn, if_neg h21, if_pos h19, hc]
    exact this
   ·rw [if_neg (show ¬ ((l.getD i (0, 0, 0)).1 == 19) = true by simpa only [ag] using h19)]
    by_cases h20 : (l.getD i (0, 0, 0)).1 = 20
    ·rw [if_pos (show ((l.getD i (0, 0, 0)).1 == 20) = true by simpa only [ag] using h20)]
     have hjt := hR.jump i hi hi2 (.inr h20)
     have hji : i < dv l i := by unfold dv; omega
     simp only [pn (show l.length < 1000000 by omega) (show i < l.length by omega) hr (.inr h20), gP (show a ≤ dv l i by omega) (show dv l i < 1000000 by omega), ai]
     have h1 := hL.put bM (show a ≤ dv l i by omega) hjt (dp (D i) 1)
     have h2 := h1.put bM (show a ≤ i + 1 by omega) (show i + 1 ≤ z by omega) (dp (D i) 1)
     refine ⟨_, ?_, (ou n (show dv l i - a < d.length by omega) (dp (D i) 1) fun d1 => (if (decide (0 ≤ ((i + 1 - a : Nat) : Int)) && decide (((i + 1 - a : Nat) : Int) < (d1.length : Int))) = true then (if (d1.getD (i + 1 - a) 0 != (-1)) = true then ((eh n (d1.getD (i + 1 - a) 0) (dp (D i) 1)).bind fun y => if (decide (0 ≤ ((i + 1 - a : Nat) : Int)) && decide (((i + 1 - a : Nat) : Int) < (d1.length : Int))) = true then some (zz, (i : Int), l, m, (a : Int), d1.set (i + 1 - a) y) else none) else (if (decide (0 ≤ ((i + 1 - a : Nat) : Int)) && decide (((i + 1 - a : Nat) : Int) < (d1.length : Int))) = true then some (zz, (i : Int), l, m, (a : Int), d1.set (i + 1 - a) (dp (D i) 1)) else none)) else none)).trans (ou n (by rw [aQ]; omega) (dp (D i) 1) fun d' => some (zz, (i : Int), l, m, (a : Int), d'))⟩
     unfold ev eQ
     rw [if_neg hn, if_neg h21, if_neg h19, if_pos h20, hc]
     exact h2
    ·rw [if_neg (show ¬ ((l.getD i (0, 0, 0)).1 == 20) = true by simpa only [ag] using h20)]
     refine ⟨_, ?_, ou n (show i + 1 - a < d.length by omega) (dp (D i) 1) fun d' => some (zz, (i : Int), l, m, (a : Int), d')⟩
     have := hL.put bM (show a ≤ i + 1 by omega) (show i + 1 ≤ z by omega) (dp (D i) 1)
     unfold ev eQ
     rw [if_neg hn, if_neg h21, if_neg h19, if_neg h20, hc]
     exact this
def qV (d : List Int) : Nat → Nat → List Int
 | 0, _ => d
 | r + 1, k => qV (d.set (k + 1) (-1)) r (k + 1)
theorem Js : ∀ (r k : Nat) {d : List Int}, (qV d r k).length = d.length
 | 0, k, d => rfl
 | r + 1, k, d => (Js r (k + 1)).trans (aQ ..)
theorem Mg : ∀ (r k : Nat) {d : List Int} (j : Nat), k + r < d.length → (qV d r k).getD j 0 = if k < j ∧ j ≤ k + r then -1 else d.getD j 0
 | 0, k, d, j, h => by rw [if_neg (by omega)]; rfl
 | r + 1, k, d, j, h => by
  rw [show qV d (r + 1) k = qV (d.set (k + 1) (-1)) r (k + 1) from rfl, Mg r (k + 1) j (by rw [aQ]; omega), ej (by omega)]
  by_cases h1 : k + 1 < j ∧ j ≤ k + 1 + r
  ·rw [if_pos h1, if_pos (by omega)]
  ·rw [if_neg h1]
   by_cases h2 : j = k + 1
   ·rw [if_pos h2, if_pos (by omega)]
   ·rw [if_neg h2, if_neg (by omega)]
theorem CH {a z : Nat} (h : a ≤ z) : LD (qV (List.replicate (z - a + 1) 0) (z - a) 0) (fv a) a z := by
 refine ⟨by rw [Js, bp], fun k h1 h2 => ?_⟩
 rw [Mg _ _ _ (by rw [bp]; omega)]
 unfold fv
 by_cases e : k = a
 ·subst e
  rw [if_neg (by omega), if_pos rfl, bc]
  rfl
 ·rw [if_pos (by omega), if_neg e]
theorem Mh {a z : Nat} (h : a ≤ z) (hz : z < 1000000) : wrap .i64 (wrap .i64 ((z : Int) - (a : Int)) + 1) = ((z - a + 1 : Nat) : Int) := by
 rw [gP h hz, dk (by omega)]
theorem F7 (n : Nat) (W : ((((List (Int × (Int × Int))) × (List Int)) × Int × Int × Unit) × Unit) → Option Int) {l : List da} {m : List Int} {zz aa : Int} {c : Nat} (hc : c < 1000000) : ∀ (f k : Nat) {d : List Int}, d.length = c + 1 → k ≤ c → c < f + k →
  it (fun F (x : Int × Int × Int × (List (Int × (Int × Int))) × (List Int) × Int × (List Int)) => rR n W F x.1 x.2.1 x.2.2.1 x.2.2.2.1 x.2.2.2.2.1 x.2.2.2.2.2.1 x.2.2.2.2.2.2) f (zz, (c : Int), (k : Int), l, m, aa, d) = some (zz, l, m, aa, qV d (c - k) k)
 | 0, k, d, hd, hk, hf => by omega
 | f + 1, k, d, hd, hk, hf => by
  have ih := fun {d : List Int} => F7 n W (l := l) (m := m) (zz := zz) (aa := aa) hc f (k + 1) (d := d)
  show rR n W (it _ f) zz (c : Int) (k : Int) l m aa d = _
  generalize it (fun F (x : Int × Int × Int × (List (Int × (Int × Int))) × (List Int) × Int × (List Int)) => rR n W F x.1 x.2.1 x.2.2.1 x.2.2.2.1 x.2.2.2.2.1 x.2.2.2.2.2.1 x.2.2.2.2.2.2) f = F at ih ⊢
  unfold rR
  rcases ak k c with hlt | hge
  ·rw [if_pos (af (by omega)), dk (by omega), if_pos (dh (by omega)), ai, ih (by rw [aQ, hd]) (by omega) (by omega), show c - k = (c - (k + 1)) + 1 by omega]
   rfl
  ·have : k = c := by omega
   subst this
   rw [if_neg (by simp), bc]
   rfl
theorem Jt (n : Nat) (W : ((((List (Int × (Int × Int))) × (List Int)) × Int × Int × Unit) × Unit) → Option Int) {l : List da} {m h : List Int} (hF : Fine l m h) {Wp : Nat → Nat → Int} {a z : Nat} (hR : Reg l m a z) (hW : ∀ i, a ≤ i → i < z → dm l i = 21 → W (((l, m), ((i + 1 : Nat) : Int), ((mN m i : Nat) : Int), ()), ()) = some (Wp (i + 1) (mN m i)) ∧ StepsI (Wp (i + 1) (mN m i))) : ∀ (f i : Nat) {d : List Int} {D : Nat → Int}, LD d D a z → (∀ k, StepsI (D k)) → a ≤ i → i ≤ z → z < f + i → ∃ d', LD d' (eR bM Wp l m (z - i) i D) a z ∧
  it (fun F (x : Int × Int × (List (Int × (Int × Int))) × (List Int) × Int × (List Int)) => rS n W F x.1 x.2.1 x.2.2.1 x.2.2.2.1 x.2.2.2.2.1 x.2.2.2.2.2) f ((z : Int), (i : Int), l, m, (a : Int), d) = some ((z : Int), l, m, (a : Int), d')
 | 0, i, d, D, hL, hD, h1, h2, hf => by omega
 | f + 1, i, d, D, hL, hD, h1, h2, hf => by
  have ih := fun {d : List Int} {D : Nat → Int} => Jt n W hF hR hW f (i + 1) (d := d) (D := D)
  show ∃ d', _ ∧ rS n W (it _ f) (z : Int) (i : Int) l m (a : Int) d = _
  generalize it (fun F (x : Int × Int × (List (Int × (Int × Int))) × (List Int) × Int × (List Int)) => rS n W F x.1 x.2.1 x.2.2.1 x.2.2.2.1 x.2.2.2.2.1 x.2.2.2.2.2) f = F at ih ⊢
  obtain ⟨l1, l2⟩ := hF.len
  have hlt := hR.lt
  unfold rS
  rcases ak i z with hiz | hge
  ·obtain ⟨d1, k1, k2⟩ := V3 n W hF hR h1 hiz (hW i h1 hiz) hL hD (z : Int)
   rw [if_pos (af (by omega)), k2, ae]
   simp only
   rw [dk (by omega), show z - i = (z - (i + 1)) + 1 by omega]
   exact ih k1 (f5 eM hD (hF.right (by omega)) fun h => (hW i h1 hiz h).2) (by omega) (by omega) (by omega)
  ·have : i = z := by omega
   subst this
   rw [if_neg (by simp), bc]
   exact ⟨d, hL, rfl⟩
theorem Y4 (n : Nat) (W : ((((List (Int × (Int × Int))) × (List Int)) × Int × Int × Unit) × Unit) → Option Int) {l : List da} {m h : List Int} (hF : Fine l m h) (hn : l.length < n) {Wp : Nat → Nat → Int} {a z : Nat} (hR : Reg l m a z) (hW : ∀ i, a ≤ i → i < z → dm l i = 21 → W (((l, m), ((i + 1 : Nat) : Int), ((mN m i : Nat) : Int), ()), ()) = some (Wp (i + 1) (mN m i)) ∧ StepsI (Wp (i + 1) (mN m i))) :
  tz n W (l, m) (a : Int) (z : Int) = some (eR bM Wp l m (z - a) a (fv a) z) := by
 obtain ⟨l1, l2⟩ := hF.len
 have hle := hR.le
 have hlt := hR.lt
 unfold tz Am Ap
 have c1 : (decide (0 ≤ ((z - a + 1 : Nat) : Int)) && (((z - a + 1 : Nat) : Int) == ((z - a + 1 : Nat) : Int)) && decide (((z - a + 1 : Nat) : Int) * (8 : Int) ≤ 140737488355328) && decide (1 ≤ 8)) = true := by simp; omega
 have c2 : (decide (0 ≤ 1) && decide (1 ≤ ((z - a + 1 : Nat) : Int))) = true := by simp; omega
 simp only [Mh hle (show z < 1000000 by omega), ai, bp, cv]
 have h0 := F7 n W (l := l) (m := m) (zz := (z : Int)) (aa := (a : Int)) (c := z - a) (by omega) n 0 (d := List.replicate (z - a + 1) 0) (by rw [bp]) (am _) (by omega)
 rw [show ((0 : Nat) : Int) = 0 from rfl, bu] at h0
 obtain ⟨d', k1, k2⟩ := Jt n W hF hR hW n a (CH hle) (gQ a) (aq _) hle (by omega)
 rw [if_pos c1, if_pos c2, h0, ae]
 simp only
 rw [k2, ae]
 simp only [gP hle (show z < 1000000 by omega), ai]
 rw [if_pos (dh (by rw [k1.len]; omega)), k1.at_ z hle (aq _)]
theorem Mi (n : Nat) {l : List da} {m h : List Int} (hF : Fine l m h) (hn : l.length < n) : ∀ (g : Nat) {a z : Nat}, Reg l m a z → z - a < g →
  it (fun (W : ((((List (Int × (Int × Int))) × (List Int)) × Int × Int × Unit) × Unit) → Option Int) x => tz n W x.1.1 x.1.2.1 x.1.2.2.1) g (((l, m), (a : Int), (z : Int), ()), ()) = some (ec bM l m g a z)
 | 0, a, z, hR, hg => by omega
 | g + 1, a, z, hR, hg => by
  have hlt := hR.lt
  have ih := fun {a z : Nat} => Mi n hF hn g (a := a) (z := z)
  show tz n (it _ g) (l, m) (a : Int) (z : Int) = _
  refine Y4 n _ hF hn hR fun i h1 h2 h3 => ?_
  have ho := isOpen_iff.2 (Or.inl (b := dm l i = 23) h3)
  have hRi := hF.reg (show i < l.length by omega) ho
  obtain ⟨j, j1, j2, j3⟩ := hR.loop i h1 h2 ho
  have hj : mN m i = j := by unfold mN; rw [j1]; rfl
  exact ⟨ih hRi (by omega), j7 eM hF g hRi⟩
theorem V5 (n : Nat) {l : List da} {m h : List Int} (hF : Fine l m h) (hn : l.length < n) {a z : Nat} (hR : Reg l m a z) : Nq n (l, m) (a : Int) (z : Int) = some (ec bM l m n a z) := by
 have := hR.lt
 exact Mi n hF hn n hR (by omega)
theorem F8 (n : Nat) (W : ((((List (Int × (Int × Int))) × (List Int)) × Int × Int × Unit) × Unit) → Option Int) {l : List da} {m : List Int} {zz aa : Int} {c : Nat} (hc : c < 1000000) : ∀ (f k : Nat) {d : List Int}, d.length = c + 1 → k ≤ c → c < f + k →
  it (fun F (x : Int × Int × Int × (List (Int × (Int × Int))) × (List Int) × Int × (List Int)) => rZ n W F x.1 x.2.1 x.2.2.1 x.2.2.2.1 x.2.2.2.2.1 x.2.2.2.2.2.1 x.2.2.2.2.2.2) f (zz, (c : Int), (k : Int), l, m, aa, d) = some (zz, l, m, aa, qV d (c - k) k)
 | 0, k, d, hd, hk, hf => by omega
 | f + 1, k, d, hd, hk, hf => by
  have ih := fun {d : List Int} => F8 n W (l := l) (m := m) (zz := zz) (aa := aa) hc f (k + 1) (d := d)
  show rZ n W (it _ f) zz (c : Int) (k : Int) l m aa d = _
  generalize it (fun F (x : Int × Int × Int × (List (Int × (Int × Int))) × (List Int) × Int × (List Int)) => rZ n W F x.1 x.2.1 x.2.2.1 x.2.2.2.1 x.2.2.2.2.1 x.2.2.2.2.2.1 x.2.2.2.2.2.2) f = F at ih ⊢
  unfold rZ
  rcases ak k c with hlt | hge
  ·rw [if_pos (af (by omega)), dk (by omega), if_pos (dh (by omega)), ai, ih (by rw [aQ, hd]) (by omega) (by omega), show c - k = (c - (k + 1)) + 1 by omega]
   rfl
  ·have : k = c := by omega
   subst this
   rw [if_neg (by simp), bc]
   rfl
theorem Ju (n : Nat) (W : ((((List (Int × (Int × Int))) × (List Int)) × Int × Int × Unit) × Unit) → Option Int) {l : List da} {m h : List Int} (hF : Fine l m h) {Wp : Nat → Nat → Int} {a z : Nat} (hR : Reg l m a z) (hW : ∀ i, a ≤ i → i < z → dm l i = 21 → W (((l, m), ((i + 1 : Nat) : Int), ((mN m i : Nat) : Int), ()), ()) = some (Wp (i + 1) (mN m i)) ∧ StepsI (Wp (i + 1) (mN m i))) : ∀ (f i : Nat) {d : List Int} {D : Nat → Int}, LD d D a z → (∀ k, StepsI (D k)) → a ≤ i → i ≤ z → z < f + i → ∃ d', LD d' (eR bM Wp l m (z - i) i D) a z ∧
  it (fun F (x : Int × Int × (List (Int × (Int × Int))) × (List Int) × Int × (List Int)) => r4 n W F x.1 x.2.1 x.2.2.1 x.2.2.2.1 x.2.2.2.2.1 x.2.2.2.2.2) f ((z : Int), (i : Int), l, m, (a : Int), d) = some ((z : Int), l, m, (a : Int), d')
 | 0, i, d, D, hL, hD, h1, h2, hf => by omega
 | f + 1, i, d, D, hL, hD, h1, h2, hf => by
  have ih := fun {d : List Int} {D : Nat → Int} => Ju n W hF hR hW f (i + 1) (d := d) (D := D)
  show ∃ d', _ ∧ r4 n W (it _ f) (z : Int) (i : Int) l m (a : Int) d = _
  generalize it (fun F (x : Int × Int × (List (Int × (Int × Int))) × (List Int) × Int × (List Int)) => r4 n W F x.1 x.2.1 x.2.2.1 x.2.2.2.1 x.2.2.2.2.1 x.2.2.2.2.2) f = F at ih ⊢
  obtain ⟨l1, l2⟩ := hF.len
  have hlt := hR.lt
  unfold r4
  rcases ak i z with hiz | hge
  ·obtain ⟨d1, k1, k2⟩ := V4 n W hF hR h1 hiz (hW i h1 hiz) hL hD (z : Int)
   rw [if_pos (af (by omega)), k2, ae]
   simp only
   rw [dk (by omega), show z - i = (z - (i + 1)) + 1 by omega]
   exact ih k1 (f5 eM hD (hF.right (by omega)) fun h => (hW i h1 hiz h).2) (by omega) (by omega) (by omega)
  ·have : i = z := by omega
   subst this
   rw [if_neg (by simp), bc]
   exact ⟨d, hL, rfl⟩
theorem Y5 (n : Nat) (W : ((((List (Int × (Int × Int))) × (List Int)) × Int × Int × Unit) × Unit) → Option Int) {l : List da} {m h : List Int} (hF : Fine l m h) (hn : l.length < n) {Wp : Nat → Nat → Int} {a z : Nat} (hR : Reg l m a z) (hW : ∀ i, a ≤ i → i < z → dm l i = 21 → W (((l, m), ((i + 1 : Nat) : Int), ((mN m i : Nat) : Int), ()), ()) = some (Wp (i + 1) (mN m i)) ∧ StepsI (Wp (i + 1) (mN m i))) :
  tA n W (l, m) (a : Int) (z : Int) = some (eR bM Wp l m (z - a) a (fv a) z) := by
 obtain ⟨l1, l2⟩ := hF.len
 have hle := hR.le
 have hlt := hR.lt
 unfold tA At Av
 have c1 : (decide (0 ≤ ((z - a + 1 : Nat) : Int)) && (((z - a + 1 : Nat) : Int) == ((z - a + 1 : Nat) : Int)) && decide (((z - a + 1 : Nat) : Int) * (8 : Int) ≤ 140737488355328) && decide (1 ≤ 8)) = true := by simp; omega
 have c2 : (decide (0 ≤ 1) && decide (1 ≤ ((z - a + 1 : Nat) : Int))) = true := by simp; omega
 simp only [Mh hle (show z < 1000000 by omega), ai, bp, cv]
 have h0 := F8 n W (l := l) (m := m) (zz := (z : Int)) (aa := (a : Int)) (c := z - a) (by omega) n 0 (d := List.replicate (z - a + 1) 0) (by rw [bp]) (am _) (by omega)
 rw [show ((0 : Nat) : Int) = 0 from rfl, bu] at h0
 obtain ⟨d', k1, k2⟩ := Ju n W hF hR hW n a (CH hle) (gQ a) (aq _) hle (by omega)
 rw [if_pos c1, if_pos c2, h0, ae]
 simp only
 rw [k2, ae]
 simp only [gP hle (show z < 1000000 by omega), ai]
 rw [if_pos (dh (by rw [k1.len]; omega)), k1.at_ z hle (aq _)]
theorem Mj (n : Nat) {l : List da} {m h : List Int} (hF : Fine l m h) (hn : l.length < n) : ∀ (g : Nat) {a z : Nat}, Reg l m a z → z - a < g →
  it (fun (W : ((((List (Int × (Int × Int))) × (List Int)) × Int × Int × Unit) × Unit) → Option Int) x => tA n W x.1.1 x.1.2.1 x.1.2.2.1) g (((l, m), (a : Int), (z : Int), ()), ()) = some (ec bM l m g a z)
 | 0, a, z, hR, hg => by omega
 | g + 1, a, z, hR, hg => by
  have hlt := hR.lt
  have ih := fun {a z : Nat} => Mj n hF hn g (a := a) (z := z)
  show tA n (it _ g) (l, m) (a : Int) (z : Int) = _
  refine Y5 n _ hF hn hR fun i h1 h2 h3 => ?_
  have ho := isOpen_iff.2 (Or.inl (b := dm l i = 23) h3)
  have hRi := hF.reg (show i < l.length by omega) ho
  obtain ⟨j, j1, j2, j3⟩ := hR.loop i h1 h2 ho
  have hj : mN m i = j := by unfold mN; rw [j1]; rfl
  exact ⟨ih hRi (by omega), j7 eM hF g hRi⟩
theorem V6 (n : Nat) {l : List da} {m h : List Int} (hF : Fine l m h) (hn : l.length < n) {a z : Nat} (hR : Reg l m a z) : Nr n (l, m) (a : Int) (z : Int) = some (ec bM l m n a z) := by
 have := hR.lt
 exact Mj n hF hn n hR (by omega)
theorem U4 {P : Nat → Prop} : ∀ {n : Nat}, P n → ∃ k, k ≤ n ∧ P k ∧ ∀ j, j < k → ¬ P j := by
 intro n
 induction n using Nat.strongRecOn with
 | _ n ih =>
  intro hn
  by_cases h : ∃ j, j < n ∧ P j
  ·obtain ⟨j, j1, j2⟩ := h
   obtain ⟨k, k1, k2, k3⟩ := ih j j1 j2
   exact ⟨k, by omega, k2, k3⟩
  ·exact ⟨n, aq _, hn, fun j hj hp => h ⟨j, hj, hp⟩⟩
theorem Jv {s : List Bool} {q k : Nat} (h : (s.set q true).getD k false = true) : s.getD k false = true ∨ k = q := by
 by_cases e : k = q
 ·exact .inr e
 ·refine .inl ?_
  rw [ar, List.getElem?_set_ne (fun h => e h.symm)] at h
  rw [ar]
  exact h
theorem CI {t : ByteArray} : ∀ (ks : List Nat) {f : gX} {k : Nat}, (ks.foldl (fun g q => ig q t g) f).2.1.getD k false = true → f.2.1.getD k false = true ∨ k ∈ ks
 | [], f, k, h => .inl h
 | q :: ks, f, k, h => by
  rcases CI ks h with h1 | h1
  ·rcases Jv h1 with h2 | h2
   ·exact .inl h2
   ·exact .inr (by rw [h2]; exact aB)
  ·exact .inr (ay _ h1)
theorem GN {l : List da} {m : List Int} {i : Nat} {f f' : gX} (hs : gu l m i f = .inr f') : f.2.1.getD i false = true ∧ ∀ k, f'.2.1.getD k false = true → f.2.1.getD k false = true ∨ k ∈ fu l i := by
 unfold gu at hs
 split at hs
 ·cases hs
 ·rename_i h1
  refine ⟨by simpa using h1, fun k hk => ?_⟩
  split at hs
  ·cases hs
  ·split at hs
   ·cases hs
   ·split at hs
    ·cases hs
    ·cases hs
     exact CI _ hk
theorem xO {l : List da} {m : List Int} : ∀ (r i : Nat) {f f' : gX}, ji l m r i f = .inr f' → (∀ k, f.2.1.getD k false = true → k = 0 ∨ ∃ p, p < i ∧ k ∈ fu l p) → ∀ k, i ≤ k → k < i + r → k = 0 ∨ ∃ p, p < k ∧ k ∈ fu l p
 | 0, i, f, f', hs, hI, k, h1, h2 => by omega
 | r + 1, i, f, f', hs, hI, k, h1, h2 => by
  simp only [ji] at hs
  cases hq : gu l m i f with
  | inl e => rw [hq] at hs; cases hs
  | inr f1 =>
   rw [hq] at hs
   obtain ⟨a1, a2⟩ := GN hq
   by_cases e : k = i
   ·subst e
    exact hI k a1
   ·refine xO r (i + 1) hs (fun k hk => ?_) k (by omega) (by omega)
    rcases a2 k hk with h3 | h3
    ·rcases hI k h3 with h4 | ⟨p, p1, p2⟩
     ·exact .inl h4
     ·exact .inr ⟨p, by omega, p2⟩
    ·exact .inr ⟨i, by omega, h3⟩
def Be (l : List da) : Prop := ∀ k, 0 < k → k < l.length → ∃ p, p < k ∧ k ∈ fu l p
theorem DR {l : List da} (h : f4 l = 0) : fc l = 0 ∧ Be l := by
 unfold f4 at h
 split at h
 ·rename_i hw
  exact absurd h hw
 ·rename_i hw
  have hw0 : fc l = 0 := by
   by_cases e : fc l = 0
   ·exact e
   ·exact absurd e hw
  refine ⟨hw0, fun k k1 k2 => ?_⟩
  cases hq : ji l (dw l).1 l.length 0 (kX l) with
  | inl e =>
   rw [hq] at h
   simp only at h
   subst h
   exfalso
   have key : ∀ (r i : Nat) {f : gX}, ji l (dw l).1 r i f ≠ .inl 0 := by
    intro r
    induction r with
    | zero => intro i f h; cases h
    | succ r ih =>
     intro i f h
     simp only [ji] at h
     cases hq : gu l (dw l).1 i f with
     | inr f1 => rw [hq] at h; exact ih (i + 1) h
     | inl e =>
      rw [hq] at h
      cases h
      unfold gu at hq
      split at hq
      ·cases hq
      ·split at hq
       ·cases hq
       ·split at hq
        ·cases hq
        ·split at hq
         ·rename_i h5
          exact h5 (Sum.inl.inj hq)
         ·cases hq
   exact key _ _ hq
  | inr f' =>
   have hI : ∀ k, (kX l).2.1.getD k false = true → k = 0 ∨ ∃ p, p < 0 ∧ k ∈ fu l p := fun k hk => by
    left
    unfold kX at hk
    rcases Jv hk with h2 | h2
    ·rw [ar, bW] at h2
     split at h2 <;> cases h2
    ·exact h2
   rcases xO l.length 0 hq hI k (am _) (by omega) with h1 | h1
   ·omega
   ·exact h1
theorem Fine.jump_enc {l : List da} {m h : List Int} (hF : Fine l m h) {i : Nat} (hi : i < l.length) (hj : dm l i = 19 ∨ dm l i = 20) (q : Nat) : enc l m q (dv l i) = enc l m q i := by
 obtain ⟨k1, k2⟩ := hF.jump hi hj
 rcases o8 l m i with hh | ⟨p, hh⟩
 ·rw [p7 hh q, p7 (k2.trans hh) q]
 ·obtain ⟨_, _, x3⟩ := jP hF.nest hi hh
  obtain ⟨_, _, y3⟩ := jP hF.nest k1 (k2.trans hh)
  rw [x3 q, y3 q]
theorem po {l : List da} {m : List Int} {q k j : Nat} (ho : dB l q = true) (hj : m.getD q 0 = (j : Int)) : enc l m q k = true ↔ q < k ∧ k ≤ j := by
 unfold enc
 rw [ho, hj]
 simp
def sF (l : List da) (m : List Int) (a z k : Nat) : Prop := a ≤ k ∧ k ≤ z ∧ ∀ q, a ≤ q → q < k → dm l q = 21 → mN m q < k
structure Way (l : List da) (m : List Int) (a z : Nat) : Prop where
 reg : Reg l m a z
 out : a = 0 ∨ ∃ p, a = p + 1 ∧ dB l p = true ∧ m.getD p 0 = (z : Int)
theorem Fine.way {l : List da} {m h : List Int} (hF : Fine l m h) {p : Nat} (hp : p < l.length) (ho : dB l p = true) : Way l m (p + 1) (mN m p) := by
 refine ⟨hF.reg hp ho, .inr ⟨p, rfl, ho, ?_⟩⟩
 obtain ⟨j, j1, _⟩ := hF.nest.open_ p hp ho
 unfold mN
 rw [j1]
 rfl
theorem Fine.wayAll {l : List da} {m h : List Int} (hF : Fine l m h) : Way l m 0 (l.length - 1) := ⟨hF.all, .inl rfl⟩
theorem yB {l : List da} {m h : List Int} (hF : Fine l m h) (hS : Be l) {a z : Nat} (hR : Way l m a z) {k : Nat} (hk : sF l m a z k) (hak : a < k) : ∃ p, sF l m a z p ∧ p < k ∧ k ∈ eQ l m p := by
 obtain ⟨k1, k2, k3⟩ := hk
 have hlt := hR.reg.lt
 obtain ⟨p, p1, p2⟩ := hS k (by omega) (by omega)
 have hpl : p < l.length := by omega
 have hcase : k = p + 1 ∨ ((dm l p = 19 ∨ dm l p = 20) ∧ k = dv l p) := by
  unfold fu at p2
  split at p2
  ·rename_i h1
   rw [aD] at p2
   exact .inr ⟨.inl h1, p2⟩
  ·split at p2
   ·rename_i h1 h2
    rw [aA, aD] at p2
    rcases p2 with h3 | h3
    ·exact .inl h3
    ·exact .inr ⟨.inr h2, h3⟩
   ·split at p2
    ·cases p2
    ·rw [aD] at p2
     exact .inl p2
 have hap : a ≤ p := by
  rcases hcase with h1 | ⟨h1, h2⟩
  ·omega
  ·rcases hR.out with h3 | ⟨o, o1, o2, o3⟩
   ·omega
   ·rcases ak p a with h4 | h4
    ·exfalso
     have e1 : enc l m o k = true := (po o2 o3).2 ⟨by omega, k2⟩
     rw [h2, hF.jump_enc hpl h1, po o2 o3] at e1
     omega
    ·exact h4
 by_cases hin : sF l m a z p
 ·refine ⟨p, hin, p1, ?_⟩
  unfold fu at p2
  unfold eQ
  by_cases h21 : dm l p = 21
  ·exfalso
   have hkp : k = p + 1 := by
    rcases hcase with h1 | ⟨h1, _⟩
    ·exact h1
    ·omega
   have := k3 p hap (by omega) h21
   obtain ⟨j, j1, j2, j3⟩ := hF.nest.open_ p hpl (isOpen_iff.2 (.inl h21))
   unfold mN at this
   rw [j1] at this
   have e : ((j : Int)).toNat = j := rfl
   omega
  ·rw [if_neg h21]
   by_cases h19 : dm l p = 19
   ·rw [if_pos h19] at p2 ⊢
    exact p2
   ·rw [if_neg h19] at p2 ⊢
    by_cases h20 : dm l p = 20
    ·rw [if_pos h20] at p2 ⊢
     rw [aA, aD] at p2 ⊢
     exact p2.symm
    ·rw [if_neg h20] at p2 ⊢
     split at p2
     ·cases p2
     ·exact p2
 ·have : ∃ q, a ≤ q ∧ q < p ∧ dm l q = 21 ∧ p ≤ mN m q := by
   apply cG
   intro hno
   refine hin ⟨hap, by omega, fun q q1 q2 q3 => ?_⟩
   rcases ak (mN m q) p with h1 | h1
   ·exact h1
   ·exact absurd ⟨q, q1, q2, q3, h1⟩ hno
  obtain ⟨q0, hq0⟩ := this
  obtain ⟨q, q1, ⟨q2, q3, q4, q5⟩, q6⟩ := U4 (P := fun q => a ≤ q ∧ q < p ∧ dm l q = 21 ∧ p ≤ mN m q) hq0
  have hqo : dB l q = true := isOpen_iff.2 (.inl q4)
  obtain ⟨j, j1, j2, j3⟩ := hF.nest.open_ q (by omega) hqo
  have hj : mN m q = j := by unfold mN; rw [j1]; rfl
  rw [hj] at q5
  have hqk := k3 q q2 (by omega) q4
  rw [hj] at hqk
  refine ⟨q, ⟨q2, by omega, fun q' a1 a2 a3 => ?_⟩, by omega, ?_⟩
  ·rcases ak (mN m q') q with h1 | h1
   ·exact h1
   ·exfalso
    have ho' : dB l q' = true := isOpen_iff.2 (.inl a3)
    obtain ⟨j', e1, e2, e3, e4, e5⟩ := hF.closed.op_ q' (by omega) ho'
    have hj' : mN m q' = j' := by unfold mN; rw [e1]; rfl
    rw [hj'] at h1
    have hne : j' ≠ q := fun e => by
     subst e
     rw [F3 e4] at hqo
     cases hqo
    obtain ⟨x, x1, x2⟩ := hF.nest.cross q' q j' a2 (by omega) (by omega) ho' hqo e1
    have : (x : Int) = (j : Int) := x1.symm.trans j1
    exact q6 q' a2 ⟨a1, by omega, a3, by rw [hj']; omega⟩
  ·rcases hcase with h1 | ⟨h1, h2⟩
   ·unfold eQ
    rw [if_pos q4, hj, aD]
    omega
   ·exfalso
    have e1 : enc l m q p = true := (po hqo j1).2 ⟨q3, q5⟩
    rw [← hF.jump_enc hpl h1, ← h2, po hqo j1] at e1
    omega
theorem xP {b : Int → Int → Int} (hb : zA b) {v : Int} (hv : v ≠ -1) : ∀ (ks : List Nat) {D : Nat → Int} {k : Nat}, D k ≠ -1 ∨ k ∈ ks → ks.foldl (fun g k => eF b g k v) D k ≠ -1
 | [], D, k, h => h.elim id fun h => by cases h
 | q :: ks, D, k, h => by
  refine xP hb hv ks (D := eF b D q v) ?_
  unfold eF
  by_cases e : k = q
  ·left
   rw [if_pos e]
   split
   ·exact hv
   ·rename_i h1
    rcases hb (D q) v with h2 | h2 <;> rw [h2]
    ·exact h1
    ·exact hv
  ·rw [if_neg e]
   rcases h with h | h
   ·exact .inl h
   ·rcases aA.1 h with h | h
    ·exact absurd h e
    ·exact .inr h
theorem F9 {b : Int → Int → Int} (hb : zA b) {W : Nat → Nat → Int} {l : List da} {m h : List Int} (hF : Fine l m h) (hS : Be l) {a z : Nat} (hR : Way l m a z) (hW : ∀ i, a ≤ i → i < z → dm l i = 21 → StepsI (W (i + 1) (mN m i))) : ∀ (r i : Nat) {D : Nat → Int}, (∀ k, StepsI (D k)) → a ≤ i → i + r = z → (∀ k, sF l m a z k → k = a ∨ (∃ p, sF l m a z p ∧ p < i ∧ k ∈ eQ l m p) → D k ≠ -1) → ∀ k, sF l m a z k → eR b W l m r i D k ≠ -1
 | 0, i, D, hD, hi, hz, hI, k, hk => by
  refine hI k hk ?_
  by_cases e : k = a
  ·exact .inl e
  ·obtain ⟨p, p1, p2, p3⟩ := yB hF hS hR hk (by have := hk.1; omega)
   exact .inr ⟨p, p1, by have := hk.2.1; omega, p3⟩
 | r + 1, i, D, hD, hi, hz, hI, k, hk => by
  have hlt := hR.reg.lt
  have hWi := hW i hi (by omega)
  have hr := hF.right (show i < l.length by omega)
  refine F9 hb hF hS hR hW r (i + 1) (f5 hb hD hr hWi) (by omega) (by omega) (fun j hj hp => ?_) k hk
  have old : D j ≠ -1 → ev b W l m i D j ≠ -1 := fun h => by
   unfold ev
   split
   ·exact h
   ·rename_i h1
    have hDi : 0 ≤ D i := by
     rcases hD i with h2 | h2
     ·exact absurd h2 h1
     ·exact h2.1
    have := fH hDi (iP hr hWi).1
    exact xP hb (by omega) _ (.inl h)
  rcases hp with h1 | ⟨p, p1, p2, p3⟩
  ·exact old (hI j hj (.inl h1))
  ·by_cases e : p = i
   ·subst e
    have hDp : D p ≠ -1 := by
     refine hI p p1 ?_
     by_cases e : p = a
     ·exact .inl e
     ·obtain ⟨p', a1, a2, a3⟩ := yB hF hS hR p1 (by omega)
      exact .inr ⟨p', a1, a2, a3⟩
    have hDp0 : 0 ≤ D p := by
     rcases hD p with h2 | h2
     ·exact absurd h2 hDp
     ·exact h2.1
    unfold ev
    rw [if_neg hDp]
    have := fH hDp0 (iP hr hWi).1
    exact xP hb (by omega) _ (.inr p3)
   ·exact old (hI j hj (.inr ⟨p, p1, by omega, p3⟩))
theorem ND {l : List da} {m h : List Int} {a z : Nat} (hR : Way l m a z) : sF l m a z z := by
 refine ⟨hR.reg.le, aq _, fun q h1 h2 h3 => ?_⟩
 obtain ⟨j, j1, j2, j3⟩ := hR.reg.loop q h1 h2 (isOpen_iff.2 (.inl h3))
 unfold mN
 rw [j1]
 exact j3
theorem lS {b : Int → Int → Int} (hb : zA b) {l : List da} {m h : List Int} (hF : Fine l m h) (hS : Be l) (f : Nat) {a z : Nat} (hR : Way l m a z) : 0 ≤ ec b l m f a z ∧ ec b l m f a z ≤ 1048577 := by
 have h0 := j7 hb hF f hR.reg
 have hlt := hR.reg.lt
 have hle := hR.reg.le
 cases f with
 | zero => exact ⟨aH _, by show (0 : Int) ≤ 1048577; decide⟩
 | succ f =>
  have h1 : ec b l m (f + 1) a z ≠ -1 := by
   refine F9 hb hF hS hR (fun i i1 i2 i3 => j7 hb hF f (hF.reg (by omega) (isOpen_iff.2 (.inl i3)))) (z - a) a (gQ a) (aq _) (by omega) (fun k hk hp => ?_) z (ND (h := h) hR)
   rcases hp with e | ⟨p, p1, p2, _⟩
   ·subst e
    unfold fv
    rw [if_pos rfl]
    decide
   ·have := p1.1
    omega
  rcases h0 with h2 | h2
  ·exact absurd h2 h1
  ·exact h2
structure LQ (d : List Int) (s : List Bool) (D : Nat → Int) (a z : Nat) : Prop where
 dl : d.length = z - a + 1
 sl : s.length = z - a + 1
 at_ : ∀ k, a ≤ k → k ≤ z → d.getD (k - a) 0 = (if D k = -1 then 0 else D k) ∧ s.getD (k - a) false = (D k != -1)
theorem RF {l : List Bool} {i j : Nat} {v d : Bool} (h : i < l.length) : (l.set i v).getD j d = if j = i then v else l.getD j d := ej h
theorem LQ.put {d : List Int} {s : List Bool} {D : Nat → Int} {a z : Nat} (h : LQ d s D a z) (b : Int → Int → Int) {k : Nat} (hk : a ≤ k) (hk2 : k ≤ z) {v x : Int} (hx : x = if D k = -1 then v else b (D k) v) (hx0 : x ≠ -1) : LQ (d.set (k - a) x) (s.set (k - a) true) (eF b D k v) a z := by
 have h1 := h.dl
 have h2 := h.sl
 refine ⟨by rw [aQ, h1], by rw [aQ, h2], fun j j1 j2 => ?_⟩
 rw [ej (by omega), RF (by omega)]
 unfold eF
 by_cases e : j = k
 ·subst e
  rw [if_pos rfl, if_pos rfl, if_pos rfl, ← hx, if_neg hx0]
  exact ⟨rfl, (aj.2 hx0).symm⟩
 ·have e3 : ¬ (j - a = k - a) := by omega
  simp only [e3, e, ax]
  exact h.at_ j j1 j2
theorem LQ.same {d : List Int} {s : List Bool} {D : Nat → Int} {a z : Nat} (h : LQ d s D a z) (b : Int → Int → Int) {k : Nat} {v : Int} (h1 : D k ≠ -1) (h2 : b (D k) v = D k) : LQ d s (eF b D k v) a z := by
 refine ⟨h.dl, h.sl, fun j j1 j2 => ?_⟩
 unfold eF
 by_cases e : j = k
 ·subst e
  rw [if_pos rfl, if_neg h1, h2]
  exact h.at_ j j1 j2
 ·rw [if_neg e]
  exact h.at_ j j1 j2
def eS (b : Int → Int → Int) (n : Nat) (l : List da) : Int × Int :=
 if el l ≠ 0 then (0, el l) else if f4 l ≠ 0 then (0, f4 l)
 else if dp (ec b l (dw l).1 n 0 (l.length - 1)) 1 = 1048577 then (0, 4) else (dp (ec b l (dw l).1 n 0 (l.length - 1)) 1, 0)
theorem gY {l : List da} (h : el l = 0) : fc l = 0 := by
 unfold el at h
 split at h
 ·exact h
 ·rename_i h1
  by_cases e : fc l = 0
  ·exact e
  ·exact absurd e h1
theorem V7 {k : Nat} (h : 0 < k) (h2 : k < 1000000) : wrap .i64 ((k : Int) - 1) = ((k - 1 : Nat) : Int) := yx h h2
theorem NE (n : Nat) (l : List da) (hl : l.length < n) (hn3 : 3 < n) (hn : n < 1000000) : js n l = some (eS bM n l) := by
 obtain ⟨o1, h1⟩ := Jo n l hl hn
 obtain ⟨o2, h2⟩ := F6 n l hl hn3 hn
 unfold js eS
 rw [h1, ae]
 by_cases hk : el l = 0
 ·have hw := gY hk
  have hs := j6 hw
  have hF := o9 hw
  obtain ⟨l1, l2⟩ := hF.len
  rw [if_neg (fun h => (aj.1 h) hk), if_neg (show ¬ (el l ≠ 0) from fun h => h hk), h2, ae]
  by_cases ht : f4 l = 0
  ·have hS := (DR ht).2
   rw [if_neg (fun h => (aj.1 h) ht), if_neg (show ¬ (f4 l ≠ 0) from fun h => h ht), Bc n l hl hn, ae]
   simp only
   have hwy := lS eM hF hS n hF.wayAll
   have hw1 := V5 n hF hl hF.all
   rw [show ((0 : Nat) : Int) = 0 from rfl] at hw1
   rw [if_neg (fun h => (aj.1 h) hs), V7 l1 (by omega), hw1, ae, iQ n (by omega) hwy.2 (by decide) (by decide), ae]
   generalize dp (ec bM l (dw l).1 n 0 (l.length - 1)) 1 = w
   by_cases e : w = 1048577
   ·rw [if_pos e, if_pos (by simpa only [ag] using e)]
   ·rw [if_neg e, if_neg (by simpa only [ag] using e)]
  ·rw [if_pos (show (f4 l != 0) = true from aj.2 ht), if_pos (show (f4 l != 0) = true from aj.2 ht), if_pos ht]
 ·rw [if_pos (show (el l != 0) = true from aj.2 hk), if_pos (show (el l != 0) = true from aj.2 hk), if_pos hk]
theorem Bf (n : Nat) (l : List da) (hl : l.length < n) (hn3 : 3 < n) (hn : n < 1000000) : fS n l = some (eS bM n l) := by
 unfold fS
 rw [NE n l hl hn3 hn]
 rfl
def gR (l : List da) (m : List Int) (n : Nat) : Nat → Nat → List (Int × Int)
 | 0, _ => []
 | r + 1, i => (if dm l i = 23 then [(dT l i, ec bM l m n (i + 1) (mN m i) + 1)] else []) ++ gR l m n r (i + 1)
def kY (n : Nat) (l : List da) : List (Int × Int) × Int := if (eS bM n l).2 ≠ 0 then ([], (eS bM n l).2) else (gR l (dw l).1 n l.length 0, 0)
theorem Ga (n : Nat) {l : List da} {m h : List Int} (hF : Fine l m h) (hn : l.length < n) : ∀ (f i : Nat) {o : List (Int × Int)}, o.length ≤ i → i ≤ l.length → l.length < f + i →
  it (fun F => (dr q_) (fF n F)) f (o, l, (l.length : Int), (i : Int), l, m) = some (o ++ gR l m n (l.length - i) i, l, m)
 | 0, i, o, ho, hi, hf => by omega
 | f + 1, i, o, ho, hi, hf => by
  have ih := fun {o : List (Int × Int)} => Ga n hF hn f (i + 1) (o := o)
  show fF n (it _ f) o l (l.length : Int) (i : Int) l m = _
  generalize it (fun F => (dr q_) (fF n F)) f = F at ih ⊢
  obtain ⟨l1, l2⟩ := hF.len
  unfold fF
  rcases ak i l.length with hlt | hge
  ·rw [if_pos (af (by omega)), if_pos (dh hlt), ai, dk (by omega), show l.length - i = (l.length - (i + 1)) + 1 by omega]
   rw [show gR l m n (l.length - (i + 1) + 1) i = (if dm l i = 23 then [(dT l i, ec bM l m n (i + 1) (mN m i) + 1)] else []) ++ gR l m n (l.length - (i + 1)) (i + 1) from rfl]
   by_cases h23 : (l.getD i (0, 0, 0)).1 = 23
   ·rw [if_pos (show ((l.getD i (0, 0, 0)).1 == 23) = true by simpa only [ag] using h23), if_pos (show dm l i = 23 from h23), if_pos (dh (by rw [hF.nest.hm]; exact hlt))]
    have ho2 : dB l i = true := isOpen_iff.2 (.inr h23)
    obtain ⟨j, j1, j2, j3⟩ := hF.nest.open_ i hlt ho2
    have hj : mN m i = j := by unfold mN; rw [j1]; rfl
    have hR := hF.reg hlt ho2
    rw [hj] at hR ⊢
    have hwy := j7 eM hF n hR
    rw [j1, V6 n hF hn hR, ae, if_pos (by simp; omega)]
    have hwr : wrap .i64 (ec bM l m n (i + 1) j + 1) = ec bM l m n (i + 1) j + 1 := by
     rcases hwy with h | h
     ·rw [h]; rfl
     ·exact dI (by omega) (by omega)
    rw [hwr, ih (by simp; omega) (by omega) (by omega), aO]
   ·rw [if_neg (show ¬ ((l.getD i (0, 0, 0)).1 == 23) = true by simpa only [ag] using h23), if_neg (show ¬ dm l i = 23 from h23), ih (by omega) (by omega) (by omega), bR]
  ·have : i = l.length := by omega
   subst this
   rw [if_neg (by simp), bc]
   simp [gR]
theorem tQ {b : Int → Int → Int} {n : Nat} {l : List da} (h : (eS b n l).2 = 0) : el l = 0 ∧ f4 l = 0 := by
 unfold eS at h
 by_cases h1 : el l = 0
 ·rw [if_neg (show ¬ (el l ≠ 0) from fun h => h h1)] at h
  by_cases h2 : f4 l = 0
  ·exact ⟨h1, h2⟩
  ·rw [if_pos h2] at h
   exact absurd h h2
 ·rw [if_pos h1] at h
  exact absurd h h1
theorem Kk (n : Nat) (l : List da) (hl : l.length < n) (hn3 : 3 < n) (hn : n < 1000000) : gI n l = some (kY n l) := by
 unfold gI kY
 rw [Bf n l hl hn3 hn, ae]
 by_cases h0 : (eS bM n l).2 = 0
 ·obtain ⟨hk, ht⟩ := tQ h0
  obtain ⟨o1, h1⟩ := Jo n l hl hn
  obtain ⟨o2, h2⟩ := F6 n l hl hn3 hn
  have hF := o9 (gY hk)
  have hlp := Ga n hF hl n 0 (o := []) (am _) (am _) (by omega)
  rw [show ((0 : Nat) : Int) = 0 from rfl, bu] at hlp
  unfold jD
  rw [if_neg (fun h => (aj.1 h) h0), if_neg (show ¬ ((eS bM n l).2 ≠ 0) from fun h => h h0), h1, ae, if_neg (fun h => (aj.1 h) hk), h2, ae, if_neg (fun h => (aj.1 h) ht), Bc n l hl hn, ae]
  simp only
  rw [hlp, ae, bR]
 ·rw [if_pos (aj.2 h0), if_pos h0]
theorem V8 {D : Nat → Int} {k : Nat} {v : Int} (hv : 0 ≤ v) (hD : StepsI (D k)) : ∀ j, D j ≤ eF bM D k v j := fun j => by
 unfold eF
 by_cases e : j = k
 ·subst e
  rw [if_pos rfl]
  split
  ·omega
  ·unfold bM; split <;> omega
 ·rw [if_neg e]; omega
theorem V9 {D : Nat → Int} {k : Nat} {v : Int} (hv : 0 ≤ v) : v ≤ eF bM D k v k := by
 unfold eF
 rw [if_pos rfl]
 split
 ·omega
 ·unfold bM; split <;> omega
theorem Jw {v : Int} (hv : 0 ≤ v ∧ v ≤ 1048577) : ∀ (ks : List Nat) {D : Nat → Int}, (∀ k, StepsI (D k)) → (∀ j, D j ≤ ks.foldl (fun g k => eF bM g k v) D j) ∧ ∀ j ∈ ks, v ≤ ks.foldl (fun g k => eF bM g k v) D j
 | [], D, hD => ⟨fun j => aH _, fun j hj => by cases hj⟩
 | q :: ks, D, hD => by
  obtain ⟨h1, h2⟩ := Jw hv ks (D := eF bM D q v) (sE eM hD q hv)
  refine ⟨fun j => bf (V8 hv.1 (hD q) j) (h1 j), fun j hj => ?_⟩
  rcases aA.1 hj with e | e
  ·subst e
   exact bf (V9 hv.1) (h1 j)
  ·exact h2 j e
theorem StepsI.nn {v : Int} (h : StepsI v) (h1 : v ≠ -1) : 0 ≤ v ∧ v ≤ 1048577 := h.elim (fun h => absurd h h1) id
theorem p8 {W : Nat → Nat → Int} {l : List da} {m : List Int} {i : Nat} {D : Nat → Int} (hD : ∀ k, StepsI (D k)) (hr : dR (l.getD i (0, 0, 0)) = true) (hW : dm l i = 21 → StepsI (W (i + 1) (mN m i))) : (∀ j, D j ≤ ev bM W l m i D j) ∧ (D i ≠ -1 → ∀ j ∈ eQ l m i, dp (D i) (ez W l m i) ≤ ev bM W l m i D j) := by
 unfold ev
 by_cases e : D i = -1
 ·rw [if_pos e]
  exact ⟨fun j => aH _, fun h => absurd e h⟩
 ·rw [if_neg e]
  obtain ⟨h1, h2⟩ := Jw (fH ((hD i).nn e).1 (iP hr hW).1) (eQ l m i) hD
  exact ⟨h1, fun _ => h2⟩
theorem DS {a b c d : Int} (h : a ≤ b) (k : c ≤ d) : dp a c ≤ dp b d := by unfold dp; split <;> split <;> omega
theorem RG {a b : Int} (ha : a ≤ 1048577) (hb : 0 ≤ b) : a ≤ dp a b := by unfold dp; split <;> omega
theorem NF {a b c : Int} (ha : 0 ≤ a) (hb : 0 ≤ b) (hc : 0 ≤ c) : dp (dp a b) c = dp a (dp b c) := by unfold dp; split <;> split <;> split <;> (try split) <;> omega
theorem Reg.hop {l : List da} {m : List Int} {a z : Nat} (hR : Reg l m a z) {i : Nat} (h1 : a ≤ i) (h2 : i < z) : eQ l m i ≠ [] ∧ ∀ k ∈ eQ l m i, i < k ∧ k ≤ z := by
 unfold eQ
 by_cases h21 : dm l i = 21
 ·rw [if_pos h21]
  obtain ⟨j, j1, j2, j3⟩ := hR.loop i h1 h2 (isOpen_iff.2 (.inl h21))
  refine ⟨by simp, fun k hk => ?_⟩
  have : k = mN m i + 1 := by simpa using hk
  unfold mN at this
  rw [j1] at this
  simp at this
  omega
 ·rw [if_neg h21]
  by_cases h19 : dm l i = 19
  ·rw [if_pos h19]
   have := hR.jump i h1 h2 (.inl h19)
   refine ⟨by simp, fun k hk => ?_⟩
   have e : k = dv l i := by simpa using hk
   subst e
   refine ⟨?_, this⟩
   unfold dv
   omega
  ·rw [if_neg h19]
   by_cases h20 : dm l i = 20
   ·rw [if_pos h20]
    have := hR.jump i h1 h2 (.inr h20)
    refine ⟨by simp, fun k hk => ?_⟩
    have e : k = dv l i ∨ k = i + 1 := by simpa using hk
    rcases e with e | e
    ·subst e
     refine ⟨?_, this⟩
     unfold dv
     omega
    ·omega
   ·rw [if_neg h20]
    exact ⟨by simp, fun k hk => by
     have e : k = i + 1 := by simpa using hk
     omega⟩
theorem tR {b : Int → Int → Int} {W : Nat → Nat → Int} {l : List da} {m : List Int} : ∀ (r s i : Nat) (D : Nat → Int), eR b W l m (r + s) i D = eR b W l m s (i + r) (eR b W l m r i D)
 | 0, s, i, D => by rw [bV]; rfl
 | r + 1, s, i, D => by
  rw [show r + 1 + s = (r + s) + 1 by omega]
  show eR b W l m (r + s) (i + 1) _ = eR b W l m s (i + (r + 1)) (eR b W l m r (i + 1) _)
  rw [tR r s (i + 1), show i + 1 + r = i + (r + 1) by omega]
theorem Jx {W : Nat → Nat → Int} {l : List da} {m : List Int} (hr : ∀ i, i < l.length → dR (l.getD i (0, 0, 0)) = true) {a z : Nat} (hR : Reg l m a z) (hW : ∀ i, a ≤ i → i < z → dm l i = 21 → StepsI (W (i + 1) (mN m i))) {c : Int} (hc : 0 ≤ c) : ∀ (r i : Nat) {D : Nat → Int}, (∀ k, StepsI (D k)) → a ≤ i → i + r = z → (∃ k, i ≤ k ∧ k ≤ z ∧ c ≤ D k) → c ≤ eR bM W l m r i D z
 | 0, i, D, hD, hi, hz, ⟨k, k1, k2, k3⟩ => by
  have : k = z := by omega
  subst this
  exact k3
 | r + 1, i, D, hD, hi, hz, ⟨k, k1, k2, k3⟩ => by
  have hlt := hR.lt
  have hWi := hW i hi (by omega)
  have hri := hr i (by omega)
  obtain ⟨s1, s2⟩ := p8 hD hri hWi
  refine Jx hr hR hW hc r (i + 1) (f5 eM hD hri hWi) (by omega) (by omega) ?_
  by_cases e : k = i
  ·subst e
   have hDk : D k ≠ -1 := by omega
   obtain ⟨n1, n2⟩ := hR.hop hi (by omega)
   obtain ⟨q, qs, hq⟩ := List.exists_cons_of_ne_nil n1
   have hqm : q ∈ eQ l m k := by rw [hq]; exact aB ..
   obtain ⟨q1, q2⟩ := n2 q hqm
   refine ⟨q, by omega, q2, ?_⟩
   have := s2 hDk q hqm
   have h3 := RG ((hD k).nn hDk).2 (iP hri hWi).1
   omega
  ·exact ⟨k, by omega, k2, bf k3 (s1 k)⟩
theorem Mk {W : Nat → Nat → Int} {l : List da} {m : List Int} (hr : ∀ i, i < l.length → dR (l.getD i (0, 0, 0)) = true) {c : Int} (hc : 0 ≤ c ∧ c ≤ 1048577) : ∀ (r i : Nat) {D D0 : Nat → Int}, (∀ k, StepsI (D k)) → (∀ k, StepsI (D0 k)) → r + i ≤ l.length → (∀ k, i ≤ k → k < r + i → dm l k = 21 → StepsI (W (k + 1) (mN m k))) → (∀ j, i ≤ j → D0 j ≠ -1 → dp c (D0 j) ≤ D j) → ∀ j, i + r ≤ j → eR bM W l m r i D0 j ≠ -1 → dp c (eR bM W l m r i D0 j) ≤ eR bM W l m r i D j
 | 0, i, D, D0, hD, hD0, hl, hW, h, j, hj, hn => h j hj hn
 | r + 1, i, D, D0, hD, hD0, hl, hW, h, j, hj, hn => by
  have hWi := hW i (aq _) (by omega)
  have hri := hr i (by omega)
  have hco := iP hri hWi
  obtain ⟨s1, s2⟩ := p8 hD hri hWi
  refine Mk hr hc r (i + 1) (f5 eM hD hri hWi) (f5 eM hD0 hri hWi) (by omega) (fun k h1 h2 => hW k (by omega) (by omega)) (fun q hq hq2 => ?_) j (by omega) hn
  by_cases e : D0 i = -1
  ·have e2 : ev bM W l m i D0 = D0 := by unfold ev; rw [if_pos e]
   rw [e2] at hq2 ⊢
   exact bf (h q (by omega) hq2) (s1 q)
  ·have hi := h i (aq _) e
   have hD0i := (hD0 i).nn e
   have hci := fH hc.1 hD0i.1
   have hDi : D i ≠ -1 := by omega
   have hDi2 := (hD i).nn hDi
   have s2 := s2 hDi
   have hv : dp c (dp (D0 i) (ez W l m i)) ≤ dp (D i) (ez W l m i) := by
    rw [← NF hc.1 hD0i.1 hco.1]
    exact DS hi (aH _)
   have key : ∀ (ks : List Nat) {E : Nat → Int}, (∀ k, StepsI (E k)) → (∀ k ∈ ks, k ∈ eQ l m i) → (∀ k, i + 1 ≤ k → E k ≠ -1 → dp c (E k) ≤ ev bM W l m i D k) → ∀ k, i + 1 ≤ k → ks.foldl (fun g k => eF bM g k (dp (D0 i) (ez W l m i))) E k ≠ -1 → dp c (ks.foldl (fun g k => eF bM g k (dp (D0 i) (ez W l m i))) E k) ≤ ev bM W l m i D k := by
    intro ks
    induction ks with
    | nil => intro E hE hk h0 k hk2 hn; exact h0 k hk2 hn
    | cons q ks ih =>
     intro E hE hk h0
     refine ih (sE eM hE q (fH hD0i.1 hco.1)) (fun k h => hk k (ay _ h)) (fun k hk2 hn => ?_)
     show dp c (eF bM E q (dp (D0 i) (ez W l m i)) k) ≤ _
     replace hn : eF bM E q (dp (D0 i) (ez W l m i)) k ≠ -1 := hn
     by_cases ek : k = q
     ·subst ek
      have h1 := s2 k (hk k (aB ..))
      unfold eF at hn ⊢
      rw [if_pos rfl] at hn ⊢
      by_cases eE : E k = -1
      ·rw [if_pos eE]
       exact bf hv h1
      ·rw [if_neg eE]
       have h2 := h0 k hk2 eE
       unfold bM
       split
       ·exact bf hv h1
       ·exact h2
     ·unfold eF at hn ⊢
      rw [if_neg ek] at hn ⊢
      exact h0 k hk2 hn
   have e2 : ev bM W l m i D0 = (eQ l m i).foldl (fun g k => eF bM g k (dp (D0 i) (ez W l m i))) D0 := by unfold ev; rw [if_neg e]
   rw [e2] at hq2 ⊢
   exact key (eQ l m i) hD0 (fun k h => h) (fun k hk hn => bf (h k (by omega) hn) (s1 k)) q hq hq2
theorem Jy {l : List da} {m h : List Int} (hF : Fine l m h) (hC : Closed l m) (hS : Be l) {n : Nat} (hn : l.length < n) {a z : Nat} (hR : Way l m a z) {q : Nat} (hq : sF l m a z q) (hqz : q < z) (ho : dm l q = 23) : dp 2 (ec bM l m n (q + 1) (mN m q)) ≤ ec bM l m n a z := by
 have hlt := hR.reg.lt
 obtain ⟨q1, q2, q3⟩ := hq
 have hqo : dB l q = true := isOpen_iff.2 (.inr ho)
 obtain ⟨j, j1, j2, j3⟩ := hR.reg.loop q q1 hqz hqo
 have hj : mN m q = j := by unfold mN; rw [j1]; rfl
 rw [hj]
 obtain ⟨n, rfl⟩ : ∃ n', n = n' + 1 := ⟨n - 1, by omega⟩
 have hRq : Reg l m (q + 1) j := hj ▸ hF.reg (by omega) hqo
 have hr : ∀ i, i < l.length → dR (l.getD i (0, 0, 0)) = true := fun i hi => hF.right hi
 have hW : ∀ i, a ≤ i → i < z → dm l i = 21 → StepsI (ec bM l m n (i + 1) (mN m i)) := fun i i1 i2 i3 => j7 eM hF n (hF.reg (by omega) (isOpen_iff.2 (.inl i3)))
 have hopj : dm l j = 24 := by
  obtain ⟨j', c1, c2, c3, c4, c5⟩ := hC.op_ q (by omega) hqo
  rw [j1] at c1
  have : j = j' := by omega
  subst this
  show (l.getD j (0, 0, 0)).1 = 24
  rw [c4]
  unfold ends
  rw [if_neg (by show ¬ (l.getD q (0, 0, 0)).1 = 21; rw [show (l.getD q (0, 0, 0)).1 = 23 from ho]; decide)]
 show dp 2 (eR bM (ec bM l m n) l m (j - (q + 1)) (q + 1) (fv (q + 1)) j) ≤ eR bM (ec bM l m n) l m (z - a) a (fv a) z
 -- to the block
 rw [show z - a = (q - a) + (z - q) by omega, tR, show a + (q - a) = q by omega]
 have hD1 : ∀ k, StepsI (eR bM (ec bM l m n) l m (q - a) a (fv a) k) := yA eM hr (q - a) a (gQ a) (by omega) (fun k k1 k2 => hW k k1 (by omega))
 have hDq : eR bM (ec bM l m n) l m (q - a) a (fv a) q ≠ -1 := by
  have hRq' : ∀ k, sF l m a z k → k ≤ q → eR bM (ec bM l m n) l m (q - a) a (fv a) k ≠ -1 := by
   -- reached ahead of it
   have gen : ∀ (r i : Nat) {D : Nat → Int}, (∀ k, StepsI (D k)) → a ≤ i → i + r = q → (∀ k, sF l m a z k → k = a ∨ (∃ p, sF l m a z p ∧ p < i ∧ k ∈ eQ l m p) → D k ≠ -1) → ∀ k, sF l m a z k → k ≤ q → eR bM (ec bM l m n) l m r i D k ≠ -1 := by
    intro r
    induction r with
    | zero =>
     intro i D hD hi hz hI k hk hkq
     refine hI k hk ?_
     by_cases e : k = a
     ·exact .inl e
     ·obtain ⟨p, p1, p2, p3⟩ := yB hF hS hR hk (by have := hk.1; omega)
      exact .inr ⟨p, p1, by omega, p3⟩
    | succ r ih =>
     intro i D hD hi hz hI k hk hkq
     have hWi := hW i hi (by omega)
     have hri := hr i (by omega)
     refine ih (i + 1) (f5 eM hD hri hWi) (by omega) (by omega) (fun k' hk' hp => ?_) k hk hkq
     obtain ⟨s1, s2⟩ := p8 hD hri hWi
     have old : D k' ≠ -1 → ev bM (ec bM l m n) l m i D k' ≠ -1 := fun h => by
      have := s1 k'
      have := ((hD k').nn h).1
      omega
     rcases hp with h1 | ⟨p, p1, p2, p3⟩
     ·exact old (hI k' hk' (.inl h1))
     ·by_cases e : p = i
      ·subst e
       have hDp : D p ≠ -1 := by
        refine hI p p1 ?_
        by_cases e : p = a
        ·exact .inl e
        ·obtain ⟨p', a1, a2, a3⟩ := yB hF hS hR p1 (by omega)
         exact .inr ⟨p', a1, a2, a3⟩
       have h3 := s2 hDp k' p3
       have h4 := fH ((hD p).nn hDp).1 (iP hri hWi).1
       omega
      ·exact old (hI k' hk' (.inr ⟨p, p1, by omega, p3⟩))
   intro k hk hkq
   refine gen (q - a) a (gQ a) (aq _) (by omega) (fun k' hk' hp => ?_) k hk hkq
   rcases hp with e | ⟨p, p1, p2, _⟩
   ·subst e; unfold fv; rw [if_pos rfl]; decide
   ·have := p1.1; omega
  exact hRq' q ⟨q1, q2, q3⟩ (aq _)
 generalize hDD : eR bM (ec bM l m n) l m (q - a) a (fv a) = D at hD1 hDq
 have hd := (hD1 q).nn hDq
 -- the block's own step
 rw [show z - q = 1 + ((j - (q + 1)) + (z - j)) by omega, tR]
 show dp 2 _ ≤ eR bM (ec bM l m n) l m ((j - (q + 1)) + (z - j)) (q + 1) (ev bM (ec bM l m n) l m q D) z
 have hWq := hW q q1 hqz
 have hrq := hr q (by omega)
 obtain ⟨s1, s2⟩ := p8 hD1 hrq hWq
 have hD2 := f5 eM hD1 hrq hWq
 have hop : eQ l m q = [q + 1] := by unfold eQ; rw [if_neg (by rw [ho]; decide), if_neg (by rw [ho]; decide), if_neg (by rw [ho]; decide)]
 have hcq : ez (ec bM l m n) l m q = 1 := by unfold ez; rw [if_neg (by rw [ho]; decide)]
 have h2 := s2 hDq (q + 1) (by rw [hop]; simp)
 rw [hcq] at h2
 generalize ev bM (ec bM l m n) l m q D = D2 at hD2 h2
 have h3 : (1 : Int) ≤ D2 (q + 1) := by
  have : (1 : Int) ≤ dp (D q) 1 := by unfold dp; split <;> omega
  omega
 -- what stands in it
 rw [tR, show q + 1 + (j - (q + 1)) = j by omega]
 have hw0 := lS eM hF hS (n + 1) (show Way l m (q + 1) j from hj ▸ hF.way (by omega) hqo)
 have hw1 : ec bM l m (n + 1) (q + 1) j = eR bM (ec bM l m n) l m (j - (q + 1)) (q + 1) (fv (q + 1)) j := rfl
 rw [hw1] at hw0
 have h4 := Mk hr (c := 1) (by decide) (W := ec bM l m n) (j - (q + 1)) (q + 1) (D := D2) (D0 := fv (q + 1)) hD2 (gQ _) (by omega) (fun k k1 k2 => hW k (by omega) (by omega)) (fun k k1 k2 => by
  unfold fv at k2 ⊢
  by_cases e : k = q + 1
  ·subst e; rw [if_pos rfl]; unfold dp; split <;> omega
  ·rw [if_neg e] at k2; exact absurd rfl k2) j (by omega) (by omega)
 have hD3 := yA eM hr (W := ec bM l m n) (j - (q + 1)) (q + 1) hD2 (by omega) (fun k k1 k2 => hW k (by omega) (by omega))
 generalize eR bM (ec bM l m n) l m (j - (q + 1)) (q + 1) (fv (q + 1)) j = w at hw0 h4
 generalize eR bM (ec bM l m n) l m (j - (q + 1)) (q + 1) D2 = D3 at hD3 h4
 -- behind it
 rw [show z - j = (z - (j + 1)) + 1 by omega]
 show dp 2 w ≤ eR bM (ec bM l m n) l m (z - (j + 1)) (j + 1) (ev bM (ec bM l m n) l m j D3) z
 have hWj := hW j (by omega) (by omega)
 have hrj := hr j (by omega)
 obtain ⟨t1, t2⟩ := p8 hD3 hrj hWj
 have h1w := fH (show (0 : Int) ≤ 1 by decide) hw0.1
 have hDj : D3 j ≠ -1 := by omega
 have hopj' : eQ l m j = [j + 1] := by unfold eQ; rw [if_neg (by rw [hopj]; decide), if_neg (by rw [hopj]; decide), if_neg (by rw [hopj]; decide)]
 have hcj : ez (ec bM l m n) l m j = 1 := by unfold ez; rw [if_neg (by rw [hopj]; decide)]
 have h5 := t2 hDj (j + 1) (by rw [hopj']; simp)
 rw [hcj] at h5
 refine Jx hr hR.reg hW (by have := fH (show (0 : Int) ≤ 2 by decide) hw0.1; omega) (z - (j + 1)) (j + 1) (f5 eM hD3 hrj hWj) (by omega) (by omega) ⟨j + 1, by omega, by omega, ?_⟩
 refine bf ?_ h5
 have : dp 2 w = dp (dp 1 w) 1 := by unfold dp; split <;> split <;> (try split) <;> omega
 rw [this]
 exact DS h4 (aH _)
theorem Bg {l : List da} (h : el l = 0) {i : Nat} (hi : i < l.length) : jQ l (dw l).1 i = false := by
 have hw := gY h
 unfold el at h
 rw [if_neg (show ¬ (fc l ≠ 0) from fun k => k hw)] at h
 by_cases ha : fd (F0 l (dw l).1) l.length 0 = true
 ·have := allF_iff.1 ha i (am _) (by omega)
  unfold F0 at this
  simpa using this
 ·rw [if_neg ha] at h
  cases h
theorem U5 {l : List da} (h : el l = 0) {p q : Nat} (hpq : p < q) (hq : q < l.length) (hp3 : dm l p = 23) (hq3 : dm l q = 23) : q < mN (dw l).1 p ∧ dT l p < dT l q := by
 have hs := j6 (gY h)
 have hC := mR hs
 have hb := Bg h hq
 unfold jQ at hb
 rw [if_pos hq3, bE] at hb
 obtain ⟨hb1, hb2⟩ := hb
 obtain ⟨j, j1, j2, j3, j4, j5⟩ := hC.op_ p (by omega) (isOpen_iff.2 (.inr hp3))
 have hj : mN (dw l).1 p = j := by unfold mN; rw [j1]; rfl
 have hopj : dm l j = 24 := by
  show (l.getD j (0, 0, 0)).1 = 24
  rw [j4]
  unfold ends
  rw [if_neg (by rw [show (l.getD p (0, 0, 0)).1 = 23 from hp3]; decide)]
 have hlt : q < j := by
  rcases Nat.lt_trichotomy j q with hlt | he | hgt
  ·exfalso
   have : iD l q = true := anyB_iff.2 ⟨j, hlt, by simp [hopj]⟩
   rw [this] at hb1; cases hb1
  ·subst he; rw [hopj] at hq3; cases hq3
  ·exact hgt
 refine ⟨by omega, ?_⟩
 rcases Int.lt_or_le (dT l p) (dT l q) with h1 | h1
 ·exact h1
 ·exfalso
  have he : enc l (dw l).1 p q = true := (po (isOpen_iff.2 (.inr hp3)) j1).2 ⟨hpq, by omega⟩
  have : qU l (dw l).1 q = true := anyB_iff.2 ⟨p, hpq, by rw [he, hp3]; simp; exact h1⟩
  rw [this] at hb2; cases hb2
theorem Gb {l : List da} (h : el l = 0) {a z q : Nat} (ha : a ≤ q) (hz : q ≤ z) (hq : q < l.length) (hq3 : dm l q = 23) : sF l (dw l).1 a z q := by
 have hs := j6 (gY h)
 have hC := mR hs
 have hb := Bg h hq
 unfold jQ at hb
 rw [if_pos hq3, bE] at hb
 refine ⟨ha, hz, fun p p1 p2 p3 => ?_⟩
 obtain ⟨j, j1, j2, j3, j4, j5⟩ := hC.op_ p (by omega) (isOpen_iff.2 (.inl p3))
 have hj : mN (dw l).1 p = j := by unfold mN; rw [j1]; rfl
 rcases ak (mN (dw l).1 p) q with h1 | h1
 ·exact h1
 ·exfalso
  have he : enc l (dw l).1 p q = true := (po (isOpen_iff.2 (.inl p3)) j1).2 ⟨p2, by omega⟩
  have : qU l (dw l).1 q = true := anyB_iff.2 ⟨p, p2, by rw [he, p3]; simp⟩
  rw [this] at hb; cases hb.2
theorem Jz {l : List da} {m : List Int} {n : Nat} : ∀ (r i : Nat), ∀ e ∈ gR l m n r i, ∃ p, i ≤ p ∧ p < i + r ∧ dm l p = 23 ∧ e = (dT l p, ec bM l m n (p + 1) (mN m p) + 1)
 | 0, i, e, he => by cases he
 | r + 1, i, e, he => by
  unfold gR at he
  rcases az.1 he with h | h
  ·split at h
   ·rename_i h3
    refine ⟨i, aq _, by omega, h3, ?_⟩
    simpa using h
   ·cases h
  ·obtain ⟨p, p1, p2, p3⟩ := Jz r (i + 1) e h
   exact ⟨p, by omega, by omega, p3⟩
theorem zB {l : List da} (h : el l = 0) : Fine l (dw l).1 (dw l).2.1 ∧ Closed l (dw l).1 := ⟨o9 (gY h), mR (j6 (gY h))⟩
theorem RH {l : List da} {n : Nat} (h : el l = 0) (hS : Be l) (hn : l.length < n) (hw : ec bM l (dw l).1 n 0 (l.length - 1) < 1048577) : ∀ (r i : Nat), i + r = l.length → (gR l (dw l).1 n r i).Pairwise (fun a b => b.2 + 2 ≤ a.2 ∧ a.1 < b.1) ∧ ∀ e ∈ gR l (dw l).1 n r i, 1 ≤ e.2 ∧ e.2 + 1 ≤ ec bM l (dw l).1 n 0 (l.length - 1) := by
 obtain ⟨hF, hC⟩ := zB h
 obtain ⟨l1, l2⟩ := hF.len
 have hend : ∀ p, p < l.length → dm l p = 23 → p < l.length - 1 := fun p hp h3 => by
  have := hF.succ hp (by rw [h3]; decide)
  omega
 have one : ∀ p, p < l.length → dm l p = 23 → 0 ≤ ec bM l (dw l).1 n (p + 1) (mN (dw l).1 p) ∧ ec bM l (dw l).1 n (p + 1) (mN (dw l).1 p) + 2 ≤ ec bM l (dw l).1 n 0 (l.length - 1) := fun p hp h3 => by
  have k1 := Jy hF hC hS hn hF.wayAll (Gb h (am p) (by have := hend p hp h3; omega) hp h3) (hend p hp h3) h3
  have k2 := lS eM hF hS n (hF.way hp (isOpen_iff.2 (.inr h3)))
  refine ⟨k2.1, ?_⟩
  unfold dp at k1
  split at k1 <;> omega
 intro r
 induction r with
 | zero => intro i hi; exact ⟨List.Pairwise.nil, fun e he => by cases he⟩
 | succ r ih =>
  intro i hi
  obtain ⟨g1, g2⟩ := ih (i + 1) (by omega)
  unfold gR
  by_cases h3 : dm l i = 23
  ·rw [if_pos h3]
   have hi1 : i < l.length := by omega
   obtain ⟨o1, o2⟩ := one i hi1 h3
   refine ⟨List.Pairwise.cons (fun e he => ?_) g1, fun e he => ?_⟩
   ·obtain ⟨p, p1, p2, p3, rfl⟩ := Jz r (i + 1) e he
    have hp1 : p < l.length := by omega
    obtain ⟨c1, c2⟩ := U5 h (show i < p by omega) hp1 h3 p3
    have k1 := Jy hF hC hS hn (hF.way hi1 (isOpen_iff.2 (.inr h3))) (Gb h (show i + 1 ≤ p by omega) (by omega) hp1 p3) c1 p3
    have k2 := (one p hp1 p3).1
    refine ⟨?_, c2⟩
    show _ + 1 + 2 ≤ _ + 1
    unfold dp at k1
    split at k1 <;> omega
   ·rcases aA.1 he with rfl | he
    ·exact ⟨by show 1 ≤ _ + 1; omega, by show _ + 1 + 1 ≤ _; omega⟩
    ·exact g2 e he
  ·rw [if_neg h3, bR]
   exact ⟨g1, g2⟩
theorem Y6 {D E : Nat → Int} (hD : ∀ k, StepsI (D k)) (hE : ∀ k, StepsI (E k)) (h : ∀ k, (D k = -1 ↔ E k = -1) ∧ D k ≤ E k) {k : Nat} {u v : Int} (huv : u ≤ v) (hu : 0 ≤ u) : ∀ j, (eF bL D k u j = -1 ↔ eF bM E k v j = -1) ∧ eF bL D k u j ≤ eF bM E k v j := fun j => by
 unfold eF
 by_cases e : j = k
 ·subst e
  rw [if_pos rfl, if_pos rfl]
  obtain ⟨h1, h2⟩ := h j
  by_cases e2 : D j = -1
  ·rw [if_pos e2, if_pos (h1.1 e2)]
   exact ⟨by constructor <;> intro <;> omega, huv⟩
  ·have e3 : ¬ E j = -1 := fun k => e2 (h1.2 k)
   rw [if_neg e2, if_neg e3]
   have a1 := ((hD j).nn e2).1
   have a2 := ((hE j).nn e3).1
   unfold bL bM
   split <;> split <;> exact ⟨by constructor <;> intro <;> omega, by omega⟩
 ·rw [if_neg e, if_neg e]
  exact h j
theorem Ml {u v : Int} (huv : u ≤ v) (hu : 0 ≤ u ∧ u ≤ 1048577) (hv : v ≤ 1048577) : ∀ (ks : List Nat) {D E : Nat → Int}, (∀ k, StepsI (D k)) → (∀ k, StepsI (E k)) → (∀ k, (D k = -1 ↔ E k = -1) ∧ D k ≤ E k) → ∀ j, (ks.foldl (fun g k => eF bL g k u) D j = -1 ↔ ks.foldl (fun g k => eF bM g k v) E j = -1) ∧ ks.foldl (fun g k => eF bL g k u) D j ≤ ks.foldl (fun g k => eF bM g k v) E j
 | [], D, E, hD, hE, h, j => h j
 | k :: ks, D, E, hD, hE, h, j => Ml huv hu hv ks (D := eF bL D k u) (E := eF bM E k v) (sE xM hD k hu) (sE eM hE k ⟨by omega, hv⟩) (Y6 hD hE h huv hu.1) j
theorem U6 {v w A : Int} (hv : 0 ≤ v) (hvw : v ≤ w) (hw : w ≤ 1048577) (hA : 1 ≤ A) : gx v A ≤ gx w A := by
 have key : ∀ x : Int, 0 ≤ x → x ≤ 1048577 → (if x + 1 ≥ 1048577 then gx x A = 1048577 else gx x A = min (1 + A * (x + 1)) 1048577) := fun x hx hx2 => by
  unfold gx
  by_cases h : x + 1 ≥ 1048577
  ·rw [if_pos h]
   have : dp x 1 = 1048577 := by unfold dp; split <;> omega
   rw [if_pos this]
  ·rw [if_neg h]
   have : dp x 1 = x + 1 := by unfold dp; split <;> omega
   rw [this, if_neg (by omega)]
   unfold dp
   omega
 have k1 := key v hv (by omega)
 have k2 := key w (by omega) hw
 have hm : A * (v + 1) ≤ A * (w + 1) := Int.mul_le_mul_of_nonneg_left (by omega) (by omega)
 have hb : gx v A ≤ 1048577 := (loopI_cap v A)
 split at k1 <;> split at k2 <;> omega
where
 loopI_cap (v A : Int) : gx v A ≤ 1048577 := by
  unfold gx
  split
  ·omega
  ·unfold dp; split <;> omega
theorem RI {W W' : Nat → Nat → Int} {l : List da} {m : List Int} (hr : ∀ i, i < l.length → dR (l.getD i (0, 0, 0)) = true) : ∀ (r i : Nat) {D E : Nat → Int}, (∀ k, StepsI (D k)) → (∀ k, StepsI (E k)) → r + i ≤ l.length → (∀ k, i ≤ k → k < r + i → dm l k = 21 → StepsI (W (k + 1) (mN m k)) ∧ StepsI (W' (k + 1) (mN m k)) ∧ 0 ≤ W (k + 1) (mN m k) ∧ W (k + 1) (mN m k) ≤ W' (k + 1) (mN m k)) → (∀ k, (D k = -1 ↔ E k = -1) ∧ D k ≤ E k) → ∀ j, (eR bL W l m r i D j = -1 ↔ eR bM W' l m r i E j = -1) ∧ eR bL W l m r i D j ≤ eR bM W' l m r i E j
 | 0, i, D, E, hD, hE, hl, hW, h, j => h j
 | r + 1, i, D, E, hD, hE, hl, hW, h, j => by
  have hWi := hW i (aq _) (by omega)
  have hri := hr i (by omega)
  have w1 := iP hri (fun e => (hWi e).1)
  have w2 := iP hri (fun e => (hWi e).2.1)
  have hc : ez W l m i ≤ ez W' l m i := by
   unfold ez
   by_cases e : dm l i = 21
   ·rw [if_pos e, if_pos e]
    obtain ⟨q1, q2, q3, q4⟩ := hWi e
    have hA : 1 ≤ dT l i := by
     have hri' := hri
     rw [show l.getD i (0, 0, 0) = (21, dT l i, (l.getD i (0, 0, 0)).2.2) from by rw [← e]] at hri'
     exact (yz hri').1
    exact U6 q3 q4 (q2.nn (by omega)).2 hA
   ·rw [if_neg e, if_neg e]; omega
  refine RI hr r (i + 1) (f5 xM hD hri (fun e => (hWi e).1)) (f5 eM hE hri (fun e => (hWi e).2.1)) (by omega) (fun k h1 h2 => hW k (by omega) (by omega)) (fun k => ?_) j
  unfold ev
  by_cases e : D i = -1
  ·rw [if_pos e, if_pos ((h i).1.1 e)]
   exact h k
  ·have e' : ¬ E i = -1 := fun x => e ((h i).1.2 x)
   rw [if_neg e, if_neg e']
   exact Ml (DS (h i).2 hc) (fH ((hD i).nn e).1 w1.1) (fH ((hE i).nn e').1 w2.1).2 _ hD hE h k
theorem RJ {l : List da} {m h : List Int} (hF : Fine l m h) (hS : Be l) : ∀ (f : Nat) {a z : Nat}, Way l m a z → ec bL l m f a z ≤ ec bM l m f a z
 | 0, a, z, hR => aH _
 | f + 1, a, z, hR => by
  have hlt := hR.reg.lt
  have hle := hR.reg.le
  refine (RI (fun i hi => hF.right hi) (z - a) a (gQ a) (gQ a) (by omega) (fun k k1 k2 k3 => ?_) (fun k => ⟨Iff.rfl, aH _⟩) z).2
  have hk := hF.way (show k < l.length by omega) (isOpen_iff.2 (.inl k3))
  exact ⟨j7 xM hF f hk.reg, j7 eM hF f hk.reg, (lS xM hF hS f hk).1, RJ hF hS f hk⟩
theorem tS (n : Nat) (l : List da) (h : (eS bM n l).2 = 0) : (eS bL n l).2 = 0 ∧ 1 ≤ (eS bL n l).1 ∧ (eS bL n l).1 ≤ (eS bM n l).1 ∧ (eS bM n l).1 = ec bM l (dw l).1 n 0 (l.length - 1) + 1 ∧ (eS bM n l).1 ≤ 1048576 := by
 obtain ⟨h1, h2⟩ := tQ h
 obtain ⟨hF, hC⟩ := zB h1
 have hS := (DR h2).2
 have r1 := lS xM hF hS n hF.wayAll
 have r2 := lS eM hF hS n hF.wayAll
 have r3 := RJ hF hS n hF.wayAll
 unfold eS at h ⊢
 rw [if_neg (show ¬ (el l ≠ 0) from fun k => k h1), if_neg (show ¬ (f4 l ≠ 0) from fun k => k h2)] at h ⊢
 rw [if_neg (show ¬ (el l ≠ 0) from fun k => k h1), if_neg (show ¬ (f4 l ≠ 0) from fun k => k h2)]
 split at h
 ·cases h
 ·rename_i hne
  rw [if_neg hne]
  unfold dp at hne ⊢
  split at hne
  ·exact absurd rfl hne
  ·rename_i h5
   rw [if_neg h5, if_neg (show ¬ (1048577 < ec bL l (dw l).1 n 0 (l.length - 1) + 1) by omega), if_neg (by omega)]
   exact ⟨rfl, by show 1 ≤ _ + 1; omega, by show _ + 1 ≤ _ + 1; omega, rfl, by show _ + 1 ≤ (1048576 : Int); omega⟩
theorem d5 {X R : Type} {S : (X → Option R) → X → Option R} (Q : Nat → X → R → Prop) (h0 : ∀ x r, ¬ Q 0 x r) (h : ∀ f x F, (∀ y r, Q f y r → F y = some r) → ∀ r, Q (f + 1) x r → S F x = some r) : ∀ f x r, Q f x r → it S f x = some r
 | 0, x, r, hq => absurd hq (h0 x r)
 | f + 1, x, r, hq => h f x (it S f) (d5 Q h0 h f) r hq
abbrev Tsk := Int × Int × Int × Int × List Int × List Int × List da
abbrev Img := Int × Int × Int × Int × List Int × List (List Int) × List Tsk
abbrev Tsk.blocks (t : Tsk) : List Int := t.2.2.2.2.1
abbrev Tsk.outs (t : Tsk) : List Int := t.2.2.2.2.2.1
abbrev Tsk.code (t : Tsk) : List da := t.2.2.2.2.2.2
abbrev Img.inputs (m : Img) : Int := m.2.2.2.1
abbrev Img.safe (m : Img) : List Int := m.2.2.2.2.1
abbrev Img.blocks (m : Img) : List (List Int) := m.2.2.2.2.2.1
abbrev Img.tasks (m : Img) : List Tsk := m.2.2.2.2.2.2
theorem dM {α : Type} {l : List α} {i : Nat} {d : α} (h : i < l.length) : l.drop i = l.getD i d :: l.drop (i + 1) := by
 rw [ca h, ar, av h]
 rfl
theorem Wa (n : Nat) (t : Tsk) (m : Img) (p : Int) (hl : t.outs.length < n) (hn : n < 1000000) : vW n (t, m) p = some (t.outs.contains p) := by
 unfold vW vV
 have := d5 (S := fun F => (di q_) (rU n F)) (fun f x r => ∃ i : Nat, x = (p, t.outs, (t.outs.length : Int), (i : Int)) ∧ i ≤ t.outs.length ∧ t.outs.length < f + i ∧ r = if (t.outs.drop i).contains p = true then .inl ((true, ()), ()) else .inr ((), ())) (fun x r ⟨i, _, h1, h2, _⟩ => by omega) (fun f x F hF r => ?_) n (p, t.outs, (t.outs.length : Int), 0) _ ⟨0, rfl, am _, by omega, rfl⟩
 ·rw [this, bh]
  cases h : t.outs.contains p <;> rfl
 ·rintro ⟨i, rfl, h1, h2, rfl⟩
  show rU n F p t.outs (t.outs.length : Int) (i : Int) = _
  unfold rU
  rcases ak i t.outs.length with hlt | hge
  ·rw [if_pos (af (by omega)), if_pos (dh hlt), ai, dk (by omega), dM (d := (0 : Int)) hlt, List.contains_cons]
   by_cases e : t.outs.getD i 0 = p
   ·rw [if_pos (ag.2 e), e, bb, Bool.true_or, if_pos rfl]
   ·rw [if_neg (fun h => e (ag.1 h))]
    have e2 : (p == t.outs.getD i 0) = false := by rw [aR]; exact fun h => e h.symm
    rw [e2, cq]
    exact hF _ _ ⟨i + 1, rfl, by omega, by omega, rfl⟩
  ·have : i = t.outs.length := by omega
   subst this
   rw [if_neg (by simp), aN]
   rfl
def j8 (m : Img) (t : Tsk) (i : da) : Bool :=
 if i.1 = 15 then decide (i.2.1 < m.inputs) else if i.1 = 16 then t.outs.contains i.2.1 else if i.1 = 17 then decide (i.2.2 < ((m.blocks.getD i.2.1.toNat []).length : Int)) else if i.1 = 18 then decide (i.2.2 < ((m.blocks.getD i.2.1.toNat []).length : Int)) else true
theorem Wb (n : Nat) (t : Tsk) (m : Img) (i : da) (ho : t.outs.length < n) (hn : n < 1000000) (hb : i.1 = 17 ∨ i.1 = 18 → 0 ≤ i.2.1 ∧ i.2.1 < (m.blocks.length : Int)) (l : List da) (v k : Int) :
  yt n true l v k t.1 t.2.1 t.2.2.1 t.2.2.2.1 t.2.2.2.2.1 t.2.2.2.2.2.1 t.2.2.2.2.2.2 m.1 m.2.1 m.2.2.1 m.2.2.2.1 m.2.2.2.2.1 m.2.2.2.2.2.1 m.2.2.2.2.2.2 i.1 i.2.1 i.2.2 = some (j8 m t i, l, v, k, t.1, t.2.1, t.2.2.1, t.2.2.2.1, t.2.2.2.2.1, t.2.2.2.2.2.1, t.2.2.2.2.2.2, m.1, m.2.1, m.2.2.1, m.2.2.2.1, m.2.2.2.2.1, m.2.2.2.2.2.1, m.2.2.2.2.2.2, i.1, i.2.1, i.2.2) := by
 unfold yt j8
 by_cases h15 : i.1 = 15
 ·rw [if_pos (ag.2 h15), if_pos h15]
 rw [if_neg (fun h => h15 (ag.1 h)), if_neg h15]
 by_cases h16 : i.1 = 16
 ·rw [if_pos (ag.2 h16), if_pos h16]
  have := Wa n t m i.2.1 ho hn
  show ((vW n (t, m) i.2.1).bind _) = _
  rw [this]; rfl
 rw [if_neg (fun h => h16 (ag.1 h)), if_neg h16]
 by_cases h17 : i.1 = 17
 ·have := hb (.inl h17)
  rw [if_pos (ag.2 h17), if_pos h17, if_pos (by rw [af this.1, af this.2]; rfl)]
 rw [if_neg (fun h => h17 (ag.1 h)), if_neg h17]
 by_cases h18 : i.1 = 18
 ·have := hb (.inr h18)
  rw [if_pos (ag.2 h18), if_pos h18, if_pos (by rw [af this.1, af this.2]; rfl)]
 rw [if_neg (fun h => h18 (ag.1 h)), if_neg h18]
theorem U7 (n : Nat) (t : Tsk) (m : Img) (hl : t.code.length < n) (ho : t.outs.length < n) (hn : n < 1000000) (hb : ∀ i ∈ t.code, i.1 = 17 ∨ i.1 = 18 → 0 ≤ i.2.1 ∧ i.2.1 < (m.blocks.length : Int)) : wb n (t, m) = some (if t.code.all (j8 m t) = true then 0 else 12) := by
 unfold wb vZ
 have := d5 (S := fun F => (ep (dr (di (C_ q_)))) (rV n F))
  (fun f x r => ∃ i : Nat, x = (t.code, (t.code.length : Int), (i : Int), t.1, t.2.1, t.2.2.1, t.2.2.2.1, t.2.2.2.2.1, t.2.2.2.2.2.1, t.2.2.2.2.2.2, m) ∧ i ≤ t.code.length ∧ t.code.length < f + i ∧ r = if (t.code.drop i).all (j8 m t) = true then .inr ((), ((t.1, t.2.1, t.2.2.1, t.2.2.2.1, t.2.2.2.2.1, t.2.2.2.2.2.1, t.2.2.2.2.2.2, m.1, m.2.1, m.2.2.1, m.2.2.2.1, m.2.2.2.2.1, m.2.2.2.2.2.1, m.2.2.2.2.2.2, ()), ())) else .inl ((12, ()), ((t.1, t.2.1, t.2.2.1, t.2.2.2.1, t.2.2.2.2.1, t.2.2.2.2.2.1, t.2.2.2.2.2.2, m.1, m.2.1, m.2.2.1, m.2.2.2.1, m.2.2.2.2.1, m.2.2.2.2.2.1, m.2.2.2.2.2.2, ()), ()))) (fun x r ⟨i, _, h1, h2, _⟩ => by omega) (fun f x F hF r => ?_) n (t.code, (t.code.length : Int), 0, t.1, t.2.1, t.2.2.1, t.2.2.2.1, t.2.2.2.2.1, t.2.2.2.2.2.1, t.2.2.2.2.2.2, m) _ ⟨0, rfl, am _, by omega, rfl⟩
 ·try dsimp only at this ⊢
  rw [this, bh]
  cases h : t.code.all (j8 m t) <;> rfl
 ·rintro ⟨i, rfl, h1, h2, rfl⟩
  show rV n F t.code (t.code.length : Int) (i : Int) t.1 t.2.1 t.2.2.1 t.2.2.2.1 t.2.2.2.2.1 t.2.2.2.2.2.1 t.2.2.2.2.2.2 m.1 m.2.1 m.2.2.1 m.2.2.2.1 m.2.2.2.2.1 m.2.2.2.2.2.1 m.2.2.2.2.2.2 = _
  unfold rV
  rcases ak i t.code.length with hlt | hge
  ·have hm : t.code.getD i (0, 0, 0) ∈ t.code := by rw [ar, av hlt]; exact aU hlt
   rw [if_pos (af (by omega)), if_pos (dh hlt), ai, Wb n t m _ ho hn (hb _ hm), dM (d := ((0 : Int), (0 : Int), (0 : Int))) hlt, b8]
   simp only [ae]
   cases e : j8 m t (t.code.getD i (0, 0, 0)) with
   | true =>
    rw [if_neg (by simp), dk (by omega), aS]
    exact hF _ _ ⟨i + 1, rfl, by omega, by omega, rfl⟩
   | false => rfl
  ·have : i = t.code.length := by omega
   subst this
   rw [if_neg (by simp), aN]
   rfl
theorem RK (l : List da) (i : Nat) : (kW l i).length ≤ 1 := by unfold kW; split <;> simp
theorem Gc (l : List da) : ∀ (r i : Nat), (gO l r i).length ≤ r
 | 0, i => by simp [gO]
 | r + 1, i => by
  have := Gc l r (i + 1)
  have h1 := RK l i
  rw [show gO l (r + 1) i = kW l i ++ gO l r (i + 1) from rfl, aM]
  omega
theorem RL (l : List da) : (fA l).length ≤ l.length := by
 unfold fA
 split
 ·exact Gc l _ _
 ·simp
theorem RM (n : Nat) (t : Tsk) (m : Img) (hl : t.code.length < n) (hn3 : 3 < n) (hn : n < 1000000) : vT n (t, m) = some (if el t.code ≠ 0 then el t.code else if fA t.code = t.blocks then 0 else 11) := by
 unfold vT
 rw [show n8 n ((t, m) : Tsk × Img).1.2.2.2.2.2.2 = some (fA t.code, el t.code) from F1 n t.code hl hn]
 simp only [ae]
 by_cases h0 : el t.code ≠ 0
 ·rw [if_pos (aj.2 h0), if_pos h0]
 rw [if_neg (fun h => h0 (aj.1 h)), if_neg h0]
 by_cases hlen : (fA t.code).length ≠ t.blocks.length
 ·rw [if_pos (show ((((fA t.code).length : Nat) : Int) != ((t.2.2.2.2.1.length : Nat) : Int)) = true from aj.2 (fun h => hlen (Int.ofNat.inj h))), if_neg (fun h => hlen (by rw [h]))]
 have hlen : (fA t.code).length = t.blocks.length := Decidable.not_not.1 hlen
 rw [if_neg (show ¬ ((((fA t.code).length : Nat) : Int) != ((t.2.2.2.2.1.length : Nat) : Int)) = true from fun h => aj.1 h (congrArg Int.ofNat hlen))]
 unfold vS
 have hk : (fA t.code).length ≤ t.code.length := RL t.code
 generalize fA t.code = L at hlen hk
 have := d5 (S := fun F => (ep (dr (di (C_ q_)))) (rT n F))
  (fun f x r => ∃ i : Nat, x = (L, (L.length : Int), (i : Int), t.1, t.2.1, t.2.2.1, t.2.2.2.1, t.2.2.2.2.1, t.2.2.2.2.2.1, t.2.2.2.2.2.2, m) ∧ i ≤ L.length ∧ L.length < f + i ∧ r = if L.drop i = t.blocks.drop i then .inr ((), ((t.1, t.2.1, t.2.2.1, t.2.2.2.1, t.2.2.2.2.1, t.2.2.2.2.2.1, t.2.2.2.2.2.2, m.1, m.2.1, m.2.2.1, m.2.2.2.1, m.2.2.2.2.1, m.2.2.2.2.2.1, m.2.2.2.2.2.2, ()), ())) else .inl ((11, ()), ((t.1, t.2.1, t.2.2.1, t.2.2.2.1, t.2.2.2.2.1, t.2.2.2.2.2.1, t.2.2.2.2.2.2, m.1, m.2.1, m.2.2.1, m.2.2.2.1, m.2.2.2.2.1, m.2.2.2.2.2.1, m.2.2.2.2.2.2, ()), ()))) (fun x r ⟨i, _, h1, h2, _⟩ => by omega) (fun f x F hF r => ?_) n (L, (L.length : Int), 0, t.1, t.2.1, t.2.2.1, t.2.2.2.1, t.2.2.2.2.1, t.2.2.2.2.2.1, t.2.2.2.2.2.2, m) _ ⟨0, rfl, am _, by omega, rfl⟩
 ·try dsimp only at this ⊢
  rw [this, bh, bh]
  by_cases h : L = t.blocks
  ·rw [if_pos h, if_pos h]; rfl
  ·rw [if_neg h, if_neg h]; rfl
 ·rintro ⟨i, rfl, h1, h2, rfl⟩
  show rT n F L (L.length : Int) (i : Int) t.1 t.2.1 t.2.2.1 t.2.2.2.1 t.2.2.2.2.1 t.2.2.2.2.2.1 t.2.2.2.2.2.2 m.1 m.2.1 m.2.2.1 m.2.2.2.1 m.2.2.2.2.1 m.2.2.2.2.2.1 m.2.2.2.2.2.2 = _
  unfold rT
  rcases ak i L.length with hlt | hge
  ·have hlt2 : i < t.2.2.2.2.1.length := by have : t.blocks.length = t.2.2.2.2.1.length := rfl; omega
   rw [if_pos (af (by omega)), if_pos (dh hlt), if_pos (dh hlt2), ai, dM (d := (0 : Int)) hlt, show t.blocks.drop i = t.2.2.2.2.1.getD i 0 :: t.blocks.drop (i + 1) from dM (d := (0 : Int)) hlt2]
   by_cases e : L.getD i 0 = t.2.2.2.2.1.getD i 0
   ·rw [if_neg (fun h => aj.1 h e), dk (by omega), e]
    refine hF _ _ ⟨i + 1, rfl, by omega, by omega, ?_⟩
    simp only [bA, true_and]
   ·rw [if_pos (aj.2 e), if_neg (fun h => e (List.cons.inj h).1)]
  ·have : i = L.length := by omega
   subst this
   rw [if_neg (by simp), aN, hlen, aN]
   rfl
theorem tT (n : Int) : IntKind.u64.wrap n = n % 18446744073709551616 := by simp [IntKind.wrap, IntKind.bits, IntKind.signed]
theorem Wc (n : Nat) (a : Int) : ∃ y, nJ n a = some y ∧ 0 ≤ y ∧ y < 18446744073709551616 := by
 unfold nJ
 refine ⟨_, rfl, ?_, ?_⟩
 ·unfold bits
  rw [tT]
  exact Int.emod_nonneg _ (by decide)
 ·unfold bits
  rw [tT]
  exact Int.emod_lt_of_pos _ (by decide)
theorem JA (n : Nat) : ∀ (f g : Nat) (o : List Int) (v : Int), 0 ≤ v → v < 128 ^ g → g < f → o.length + g < 1000 → ∃ o' v', it (fun F => q_ (jh n F)) f (o, v) = some (o', v') ∧ o'.length ≤ o.length + g
 | 0, g, o, v, h0, h1, hg, h2 => by omega
 | f + 1, g, o, v, h0, h1, hg, h2 => by
  have ih := JA n f
  show ∃ o' v', jh n (it _ f) o v = some (o', v') ∧ _
  generalize it (fun F => q_ (jh n F)) f = F at ih ⊢
  unfold jh
  by_cases h : 128 ≤ v
  ·obtain _ | g := g
   ·rw [Int.pow_zero] at h1
    omega
   rw [if_pos (af h), if_pos (by rw [af (by omega), af (by omega)]; rfl)]
   have hd : v.tdiv 128 = v / 128 := ce h0
   have hv : v / 128 < 128 ^ g := by
    rw [Int.pow_succ] at h1
    exact Int.ediv_lt_of_lt_mul (by decide) h1
   obtain ⟨o', v', h3, h4⟩ := ih g (o ++ [(IntKind.wrap .u8 (IntKind.wrap .u64 ((v.tmod 128) + 128)))]) ((IntKind.wrap .u64 (v.tdiv 128))) (by rw [tT]; exact Int.emod_nonneg _ (by decide)) (by
    rw [tT, hd]
    exact Int.lt_of_le_of_lt (by omega) hv) (by omega) (by rw [aM]; show _ + 1 + g < 1000; omega)
   rw [aM] at h4
   exact ⟨o', v', h3, by have : [IntKind.u8.wrap (IntKind.u64.wrap (v.tmod 128 + 128))].length = 1 := rfl; omega⟩
  ·rw [if_neg (by simpa using h)]
   exact ⟨o, v, rfl, by omega⟩
theorem xQ (l : List Int) : (eH l).size = l.length := by
 unfold eH ByteArray.size
 simp
theorem RN (n : Nat) (hn : 10 < n) (a : Int) : ∃ y, fK n a = some y ∧ y.size ≤ 11 := by
 obtain ⟨u, h1, h2, h3⟩ := Wc n a
 unfold fK oE
 rw [h1, ae]
 obtain ⟨o, v, h4, h5⟩ := JA n n 10 [] u h2 (Int.lt_trans h3 (by decide)) hn (by decide)
 have h5 : o.length ≤ 10 := by simpa using h5
 rw [h4, ae]
 dsimp only
 rw [if_pos (by rw [af (by omega), af (by omega)]; rfl)]
 refine ⟨_, rfl, ?_⟩
 rw [xQ, aM]
 show _ + 1 ≤ 11
 omega
theorem Wd (n : Nat) (x : da) : ∃ y, nl n x.1 = some y := by
 have h := fG n x
 unfold dj at h
 match h2 : nl n x.1 with
 | some y => exact ⟨y, rfl⟩
 | none => rw [h2] at h; cases h
theorem JB (y : ByteArray) : ∀ (k i : Nat) (r : List UInt8), y.size - i = k → r.length ≤ (ByteArray.toList.loop y i r).length
 | 0, i, r, h => by
  unfold ByteArray.toList.loop
  rw [if_neg (by omega), List.length_reverse]
  exact aq _
 | k + 1, i, r, h => by
  unfold ByteArray.toList.loop
  rw [if_pos (by omega)]
  have := JB y k (i + 1) (y.get! i :: r) (by omega)
  rw [aE] at this
  omega
theorem JC : (ByteArray.mk #[]).toList = [] := by
 unfold ByteArray.toList ByteArray.toList.loop
 rw [if_neg (by decide)]
 rfl
theorem sG {y : ByteArray} (h : 0 < y.size) : (y.toList == (ByteArray.mk #[]).toList) = false := by
 rw [JC, aR]
 intro h1
 have : (ByteArray.toList.loop y 0 []).length = 0 := by
  have : y.toList = ByteArray.toList.loop y 0 [] := rfl
  rw [← this, h1]
  rfl
 unfold ByteArray.toList.loop at this
 rw [if_pos h] at this
 have h2 := JB y _ (0 + 1) [y.get! 0] rfl
 rw [this] at h2
 exact absurd h2 (Nat.not_succ_le_zero 0)
theorem Gd (n : Nat) (hn : 10 < n) (x : da) : ∃ y, fh n x = some y ∧ y.size ≤ 30 ∧ (y.toList == (ByteArray.mk #[]).toList) = !dR x := by
 obtain ⟨o, ho⟩ := Wd n x
 obtain ⟨p, hp1, hp2⟩ := RN n hn x.2.1
 obtain ⟨q, hq1, hq2⟩ := RN n hn x.2.2
 have hs : (eH ([(IntKind.wrap .u8 x.1)])).size = 1 := xQ _
 unfold fh jA
 have hr : dj n (x.1, x.2.1, x.2.2) = some (dR x) := fG n x
 rw [hr, ae]
 cases hb : dR x with
 | false => exact ⟨_, rfl, by decide, by rw [bb]; rfl⟩
 | true =>
  rw [if_neg (by simp), ho, hp1, hq1]
  simp only [ae]
  split
  ·rw [if_pos (af (by omega))]
   split
   ·have : (eH ([(IntKind.wrap .u8 x.1)]) ++ p).size = 1 + p.size := by rw [bH, hs]
    rw [if_pos (af (by omega))]
    refine ⟨_, rfl, ?_, ?_⟩
    ·rw [bH, this]; omega
    ·exact sG (by rw [bH, this]; omega)
   ·have : (eH ([(IntKind.wrap .u8 x.1)]) ++ p).size = 1 + p.size := by rw [bH, hs]
    exact ⟨_, rfl, by omega, sG (by omega)⟩
  ·split
   ·rw [if_pos (af (by omega))]
    have : (eH ([(IntKind.wrap .u8 x.1)]) ++ q).size = 1 + q.size := by rw [bH, hs]
    exact ⟨_, rfl, by omega, sG (by omega)⟩
   ·exact ⟨_, rfl, by omega, sG (by omega)⟩
def Says (o : Option Bool) (p : Prop) : Prop := ∃ b, o = some b ∧ (b = true ↔ p)
theorem Says.dec {p : Prop} [Decidable p] : Says (some (decide p)) p := ⟨_, rfl, bZ⟩
theorem Says.and {o : Option Bool} {f : Bool → Option Bool} {p q : Prop} (h : Says o p) (k : Says (f true) q) (g : f false = some false) : Says (o.bind f) (p ∧ q) := by
 obtain ⟨b, h1, h2⟩ := h
 obtain ⟨c, k1, k2⟩ := k
 rw [h1]
 cases b with
 | true => exact ⟨c, k1, by rw [k2]; exact ⟨fun e => ⟨h2.1 rfl, e⟩, fun e => e.2⟩⟩
 | false => exact ⟨false, g, ⟨fun e => absurd e (by decide), fun e => absurd (h2.2 e.1) (by decide)⟩⟩
theorem Says.iff {o : Option Bool} {p q : Prop} (h : Says o p) (k : p ↔ q) : Says o q := by
 obtain ⟨b, h1, h2⟩ := h
 exact ⟨b, h1, h2.trans k⟩
theorem Says.no {p : Prop} (h : ¬ p) : Says (some false) p := ⟨false, rfl, fun e => absurd e (by decide), fun e => absurd e h⟩
def Rises (e : Int) : Int → List Int → Prop
 | _, [] => True
 | b, x :: l => b < x ∧ x < e ∧ Rises e x l
theorem JD (n : Nat) (l : List Int) (e : Int) (he : 0 ≤ e) (hen : e + 1 < n) (hn : n < 1000000) : Says (iX n l e) (Rises e (-1) l) := by
 unfold iX lq
 have := d5 (S := fun F => (di (C_ q_)) (im n F)) (fun f x r => ∃ (i : Nat) (b : Int) (c : Bool), x = (e, b, l, (l.length : Int), (i : Int)) ∧ (i ≤ l.length ∧ (i : Int) ≤ b + 1 ∧ b < e) ∧ e < b + f ∧ (c = true ↔ Rises e b (l.drop i)) ∧ r = if c = true then .inr ((), ()) else .inl ((false, ()), ())) (fun x r ⟨i, b, c, _, h1, h2, _⟩ => by omega) (fun f x F hF r => ?_) n (e, -1, l, (l.length : Int), 0)
 ·classical
  refine ⟨decide (Rises e (-1) l), ?_, bZ⟩
  rw [this _ ⟨0, -1, decide (Rises e (-1) l), rfl, ⟨am _, by omega, by omega⟩, by omega, bZ, rfl⟩]
  cases decide (Rises e (-1) l) <;> rfl
 ·rintro ⟨i, b, c, rfl, h1, h2, hc, rfl⟩
  show im n F e b l (l.length : Int) (i : Int) = _
  unfold im
  rcases ak i l.length with hlt | hge
  ·rw [dM (d := (0 : Int)) hlt] at hc
   rw [if_pos (af (by omega)), if_pos (dh hlt), ai, dk (by omega)]
   have hno : ∀ (h : ¬ (b < l.getD i 0 ∧ l.getD i 0 < e)), c = false := fun h => by
    cases c with
    | false => rfl
    | true => exact absurd ⟨(hc.1 rfl).1, (hc.1 rfl).2.1⟩ h
   by_cases g1 : l.getD i 0 ≤ b
   ·rw [if_pos (af g1), hno (by omega)]; rfl
   rw [if_neg (by simpa using g1)]
   by_cases g2 : l.getD i 0 ≥ e
   ·rw [if_pos (af g2), hno (by omega)]; rfl
   rw [if_neg (by simpa using g2)]
   exact hF _ _ ⟨i + 1, l.getD i 0, c, rfl, by omega, by omega, hc.trans ⟨fun h => h.2.2, fun h => ⟨by omega, by omega, h⟩⟩, rfl⟩
  ·have : i = l.length := by omega
   subst this
   rw [aN] at hc
   rw [if_neg (by simp), if_pos (hc.2 trivial)]
theorem Rises.len {e : Int} : ∀ {l : List Int} {b : Int}, Rises e b l → b < e → (l.length : Int) ≤ e - 1 - b
 | [], b, _, h => by simp; omega
 | x :: l, b, h, h1 => by
  have := Rises.len h.2.2 h.2.1
  have := h.1
  rw [aE]
  omega
theorem Rises.mem {e : Int} : ∀ {l : List Int} {b : Int}, Rises e b l → ∀ x ∈ l, b < x ∧ x < e
 | x :: l, b, h, y, hy => by
  rcases aA.1 hy with rfl | hy
  ·exact ⟨h.1, h.2.1⟩
  ·have := Rises.mem h.2.2 y hy
   have := h.1
   omega
theorem Kl {y : ByteArray} (h : y.size = 0) : y.toList = [] := by
 unfold ByteArray.toList ByteArray.toList.loop
 rw [if_neg (by omega)]
 rfl
def Bh (n : Nat) (s : ByteArray) (l : List da) : ByteArray := l.foldl (fun s x => s ++ (fh n x).getD (ByteArray.mk #[])) s
theorem Km (n : Nat) (hn : 10 < n) {x : da} (hx : dR x = true) : ∃ y, fh n x = some y ∧ 1 ≤ y.size ∧ y.size ≤ 30 := by
 obtain ⟨y, h1, h2, h3⟩ := Gd n hn x
 refine ⟨y, h1, ?_, h2⟩
 rcases bQ y.size with h | h
 ·rw [Kl h, JC, hx] at h3
  exact absurd h3 (by decide)
 ·exact h
theorem Ge (n : Nat) (hn : 10 < n) : ∀ (l : List da) (s : ByteArray), (∀ x ∈ l, dR x = true) → s.size + l.length ≤ (Bh n s l).size
 | [], s, _ => aq _
 | x :: l, s, h => by
  obtain ⟨y, h1, h2, _⟩ := Km n hn (h x aB)
  have := Ge n hn l (s ++ (fh n x).getD (ByteArray.mk #[])) fun y hy => h y (ay _ hy)
  rw [bH, h1, bq] at this
  show _ ≤ (Bh n (s ++ (fh n x).getD (ByteArray.mk #[])) l).size
  rw [h1, bq, aE]
  omega
def JE (l : List da) : Prop := 1 ≤ l.length ∧ l.length ≤ 200 ∧ ∀ x ∈ l, dR x = true
theorem We (n : Nat) (hn : 200 < n) (l : List da) : Says ((nZ n l).bind fun y4 => some (!(y4.toList == (ByteArray.mk #[]).toList))) (JE l) := by
 unfold nZ pH
 by_cases hl : ¬ l.length ≤ 200
 ·rw [if_pos (af (by omega)), ae, bb]
  exact Says.no (fun h => hl h.2.1)
 have hl : l.length ≤ 200 := Decidable.not_not.1 hl
 rw [if_neg (by simp; omega)]
 have := d5 (S := fun F => (di q_) (mg n F)) (fun f x r => ∃ (i : Nat) (s : ByteArray), x = (s, l, (l.length : Int), (i : Int)) ∧ i ≤ l.length ∧ l.length < f + i ∧ s.size ≤ 30 * i ∧ r = if (l.drop i).all dR = true then .inr ((Bh n s (l.drop i), ()), ()) else .inl ((ByteArray.mk #[], ()), ())) (fun x r ⟨i, s, _, h1, h2, _⟩ => by omega) (fun f x F hF r => ?_) n (ByteArray.mk #[], l, (l.length : Int), 0) _ ⟨0, _, rfl, am _, by omega, by decide, rfl⟩
 ·rw [this, bh, ae]
  cases h : l.all dR with
  | true =>
   have hr : ∀ x ∈ l, dR x = true := aL.1 h
   have hs := Ge n (by omega) l (ByteArray.mk #[]) hr
   refine Says.iff (p := 1 ≤ l.length) ?_ ⟨fun h => ⟨h, hl, hr⟩, fun h => h.1⟩
   refine ⟨_, rfl, ?_⟩
   show (!((Bh n (ByteArray.mk #[]) l).toList == (ByteArray.mk #[]).toList)) = true ↔ _
   by_cases h1 : 1 ≤ l.length
   ·rw [sG (by omega)]
    exact ⟨fun _ => h1, fun _ => rfl⟩
   ·have : l = [] := List.length_eq_zero_iff.1 (by omega)
    subst this
    rw [show Bh n (ByteArray.mk #[]) [] = ByteArray.mk #[] from rfl, bb]
    exact ⟨fun h => absurd h (by decide), fun h => absurd h h1⟩
  | false =>
   rw [if_neg (by decide)]
   show Says (some (!((ByteArray.mk #[]).toList == (ByteArray.mk #[]).toList))) _
   rw [bb]
   exact Says.no (fun k => by rw [aL.2 k.2.2] at h; cases h)
 ·rintro ⟨i, s, rfl, h1, h2, hs, rfl⟩
  show mg n F s l (l.length : Int) (i : Int) = _
  unfold mg
  rcases ak i l.length with hlt | hge
  ·obtain ⟨y, e1, e2, e3⟩ := Gd n (by omega) (l.getD i (0, 0, 0))
   rw [if_pos (af (by omega)), if_pos (dh hlt), ai, dk (by omega), show fh n ((l.getD i (0, 0, 0)).1, (l.getD i (0, 0, 0)).2.1, (l.getD i (0, 0, 0)).2.2) = some y from e1, ae, e3, dM (d := ((0 : Int), (0 : Int), (0 : Int))) hlt, b8]
   cases hb : dR (l.getD i (0, 0, 0)) with
   | false => rfl
   | true =>
    rw [if_neg (by decide), if_pos (af (by omega)), aS]
    refine hF _ _ ⟨i + 1, _, rfl, by omega, by omega, by rw [bH]; omega, ?_⟩
    rw [show Bh n s (l.getD i (0, 0, 0) :: l.drop (i + 1)) = Bh n (s ++ (fh n (l.getD i (0, 0, 0))).getD (ByteArray.mk #[])) (l.drop (i + 1)) from rfl, e1, bq]
  ·have : i = l.length := by omega
   subst this
   rw [if_neg (by simp), aN]
   rfl
def CJ (t : Tsk) : Prop := (1 ≤ t.1 ∧ t.1 ≤ 100) ∧ (1 ≤ t.2.1 ∧ t.2.1 ≤ 1048576) ∧ (1 ≤ t.2.2.1 ∧ t.2.2.1 ≤ t.2.1) ∧ (0 ≤ t.2.2.2.1 ∧ t.2.2.2.1 ≤ 1048576)
def mS (m : Img) (t : Tsk) : Prop := CJ t ∧ Rises m.blocks.length (-1) t.blocks ∧ Rises m.safe.length (-1) t.outs ∧ JE t.code
theorem NG (n : Nat) (t : Tsk) : Says ((ey n t).bind fun y1 => some (Sh.eqT (.arr 4 (.int .i64)) y1 [t.1, t.2.1, t.2.2.1, t.2.2.2.1])) (CJ t) := by
 obtain ⟨a, b, c, d, t⟩ := t
 unfold ey CJ
 refine ⟨_, rfl, ?_⟩
 dsimp only
 rw [show ∀ x1 x2 x3 x4 y1 y2 y3 y4 : Int, Sh.eqT (.arr 4 (.int .i64)) [x1, x2, x3, x4] [y1, y2, y3, y4] = (x1 == y1 && (x2 == y2 && (x3 == y3 && (x4 == y4 && true)))) from fun _ _ _ _ _ _ _ _ => rfl]
 simp only [ao, ag, ba]
 constructor
 ·rintro ⟨h1, h2, h3, h4⟩
  repeat' split at h1
  all_goals (repeat' split at h4)
  all_goals (rw [h2] at h3; repeat' split at h2)
  all_goals (repeat' split at h3)
  all_goals omega
 ·rintro ⟨⟨h1, h2⟩, ⟨h3, h4⟩, ⟨h5, h6⟩, h7, h8⟩
  have e : (if (if 1048576 < b then 1048576 else b) > 1 then (if 1048576 < b then 1048576 else b) else 1) = b := by
   rw [if_neg (show ¬ 1048576 < b by omega)]; split <;> omega
  rw [e, if_neg (show ¬ 100 < a by omega), if_neg (show ¬ b < c by omega), if_neg (show ¬ 1048576 < d by omega)]
  refine ⟨?_, rfl, ?_, ?_⟩ <;> (split <;> omega)
theorem GO (n : Nat) (hn : 200 < n) (hn2 : n < 1000000) (m : Img) (t : Tsk) (hb : m.blocks.length + 1 < n) (ho : m.safe.length + 1 < n) : Says (fQ n t m) (mS m t) := by
 obtain ⟨b, h1, h2⟩ := NG n t
 unfold fQ
 unfold Option.bind at h1
 rw [show ey n (t.1, t.2.1, t.2.2.1, t.2.2.2.1, t.2.2.2.2.1, t.2.2.2.2.2.1, t.2.2.2.2.2.2) = ey n t from rfl]
 match hy : ey n t with
 | none => rw [hy] at h1; cases h1
 | some y =>
  rw [hy] at h1
  have h1 : Sh.eqT (.arr 4 (.int .i64)) y [t.1, t.2.1, t.2.2.1, t.2.2.2.1] = b := au h1
  rw [ae, h1]
  cases b with
  | false => exact Says.no (fun h => by have := h2.2 h.1; cases this)
  | true =>
   rw [if_neg (by decide)]
   have hN : CJ t := h2.1 rfl
   by_cases h0 : t.code.length = 0
   ·rw [if_pos (show (((t.2.2.2.2.2.2.length : Nat) : Int) == 0) = true from ag.2 (by have : t.code.length = t.2.2.2.2.2.2.length := rfl; omega))]
    exact Says.no (fun h => by have := h.2.2.2.1; omega)
   ·rw [if_neg (show ¬ (((t.2.2.2.2.2.2.length : Nat) : Int) == 0) = true from fun h => h0 (by have h := ag.1 h; have : t.code.length = t.2.2.2.2.2.2.length := rfl; omega))]
    refine Says.iff (p := Rises m.blocks.length (-1) t.blocks ∧ Rises m.safe.length (-1) t.outs ∧ JE t.code) ?_ ⟨fun h => ⟨hN, h⟩, fun h => h.2⟩
    exact Says.and (JD n t.blocks (m.blocks.length : Int) (by omega) (by omega) hn2) (Says.and (JD n t.outs (m.safe.length : Int) (by omega) (by omega) hn2) (We n hn t.code) rfl) rfl
def apart : List Int → List Int → Bool
 | _, [] => true
 | s, x :: l => !s.contains x && apart (s ++ [x]) l
def nP : List Int → List Int → List Int
 | s, [] => s
 | s, x :: l => if s.contains x = true then s else nP (s ++ [x]) l
theorem Gf : ∀ {l s : List Int}, apart s l = true → nP s l = s ++ l
 | [], s, _ => by simp [nP]
 | x :: l, s, h => by
  unfold apart at h
  rw [ao, b9] at h
  unfold nP
  rw [if_neg (by rw [h.1]; decide), Gf h.2, aO]
  rfl
theorem p9 : ∀ {l k s : List Int}, apart s (l ++ k) = (apart s l && apart (s ++ l) k)
 | [], k, s => by simp [apart]
 | x :: l, k, s => by
  rw [List.cons_append, show apart s (x :: (l ++ k)) = (!s.contains x && apart (s ++ [x]) (l ++ k)) from rfl, show apart s (x :: l) = (!s.contains x && apart (s ++ [x]) l) from rfl, p9, Bool.and_assoc, aO]
  rfl
def own (s : List Int) : List Bool := (List.range 16).map fun i => s.contains ((i : Nat) : Int)
theorem Wf (s : List Int) {o : Int} (h0 : 0 ≤ o) (h1 : o < 16) : (own s).getD o.toNat false = s.contains o := by
 unfold own
 rw [ar, bC, cd (by omega)]
 simp [Int.toNat_of_nonneg h0]
theorem Wg (s : List Int) {o : Int} (h0 : 0 ≤ o) (h1 : o < 16) : (own s).set o.toNat true = own (s ++ [o]) := by
 apply List.ext_getElem
 ·simp [own]
 ·intro i h2 h3
  have hi : i < 16 := by simpa [own] using h3
  rw [List.getElem_set]
  unfold own
  simp only [List.getElem_map, List.getElem_range, List.contains_append]
  by_cases h : o.toNat = i
  ·rw [if_pos h]
   have : ((i : Nat) : Int) = o := by omega
   rw [this]
   simp
  ·rw [if_neg h]
   have : ((i : Nat) : Int) ≠ o := by omega
   simp [this]
theorem NH (n : Nat) (m : Img) (T : List Tsk) (a k : Int) (l : List Int) (hl : l.length < n) (hn : n < 1000000) (hb : ∀ x ∈ l, 0 ≤ x ∧ x < 16) (s : List Int) : qx n (T, a, k, l, (l.length : Int), 0, m.1, m.2.1, m.2.2.1, m.2.2.2.1, m.2.2.2.2.1, m.2.2.2.2.2.1, m.2.2.2.2.2.2, own s) = some (if apart s l = true then .inr ((T, a, k, ()), ((m.1, m.2.1, m.2.2.1, m.2.2.2.1, m.2.2.2.2.1, m.2.2.2.2.2.1, m.2.2.2.2.2.2, ()), (own (nP s l), ()), ())) else .inl ((false, ()), ((m.1, m.2.1, m.2.2.1, m.2.2.2.1, m.2.2.2.2.1, m.2.2.2.2.2.1, m.2.2.2.2.2.2, ()), (own (nP s l), ()), ()))) := by
 unfold qx
 refine d5 (S := fun F => (ep (dr q_)) (rK n F))
  (fun f x r => ∃ (i : Nat) (s : List Int), x = (T, a, k, l, (l.length : Int), (i : Int), m.1, m.2.1, m.2.2.1, m.2.2.2.1, m.2.2.2.2.1, m.2.2.2.2.2.1, m.2.2.2.2.2.2, own s) ∧ i ≤ l.length ∧ l.length < f + i ∧ r = if apart s (l.drop i) = true then .inr ((T, a, k, ()), ((m.1, m.2.1, m.2.2.1, m.2.2.2.1, m.2.2.2.2.1, m.2.2.2.2.2.1, m.2.2.2.2.2.2, ()), (own (nP s (l.drop i)), ()), ())) else .inl ((false, ()), ((m.1, m.2.1, m.2.2.1, m.2.2.2.1, m.2.2.2.2.1, m.2.2.2.2.2.1, m.2.2.2.2.2.2, ()), (own (nP s (l.drop i)), ()), ()))) (fun x r ⟨i, s, _, h1, h2, _⟩ => by omega) (fun f x F hF r => ?_) n _ _ ⟨0, s, rfl, am _, by omega, rfl⟩
 rintro ⟨i, s, rfl, h1, h2, rfl⟩
 show rK n F T a k l (l.length : Int) (i : Int) m.1 m.2.1 m.2.2.1 m.2.2.2.1 m.2.2.2.2.1 m.2.2.2.2.2.1 m.2.2.2.2.2.2 (own s) = _
 unfold rK
 rcases ak i l.length with hlt | hge
 ·have hm : l.getD i 0 ∈ l := by rw [ar, av hlt]; exact aU hlt
  obtain ⟨h3, h4⟩ := hb _ hm
  have h5 : (decide (0 ≤ l.getD i 0) && decide (l.getD i 0 < 16)) = true := by rw [af h3, af h4]; rfl
  rw [if_pos (af (by omega)), if_pos (dh hlt), ai, if_pos h5, Wf s h3 h4, dM (d := (0 : Int)) hlt, dk (by omega)]
  unfold apart nP
  cases h : s.contains (l.getD i 0) with
  | true => rfl
  | false =>
   rw [if_neg (show ¬ (false = true) by decide), if_neg (show ¬ (false = true) by decide), if_pos h5, Wg s h3 h4, Bool.not_false, aS]
   exact hF _ _ ⟨i + 1, _, rfl, by omega, by omega, rfl⟩
 ·have : i = l.length := by omega
  subst this
  rw [if_neg (by simp), aN]
  rfl
def TasksOk (m : Img) : List Int → List Tsk → Prop
 | _, [] => True
 | s, t :: l => mS m t ∧ apart s t.outs = true ∧ TasksOk m (s ++ t.outs) l
theorem TasksOk.all {m : Img} : ∀ {l : List Tsk} {s : List Int}, TasksOk m s l ↔ (∀ t ∈ l, mS m t) ∧ apart s (l.flatMap Tsk.outs) = true
 | [], s => by simp [TasksOk, apart]
 | t :: l, s => by
  unfold TasksOk
  rw [TasksOk.all, cB, p9, ao, List.forall_mem_cons]
  exact ⟨fun ⟨h1, h2, h3, h4⟩ => ⟨⟨h1, h3⟩, h2, h4⟩, fun ⟨⟨h1, h3⟩, h2, h4⟩ => ⟨h1, h2, h3, h4⟩⟩
open Classical in
def CK (m : Img) : List Int → List Tsk → List Int
 | s, [] => s
 | s, t :: l => if mS m t then (if apart s t.outs = true then CK m (s ++ t.outs) l else nP s t.outs) else s
theorem NI (n : Nat) (hn : 200 < n) (hn2 : n < 1000000) (m : Img) (hbl : m.blocks.length + 1 < n) (hs : m.safe.length ≤ 16) (hT : m.tasks.length < n) :
  Says ((qy n (m.tasks, (m.tasks.length : Int), 0, m.1, m.2.1, m.2.2.1, m.2.2.2.1, m.2.2.2.2.1, m.2.2.2.2.2.1, m.2.2.2.2.2.2, own [])).bind fun y => Sum.elim (fun z => some z.1.1) (fun z => some true) y) (TasksOk m [] m.tasks) := by
 unfold qy
 have hit := d5 (S := fun F => (ep (C_ q_)) (rL n F))
  (fun f x r => ∃ (i : Nat) (s : List Int) (c : Bool), x = (m.tasks, (m.tasks.length : Int), (i : Int), m.1, m.2.1, m.2.2.1, m.2.2.2.1, m.2.2.2.2.1, m.2.2.2.2.2.1, m.2.2.2.2.2.2, own s) ∧ i ≤ m.tasks.length ∧ m.tasks.length < f + i ∧ (c = true ↔ TasksOk m s (m.tasks.drop i)) ∧ r = if c = true then .inr ((), ((m.1, m.2.1, m.2.2.1, m.2.2.2.1, m.2.2.2.2.1, m.2.2.2.2.2.1, m.2.2.2.2.2.2, ()), (own (CK m s (m.tasks.drop i)), ()), ())) else .inl ((false, ()), ((m.1, m.2.1, m.2.2.1, m.2.2.2.1, m.2.2.2.2.1, m.2.2.2.2.2.1, m.2.2.2.2.2.2, ()), (own (CK m s (m.tasks.drop i)), ()), ()))) (fun x r ⟨i, s, c, _, h1, h2, _⟩ => by omega) (fun f x F hF r => ?_) n (m.tasks, (m.tasks.length : Int), 0, m.1, m.2.1, m.2.2.1, m.2.2.2.1, m.2.2.2.2.1, m.2.2.2.2.2.1, m.2.2.2.2.2.2, own [])
 ·have := Classical.propDecidable (TasksOk m [] m.tasks)
  refine ⟨decide (TasksOk m [] m.tasks), ?_, bZ⟩
  rw [hit _ ⟨0, [], decide (TasksOk m [] m.tasks), rfl, am _, by omega, bZ, rfl⟩, ae]
  cases decide (TasksOk m [] m.tasks) <;> rfl
 ·rintro ⟨i, s, c, rfl, h1, h2, hc, rfl⟩
  show rL n F m.tasks (m.tasks.length : Int) (i : Int) m.1 m.2.1 m.2.2.1 m.2.2.2.1 m.2.2.2.2.1 m.2.2.2.2.2.1 m.2.2.2.2.2.2 (own s) = _
  unfold rL
  rcases ak i m.tasks.length with hlt | hge
  ·rw [dM (d := ((0 : Int), (0 : Int), (0 : Int), (0 : Int), ([] : List Int), ([] : List Int), ([] : List da))) hlt] at hc ⊢
   rw [if_pos (af (by omega)), if_pos (dh hlt), ai]
   generalize m.tasks.getD i (0, 0, 0, 0, [], [], []) = t at hc ⊢
   obtain ⟨b, e1, e2⟩ := GO n hn hn2 m t hbl (by omega)
   rw [show fQ n (t.1, t.2.1, t.2.2.1, t.2.2.2.1, t.2.2.2.2.1, t.2.2.2.2.2.1, t.2.2.2.2.2.2) (m.1, m.2.1, m.2.2.1, m.2.2.2.1, m.2.2.2.2.1, m.2.2.2.2.2.1, m.2.2.2.2.2.2) = some b from e1, ae]
   cases b with
   | false =>
    have ht : ¬ mS m t := fun h => by have := e2.2 h; cases this
    have hc0 : c = false := by cases c with
     | false => rfl
     | true => exact absurd (hc.1 rfl).1 ht
    rw [hc0]
    unfold CK
    rw [if_neg ht]
    rfl
   | true =>
    have ht : mS m t := e2.1 rfl
    have hr := ht.2.2.1
    have hlen := hr.len (by omega)
    have hmem := hr.mem
    rw [if_neg (by decide), NH n m m.tasks _ _ t.outs (by omega) hn2 (fun x hx => by have := hmem x hx; omega) s, ae]
    unfold CK
    rw [if_pos ht]
    cases ha : apart s t.outs with
    | false =>
     have hc0 : c = false := by cases c with
      | false => rfl
      | true => have := (hc.1 rfl).2.1; rw [ha] at this; cases this
     rw [hc0]
     rfl
    | true =>
     rw [if_pos rfl, Gf ha, if_pos rfl]
     dsimp only [Sum.elim_inr]
     rw [dk (by omega)]
     exact hF _ _ ⟨i + 1, s ++ t.outs, c, rfl, by omega, by omega, hc.trans ⟨fun h => h.2.2, fun h => ⟨ht, ha, h⟩⟩, rfl⟩
  ·have : i = m.tasks.length := by omega
   subst this
   rw [aN] at hc ⊢
   rw [if_neg (by simp), if_pos (hc.2 trivial)]
   rfl
def yC (m : Img) : Prop := (0 ≤ m.1 ∧ m.1 ≤ 100) ∧ (1 ≤ m.2.1 ∧ m.2.1 ≤ 100) ∧ (1 ≤ m.2.2.1 ∧ m.2.2.1 ≤ 100) ∧ (0 ≤ m.2.2.2.1 ∧ m.2.2.2.1 ≤ 16) ∧ m.safe.length ≤ 16 ∧ m.blocks.length ≤ 8 ∧ (1 ≤ m.tasks.length ∧ m.tasks.length ≤ 8)
def nD (l : List (List Int)) : Prop := ∀ b ∈ l, 1 ≤ b.length ∧ b.length ≤ 8
def RightP (m : Img) : Prop := yC m ∧ nD m.blocks ∧ TasksOk m [] m.tasks
theorem NJ (n : Nat) (hn2 : n < 1000000) (m : Img) (hT : m.blocks.length < n) (F : Option Bool) :
  ∃ c, (c = true ↔ nD m.blocks) ∧ qw n (m.blocks, (m.blocks.length : Int), 0, m.1, m.2.1, m.2.2.1, m.2.2.2.1, m.2.2.2.2.1, m.2.2.2.2.2.1, m.2.2.2.2.2.2) = some (if c = true then .inr ((), ((m.1, m.2.1, m.2.2.1, m.2.2.2.1, m.2.2.2.2.1, m.2.2.2.2.2.1, m.2.2.2.2.2.2, ()), ())) else .inl ((false, ()), ((m.1, m.2.1, m.2.2.1, m.2.2.2.1, m.2.2.2.2.1, m.2.2.2.2.2.1, m.2.2.2.2.2.2, ()), ()))) := by
 unfold qw
 have := Classical.propDecidable (nD m.blocks)
 refine ⟨decide (nD m.blocks), bZ, ?_⟩
 refine d5 (S := fun F => (ep q_) (rJ n F))
  (fun f x r => ∃ (i : Nat) (c : Bool), x = (m.blocks, (m.blocks.length : Int), (i : Int), m.1, m.2.1, m.2.2.1, m.2.2.2.1, m.2.2.2.2.1, m.2.2.2.2.2.1, m.2.2.2.2.2.2) ∧ i ≤ m.blocks.length ∧ m.blocks.length < f + i ∧ (c = true ↔ nD (m.blocks.drop i)) ∧ r = if c = true then .inr ((), ((m.1, m.2.1, m.2.2.1, m.2.2.2.1, m.2.2.2.2.1, m.2.2.2.2.2.1, m.2.2.2.2.2.2, ()), ())) else .inl ((false, ()), ((m.1, m.2.1, m.2.2.1, m.2.2.2.1, m.2.2.2.2.1, m.2.2.2.2.2.1, m.2.2.2.2.2.2, ()), ()))) (fun x r ⟨i, c, _, h1, h2, _⟩ => by omega) (fun f x F hF r => ?_) n _ _ ⟨0, decide (nD m.blocks), rfl, am _, by omega, bZ, rfl⟩
 rintro ⟨i, c, rfl, h1, h2, hc, rfl⟩
 show rJ n F m.blocks (m.blocks.length : Int) (i : Int) m.1 m.2.1 m.2.2.1 m.2.2.2.1 m.2.2.2.2.1 m.2.2.2.2.2.1 m.2.2.2.2.2.2 = _
 unfold rJ
 rcases ak i m.blocks.length with hlt | hge
 ·rw [dM (d := ([] : List Int)) hlt] at hc
  rw [if_pos (af (by omega)), if_pos (dh hlt), ai]
  generalize m.blocks.getD i [] = b at hc ⊢
  have hc : c = true ↔ (1 ≤ b.length ∧ b.length ≤ 8) ∧ nD (m.blocks.drop (i + 1)) := hc.trans List.forall_mem_cons
  have hno : ∀ (h : ¬ (1 ≤ b.length ∧ b.length ≤ 8)), c = false := fun h => by
   cases c with
   | false => rfl
   | true => exact absurd (hc.1 rfl).1 h
  by_cases g1 : b.length = 0
  ·rw [if_pos (ag.2 (by omega)), hno (by omega)]; rfl
  rw [if_neg (fun h => g1 (by have := ag.1 h; omega))]
  by_cases g2 : b.length ≤ 8
  ·rw [if_neg (by simp; omega), dk (by omega)]
   exact hF _ _ ⟨i + 1, c, rfl, by omega, by omega, hc.trans ⟨fun h => h.2, fun h => ⟨by omega, h⟩⟩, rfl⟩
  ·rw [if_pos (af (by omega)), hno (by omega)]; rfl
 ·have : i = m.blocks.length := by omega
  subst this
  rw [aN] at hc
  rw [if_neg (by simp), if_pos (hc.2 (fun b hb => by cases hb))]
theorem aaE {a b c d e f g : Bool} {A B C D E F G : Prop} (ha : a = true ↔ A) (hb : b = true ↔ B) (hc : c = true ↔ C) (hd : d = true ↔ D) (he : e = true ↔ E) (hf : f = true ↔ F) (hg : g = true ↔ G) : (a && (b && (c && (d && (e && (f && g)))))) = true ↔ A ∧ B ∧ C ∧ D ∧ E ∧ F ∧ G := by
 simp only [ao, ha, hb, hc, hd, he, hf, hg]
theorem xR (n : Nat) (hn : 200 < n) (hn2 : n < 1000000) (m : Img) : Says (jB n m) (RightP m) := by
 unfold jB
 have hN : ∀ {b : Bool}, (b = true ↔ yC m) → ∀ {o : Option Bool}, (yC m → Says o (RightP m)) → Says (if (!b) = true then some false else o) (RightP m) := fun {b} hb {o} ho => by
  cases b with
  | false => exact Says.no (fun h => by have := hb.2 h.1; cases this)
  | true => exact ho (hb.1 rfl)
 refine hN ?_ ?_
 ·refine aaE ?_ ?_ ?_ ?_ ?_ ?_ ?_
  all_goals (rw [ag])
  ·generalize m.1 = a; constructor <;> intro h <;> (repeat' split at *) <;> omega
  ·generalize m.2.1 = a; constructor <;> intro h <;> (repeat' split at *) <;> omega
  ·generalize m.2.2.1 = a; constructor <;> intro h <;> (repeat' split at *) <;> omega
  ·generalize m.2.2.2.1 = a; constructor <;> intro h <;> (repeat' split at *) <;> omega
  ·show (m.safe.length : Int) = _ ↔ _
   generalize m.safe.length = a; constructor <;> intro h <;> (repeat' split at *) <;> omega
  ·show (m.blocks.length : Int) = _ ↔ _
   generalize m.blocks.length = a; constructor <;> intro h <;> (repeat' split at *) <;> omega
  ·show (m.tasks.length : Int) = _ ↔ _
   generalize m.tasks.length = a; constructor <;> intro h <;> (repeat' split at *) <;> omega
 ·intro hI
  obtain ⟨_, _, _, _, h5, h6, h7⟩ := id hI
  obtain ⟨c, hc, e⟩ := NJ n hn2 m (by omega) none
  rw [e, ae]
  cases c with
  | false => exact Says.no (fun h => by have := hc.2 h.2.1; cases this)
  | true => exact (NI n hn hn2 m (by omega) h5 (by omega)).iff ⟨fun h => ⟨hI, hc.1 rfl, h⟩, fun h => h.2.2⟩
def JF (m : Img) : Prop := m.safe.length + m.blocks.length + m.tasks.length ≤ 80 ∧ ∀ t ∈ m.tasks, t.code.length ≤ 4019
theorem Gg (l : List da) : ∀ (r i p : Nat), i ≤ p → p < i + r → dm l p = 23 → dT l p ∈ gO l r i
 | 0, i, p, h1, h2, h3 => by omega
 | r + 1, i, p, h1, h2, h3 => by
  rw [show gO l (r + 1) i = kW l i ++ gO l r (i + 1) from rfl, az]
  by_cases h : i = p
  ·subst h
   left
   unfold kW
   rw [if_pos h3]
   exact aB
  ·exact .inr (Gg l r (i + 1) p (by omega) (by omega) h3)
theorem NK {l : List da} (h : el l = 0) {i : Nat} (hi : i < l.length) (ho : dm l i = 17 ∨ dm l i = 18) : dT l i ∈ fA l := by
 have hb := Bg h hi
 unfold jQ at hb
 rw [if_neg (by omega), if_pos ho, Bool.not_eq_false'] at hb
 unfold xL at hb
 obtain ⟨k, h1, h2⟩ := anyB_iff.1 hb
 simp only [ao, ag] at h2
 unfold fA
 rw [if_pos h, ← h2.2.2]
 exact Gg l _ _ k (am _) (by omega) h2.2.1
theorem GP {m : Img} {t : Tsk} (hl : el t.code = 0) (hb : fA t.code = t.blocks) (ht : mS m t) : ∀ i ∈ t.code, i.1 = 17 ∨ i.1 = 18 → 0 ≤ i.2.1 ∧ i.2.1 < (m.blocks.length : Int) := by
 intro x hx ho
 obtain ⟨i, hi, e⟩ := bP hx
 have e : t.code.getD i (0, 0, 0) = x := by rw [DQ hi, e]
 have h := NK hl hi (by unfold dm; rw [e]; exact ho)
 rw [hb] at h
 have := ht.2.1.mem _ h
 unfold dT at this
 rw [e] at this
 omega
open Classical in
def fB (n : Nat) (m : Img) (i : Int) : Int :=
 if RightP m then
  if i < 0 ∨ i ≥ (m.tasks.length : Int) then 14
  else
   let t := m.tasks.getD i.toNat (0, 0, 0, 0, [], [], [])
   if (eS bM n t.code).2 ≠ 0 then (eS bM n t.code).2 else if fA t.code = t.blocks then (if t.code.all (j8 m t) = true then 0 else 12) else 11
 else 12
theorem RightP.task {m : Img} (h : RightP m) {i : Int} (h0 : 0 ≤ i) (h1 : i < (m.tasks.length : Int)) : mS m (m.tasks.getD i.toNat (0, 0, 0, 0, [], [], [])) ∧ m.tasks.getD i.toNat (0, 0, 0, 0, [], [], []) ∈ m.tasks := by
 have hlt : i.toNat < m.tasks.length := by omega
 have hm : m.tasks.getD i.toNat ((0 : Int), (0 : Int), (0 : Int), (0 : Int), ([] : List Int), ([] : List Int), ([] : List da)) ∈ m.tasks := by rw [ar, av hlt]; exact aU hlt
 exact ⟨(TasksOk.all.1 h.2.2).1 _ hm, hm⟩
theorem DT (n : Nat) (hn : 200 < n) (hn2 : n < 1000000) (m : Img) (i : Int) : fq n m i = some (fB n m i) := by
 obtain ⟨b, e1, e2⟩ := xR n hn hn2 m
 unfold fq
 rw [show jB n (m.1, m.2.1, m.2.2.1, m.2.2.2.1, m.2.2.2.2.1, m.2.2.2.2.2.1, m.2.2.2.2.2.2) = some b from e1, ae]
 unfold fB
 cases b with
 | false =>
  rw [if_pos (show (!false) = true from rfl), if_neg (show ¬ RightP m from fun h => by have := e2.2 h; cases this)]
 | true =>
  have hR := e2.1 rfl
  rw [if_pos hR, if_neg (by decide)]
  by_cases h0 : i < 0
  ·rw [if_pos (af h0), if_pos (.inl h0)]
  rw [if_neg (by simpa using h0)]
  by_cases h1 : i ≥ (m.tasks.length : Int)
  ·rw [if_pos (show decide (i ≥ (m.2.2.2.2.2.2.length : Int)) = true from af h1), if_pos (.inr h1)]
  rw [if_neg (show ¬ decide (i ≥ (m.2.2.2.2.2.2.length : Int)) = true from fun h => h1 (aC h)), if_neg (show ¬ (i < 0 ∨ i ≥ (m.tasks.length : Int)) by omega), if_pos (show (decide (0 ≤ i) && decide (i < (m.2.2.2.2.2.2.length : Int))) = true by rw [af (by omega), af (show i < (m.2.2.2.2.2.2.length : Int) from by have : (m.tasks.length : Int) = (m.2.2.2.2.2.2.length : Int) := rfl; omega)]; rfl)]
  obtain ⟨ht, hm⟩ := hR.task (i := i) (by omega) (by omega)
  rw [show m.2.2.2.2.2.2.getD i.toNat (0, 0, 0, 0, [], [], []) = m.tasks.getD i.toNat (0, 0, 0, 0, [], [], []) from rfl]
  generalize m.tasks.getD i.toNat (0, 0, 0, 0, [], [], []) = t at ht ⊢
  have hc : t.code.length < n := by have := ht.2.2.2.2.1; omega
  have hol : t.outs.length < n := by have := ht.2.2.1.len (by omega); have := hR.1.2.2.2.2.1; omega
  have hS : hM n ((t.1, t.2.1, t.2.2.1, t.2.2.2.1, t.2.2.2.2.1, t.2.2.2.2.2.1, t.2.2.2.2.2.2), (m.1, m.2.1, m.2.2.1, m.2.2.2.1, m.2.2.2.2.1, m.2.2.2.2.2.1, m.2.2.2.2.2.2)) = some (eS bM n t.code).2 := by
   unfold hM
   rw [show fS n (((t.1, t.2.1, t.2.2.1, t.2.2.2.1, t.2.2.2.2.1, t.2.2.2.2.2.1, t.2.2.2.2.2.2), (m.1, m.2.1, m.2.2.1, m.2.2.2.1, m.2.2.2.2.1, m.2.2.2.2.2.1, m.2.2.2.2.2.2)) : Tsk × Img).1.2.2.2.2.2.2 = some (eS bM n t.code) from Bf n t.code hc (by omega) hn2]
   rfl
  rw [hS, ae]
  dsimp only
  by_cases hz : (eS bM n t.code).2 ≠ 0
  ·rw [if_pos (aj.2 hz), if_pos hz]
  rw [if_neg (fun h => hz (aj.1 h)), if_neg hz]
  have hlk := (tQ (Decidable.not_not.1 hz)).1
  have hB : vT n ((t.1, t.2.1, t.2.2.1, t.2.2.2.1, t.2.2.2.2.1, t.2.2.2.2.2.1, t.2.2.2.2.2.2), (m.1, m.2.1, m.2.2.1, m.2.2.2.1, m.2.2.2.2.1, m.2.2.2.2.2.1, m.2.2.2.2.2.2)) = some (if fA t.code = t.blocks then 0 else 11) := by
   have := RM n t m hc (by omega) hn2
   rw [if_neg (fun h => h hlk)] at this
   exact this
  rw [hB, ae]
  by_cases hb : fA t.code = t.blocks
  ·rw [if_pos hb, if_pos hb, if_neg (by decide)]
   have hN : wb n ((t.1, t.2.1, t.2.2.1, t.2.2.2.1, t.2.2.2.2.1, t.2.2.2.2.2.1, t.2.2.2.2.2.2), (m.1, m.2.1, m.2.2.1, m.2.2.2.1, m.2.2.2.2.1, m.2.2.2.2.2.1, m.2.2.2.2.2.2)) = _ := U7 n t m hc hol hn2 (GP hlk hb ht)
   rw [hN, ae]
   cases t.code.all (j8 m t) <;> rfl
  ·rw [if_neg hb, if_neg hb]
   rfl
def eV (k : Nat) : Int := if (100 : Int) < (k : Int) then 100 else (k : Int)
def eG (k : Nat) : Int := if (10000 : Int) < (k : Int) then 10000 else (k : Int)
theorem lT (k : Nat) : 0 ≤ eV k ∧ eV k ≤ 100 := by unfold eV; split <;> omega
theorem ry (k : Nat) : 0 ≤ eG k ∧ eG k ≤ 10000 := by unfold eG; split <;> omega
def kO (a : Int) (l : List (List Int)) : Int := l.foldl (fun a b => a + eV b.length) a
def ow (a : Int) (l : List Tsk) : Int := l.foldl (fun a t => a + eV t.blocks.length + eV t.outs.length + (eG t.code.length).tdiv 20) a
theorem Gh : ∀ {l : List (List Int)} {a : Int}, a ≤ kO a l ∧ kO a l ≤ a + 100 * l.length
 | [], a => by simp [kO]
 | b :: l, a => by
  have := Gh (l := l) (a := a + eV b.length)
  have := lT b.length
  rw [show kO a (b :: l) = kO (a + eV b.length) l from rfl, aE]
  omega
theorem Gi : ∀ {l : List Tsk} {a : Int}, a ≤ ow a l ∧ ∀ t ∈ l, a + (eG t.code.length).tdiv 20 ≤ ow a l
 | [], a => by simp [ow]
 | t :: l, a => by
  obtain ⟨h1, h2⟩ := Gi (l := l) (a := a + eV t.blocks.length + eV t.outs.length + (eG t.code.length).tdiv 20)
  have h3 := lT t.blocks.length
  have h4 := lT t.outs.length
  have h5 := ry t.code.length
  have h6 : (eG t.code.length).tdiv 20 = eG t.code.length / 20 := ce h5.1
  rw [show ow a (t :: l) = ow (a + eV t.blocks.length + eV t.outs.length + (eG t.code.length).tdiv 20) l from rfl, List.forall_mem_cons]
  refine ⟨by omega, by omega, fun u hu => ?_⟩
  have := h2 u hu
  omega
theorem RO (n : Nat) (hn : n < 1000000) (m : Img) (hT : m.blocks.length < n) (a : Int) (ha : 0 ≤ a ∧ a ≤ 80) : tu n (a, 0, m.1, m.2.1, m.2.2.1, m.2.2.2.1, m.2.2.2.2.1, m.2.2.2.2.2.1, m.2.2.2.2.2.2) = some (kO a m.blocks, m.1, m.2.1, m.2.2.1, m.2.2.2.1, m.2.2.2.2.1, m.2.2.2.2.2.1, m.2.2.2.2.2.2) := by
 unfold tu
 refine d5 (S := fun F => (dr (di (C_ q_))) (vh n F))
  (fun f x r => ∃ (i : Nat) (b : Int), x = (b, (i : Int), m.1, m.2.1, m.2.2.1, m.2.2.2.1, m.2.2.2.2.1, m.2.2.2.2.2.1, m.2.2.2.2.2.2) ∧ i ≤ m.blocks.length ∧ m.blocks.length < f + i ∧ (0 ≤ b ∧ b ≤ 80 + 100 * i) ∧ r = (kO b (m.blocks.drop i), m.1, m.2.1, m.2.2.1, m.2.2.2.1, m.2.2.2.2.1, m.2.2.2.2.2.1, m.2.2.2.2.2.2)) (fun x r ⟨i, b, _, h1, h2, _⟩ => by omega) (fun f x F hF r => ?_) n _ _ ⟨0, a, rfl, am _, by omega, by omega, rfl⟩
 rintro ⟨i, b, rfl, h1, h2, hb, rfl⟩
 show vh n F b (i : Int) m.1 m.2.1 m.2.2.1 m.2.2.2.1 m.2.2.2.2.1 m.2.2.2.2.2.1 m.2.2.2.2.2.2 = _
 unfold vh
 rcases ak i m.blocks.length with hlt | hge
 ·rw [if_pos (show decide ((i : Int) < (m.2.2.2.2.2.1.length : Int)) = true from af (by exact_mod_cast hlt)), if_pos (show (decide (0 ≤ (i : Int)) && decide ((i : Int) < (m.2.2.2.2.2.1.length : Int))) = true from dh hlt), ai, dk (by omega), dM (d := ([] : List Int)) hlt]
  have hc := lT (m.blocks.getD i []).length
  show F (wrap .i64 (b + eV (m.blocks.getD i []).length), _) = _
  rw [dI (show -9223372036854775808 ≤ b + eV (m.blocks.getD i []).length by omega) (show b + eV (m.blocks.getD i []).length ≤ 9223372036854775807 by omega)]
  exact hF _ _ ⟨i + 1, _, rfl, by omega, by omega, by omega, rfl⟩
 ·have : i = m.blocks.length := by omega
  subst this
  rw [if_neg (by simp), aN]
  rfl
theorem RP (n : Nat) (hn : n < 1000000) (m : Img) (hT : m.tasks.length < n) (hB : m.blocks.length < n) (a : Int) (ha : 0 ≤ a ∧ a ≤ 80 + 100 * m.blocks.length) : pE n (a, 0, m.1, m.2.1, m.2.2.1, m.2.2.2.1, m.2.2.2.2.1, m.2.2.2.2.2.1, m.2.2.2.2.2.2) = some (ow a m.tasks, m.1, m.2.1, m.2.2.1, m.2.2.2.1, m.2.2.2.2.1, m.2.2.2.2.2.1, m.2.2.2.2.2.2) := by
 unfold pE
 refine d5 (S := fun F => (dr (di (C_ q_))) (vi n F))
  (fun f x r => ∃ (i : Nat) (b : Int), x = (b, (i : Int), m.1, m.2.1, m.2.2.1, m.2.2.2.1, m.2.2.2.2.1, m.2.2.2.2.2.1, m.2.2.2.2.2.2) ∧ i ≤ m.tasks.length ∧ m.tasks.length < f + i ∧ (0 ≤ b ∧ b ≤ 80 + 100 * m.blocks.length + 700 * i) ∧ r = (ow b (m.tasks.drop i), m.1, m.2.1, m.2.2.1, m.2.2.2.1, m.2.2.2.2.1, m.2.2.2.2.2.1, m.2.2.2.2.2.2)) (fun x r ⟨i, b, _, h1, h2, _⟩ => by omega) (fun f x F hF r => ?_) n _ _ ⟨0, a, rfl, am _, by omega, by omega, rfl⟩
 rintro ⟨i, b, rfl, h1, h2, hb, rfl⟩
 show vi n F b (i : Int) m.1 m.2.1 m.2.2.1 m.2.2.2.1 m.2.2.2.2.1 m.2.2.2.2.2.1 m.2.2.2.2.2.2 = _
 unfold vi
 rcases ak i m.tasks.length with hlt | hge
 ·rw [if_pos (show decide ((i : Int) < (m.2.2.2.2.2.2.length : Int)) = true from af (by exact_mod_cast hlt)), if_pos (show (decide (0 ≤ (i : Int)) && decide ((i : Int) < (m.2.2.2.2.2.2.length : Int))) = true from dh hlt), ai, dk (by omega), dM (d := ((0 : Int), (0 : Int), (0 : Int), (0 : Int), ([] : List Int), ([] : List Int), ([] : List da))) hlt]
  rw [show m.2.2.2.2.2.2.getD i (0, 0, 0, 0, [], [], []) = m.tasks.getD i (0, 0, 0, 0, [], [], []) from rfl]
  generalize m.tasks.getD i (0, 0, 0, 0, [], [], []) = t
  have h3 := lT t.blocks.length
  have h4 := lT t.outs.length
  have h5 := ry t.code.length
  have h6 : (eG t.code.length).tdiv 20 = eG t.code.length / 20 := ce h5.1
  show F (wrap .i64 (wrap .i64 (wrap .i64 (b + eV t.blocks.length) + eV t.outs.length) + wrap .i64 ((eG t.code.length).tdiv 20)), _) = _
  rw [dI (e := (eG t.code.length).tdiv 20) (by omega) (by omega), dI (e := b + eV t.blocks.length) (by omega) (by omega), dI (e := b + eV t.blocks.length + eV t.outs.length) (by omega) (by omega), dI (e := b + eV t.blocks.length + eV t.outs.length + (eG t.code.length).tdiv 20) (by omega) (by omega)]
  exact hF _ _ ⟨i + 1, _, rfl, by omega, by omega, by omega, rfl⟩
 ·have : i = m.tasks.length := by omega
  subst this
  rw [if_neg (by simp), aN]
  rfl
theorem U8 (n : Nat) (hn0 : 200 < n) (hn : n < 1000000) (m : Img) (hs : m.safe.length < 9000000000000000 ∧ m.blocks.length < 9000000000000000 ∧ m.tasks.length < 9000000000000000) : oZ n m = some 0 ∨ (oZ n m = some 1 ∧ JF m) := by
 unfold oZ
 have e : wrap .i64 (wrap .i64 ((m.safe.length : Int) + (m.blocks.length : Int)) + (m.tasks.length : Int)) = (m.safe.length : Int) + (m.blocks.length : Int) + (m.tasks.length : Int) := by
  rw [dI (e := (m.safe.length : Int) + (m.blocks.length : Int)) (by omega) (by omega), dI (by omega) (by omega)]
 rw [show wrap .i64 (wrap .i64 ((m.2.2.2.2.1.length : Int) + (m.2.2.2.2.2.1.length : Int)) + (m.2.2.2.2.2.2.length : Int)) = (m.safe.length : Int) + (m.blocks.length : Int) + (m.tasks.length : Int) from e]
 by_cases h : (m.safe.length : Int) + (m.blocks.length : Int) + (m.tasks.length : Int) > 80
 ·rw [if_pos (af h)]
  exact .inl rfl
 rw [if_neg (by simpa using h), RO n hn m (by omega) _ (by omega), ae]
 obtain ⟨hB1, hB2⟩ := Gh (l := m.blocks) (a := (m.safe.length : Int) + (m.blocks.length : Int) + (m.tasks.length : Int))
 rw [show pE n _ = _ from RP n hn m (by omega) (by omega) (kO ((m.safe.length : Int) + (m.blocks.length : Int) + (m.tasks.length : Int)) m.blocks) (by omega), ae]
 dsimp only
 obtain ⟨hT1, hT2⟩ := Gi (l := m.tasks) (a := kO ((m.safe.length : Int) + (m.blocks.length : Int) + (m.tasks.length : Int)) m.blocks)
 split
 ·exact .inl rfl
 ·rename_i h2
  have h2 : ow (kO ((m.safe.length : Int) + (m.blocks.length : Int) + (m.tasks.length : Int)) m.blocks) m.tasks ≤ 200 := by simpa using h2
  refine .inr ⟨rfl, by omega, fun t ht => ?_⟩
  have h3 := hT2 t ht
  have h5 := ry t.code.length
  have h6 : (eG t.code.length).tdiv 20 = eG t.code.length / 20 := ce h5.1
  have h7 : eG t.code.length ≤ 4019 := by omega
  unfold eG at h7
  split at h7 <;> omega
abbrev dg (m : Img) (i : Int) : Tsk := m.tasks.getD i.toNat (0, 0, 0, 0, [], [], [])
theorem pb {n : Nat} {m : Img} {i : Int} (h : fB n m i = 0) : RightP m ∧ (0 ≤ i ∧ i < (m.tasks.length : Int)) ∧ (eS bM n (dg m i).code).2 = 0 ∧ fA (dg m i).code = (dg m i).blocks ∧ (dg m i).code.all (j8 m (dg m i)) = true := by
 unfold fB at h
 split at h
 ·rename_i hR
  split at h
  ·cases h
  ·dsimp only at h
   split at h
   ·rename_i h1
    exact absurd h h1
   ·rename_i h1
    split at h
    ·rename_i h2
     split at h
     ·rename_i h3
      exact ⟨hR, by omega, Decidable.not_not.1 h1, h2, h3⟩
     ·cases h
    ·cases h
 ·cases h
def gS (n : Nat) (m : Img) (i : Int) : Int × Int :=
 if fB n m i ≠ 0 then (0, fB n m i) else ((eS bM n (dg m i).code).1 + 2 * m.1 + m.2.1 + m.2.2.1, 0)
def jj (n : Nat) (m : Img) (i : Int) : List Int × Int :=
 if fB n m i ≠ 0 then ([], fB n m i) else ((kY n (dg m i).code).1.map Prod.snd, 0)
theorem sH {i : Int} {k : Nat} (h0 : 0 ≤ i) (h1 : i < (k : Int)) : (decide (0 ≤ i) && decide (i < (k : Int))) = true := by rw [af h0, af h1]; rfl
theorem U9 (n : Nat) (hn : 200 < n) (hn2 : n < 1000000) (m : Img) (i : Int) : i8 n m i = some (gS n m i) := by
 unfold i8 gS
 rw [show fq n (m.1, m.2.1, m.2.2.1, m.2.2.2.1, m.2.2.2.2.1, m.2.2.2.2.2.1, m.2.2.2.2.2.2) i = _ from DT n hn hn2 m i, ae]
 by_cases h : fB n m i ≠ 0
 ·rw [if_pos (aj.2 h), if_pos h]
 rw [if_neg (fun k => h (aj.1 k)), if_neg h]
 obtain ⟨hR, ⟨h0, h1⟩, h2, h3, h4⟩ := pb (Decidable.not_not.1 h)
 obtain ⟨ht, hm⟩ := hR.task h0 h1
 have hc : (dg m i).code.length < n := Nat.lt_of_le_of_lt ht.2.2.2.2.1 (by omega)
 rw [if_pos (show (decide (0 ≤ i) && decide (i < (m.2.2.2.2.2.2.length : Int))) = true from sH h0 h1)]
 rw [show fS n (m.2.2.2.2.2.2.getD i.toNat (0, 0, 0, 0, [], [], [])).2.2.2.2.2.2 = _ from Bf n (dg m i).code hc (by omega) hn2, ae]
 try dsimp only
 obtain ⟨_, a1, a2, _, a3⟩ := tS n _ h2
 obtain ⟨n1, n2, n3, _⟩ := hR.1
 rw [h2, dI (e := m.1 + m.2.1) (by omega) (by omega), dI (e := m.1 + m.2.1 + (eS bM n (dg m i).code).1) (by omega) (by omega), dI (e := m.1 + m.2.1 + (eS bM n (dg m i).code).1 + m.2.2.1) (by omega) (by omega), dI (by omega) (by omega)]
 congr 2
 omega
theorem Va (n : Nat) (hn : n < 1000000) (e : Int) (s : List (Int × Int)) (hs : s.length < n) : hZ n (e, [], s, (s.length : Int), 0) = some (e, s.map Prod.snd) := by
 unfold hZ
 refine d5 (S := fun F => (di (C_ q_)) (gJ n F))
  (fun f x r => ∃ i : Nat, x = (e, (s.take i).map Prod.snd, s, (s.length : Int), (i : Int)) ∧ i ≤ s.length ∧ s.length < f + i ∧ r = (e, s.map Prod.snd)) (fun x r ⟨i, _, h1, h2, _⟩ => by omega) (fun f x F hF r => ?_) n _ _ ⟨0, rfl, am _, by omega, rfl⟩
 rintro ⟨i, rfl, h1, h2, rfl⟩
 show gJ n F e ((s.take i).map Prod.snd) s (s.length : Int) (i : Int) = _
 unfold gJ
 rcases ak i s.length with hlt | hge
 ·have hl : ((s.take i).map Prod.snd).length = i := by rw [bj, List.length_take]; omega
  rw [if_pos (af (by omega)), if_pos (dh hlt), if_pos (by rw [af (by omega), af (by omega)]; rfl), ai, dk (by omega)]
  refine hF _ _ ⟨i + 1, ?_, by omega, by omega, rfl⟩
  have e : (s.take i).map Prod.snd ++ [(s.getD i (0, 0)).2] = (s.take (i + 1)).map Prod.snd := by
   rw [List.take_add_one, ar, av hlt, cr]
   rfl
  rw [← e]
 ·have : i = s.length := by omega
  subst this
  rw [if_neg (by simp), List.take_length]
theorem RQ {n : Nat} {l : List da} (h : (eS bM n l).2 = 0) : (kY n l).2 = 0 := by
 unfold kY
 rw [if_neg (fun k => k h)]
theorem Gj : ∀ {l : List da} {m : List Int} {n : Nat} (r i : Nat), (gR l m n r i).length ≤ r
 | l, m, n, 0, i => by simp [gR]
 | l, m, n, r + 1, i => by
  have := Gj (l := l) (m := m) (n := n) r (i + 1)
  unfold gR
  rw [aM]
  split <;> simp <;> omega
theorem NL (n : Nat) (l : List da) : (kY n l).1.length ≤ l.length := by
 unfold kY
 split
 ·simp
 ·exact Gj _ _
theorem RR (n : Nat) (hn : 200 < n) (hn2 : n < 1000000) (m : Img) (i : Int) : iw n m i = some (jj n m i) := by
 unfold iw jj
 rw [show fq n (m.1, m.2.1, m.2.2.1, m.2.2.2.1, m.2.2.2.2.1, m.2.2.2.2.2.1, m.2.2.2.2.2.2) i = _ from DT n hn hn2 m i, ae]
 by_cases h : fB n m i ≠ 0
 ·rw [if_pos (aj.2 h), if_pos h]
 rw [if_neg (fun k => h (aj.1 k)), if_neg h]
 obtain ⟨hR, ⟨h0, h1⟩, h2, h3, h4⟩ := pb (Decidable.not_not.1 h)
 obtain ⟨ht, hm⟩ := hR.task h0 h1
 have hc : (dg m i).code.length < n := Nat.lt_of_le_of_lt ht.2.2.2.2.1 (by omega)
 have hsl := NL n (dg m i).code
 rw [if_pos (show (decide (0 ≤ i) && decide (i < (m.2.2.2.2.2.2.length : Int))) = true from sH h0 h1)]
 rw [show gI n (m.2.2.2.2.2.2.getD i.toNat (0, 0, 0, 0, [], [], [])).2.2.2.2.2.2 = _ from Kk n (dg m i).code hc (by omega) hn2, ae, Va n hn2 _ _ (by omega), ae, RQ h2]
def mT (e : Nat → Int) : Nat → Nat → Option (Int × Int)
 | 0, i => none
 | r + 1, i => if e i ≠ 0 then some ((i : Int), e i) else mT e r (i + 1)
open Classical in
def ew (n : Nat) (m : Img) : Int × Int :=
 if RightP m then (mT (fun i => fB n m (i : Int)) m.tasks.length 0).getD (-1, 0) else (-1, 12)
theorem Vb (n : Nat) (hn : 200 < n) (hn2 : n < 1000000) (m : Img) (hT : m.tasks.length < n) : iu n ((m.tasks.length : Int), 0, m.1, m.2.1, m.2.2.1, m.2.2.2.1, m.2.2.2.2.1, m.2.2.2.2.2.1, m.2.2.2.2.2.2) = some (match mT (fun i => fB n m (i : Int)) m.tasks.length 0 with | some p => .inl ((p.1, p.2, ()), ((m.1, m.2.1, m.2.2.1, m.2.2.2.1, m.2.2.2.2.1, m.2.2.2.2.2.1, m.2.2.2.2.2.2, ()), ())) | none => .inr ((), ((m.1, m.2.1, m.2.2.1, m.2.2.2.1, m.2.2.2.2.1, m.2.2.2.2.2.1, m.2.2.2.2.2.2, ()), ()))) := by
 unfold iu
 refine d5 (S := fun F => (dr (di (C_ q_))) (jC n F))
  (fun f x r => ∃ (i : Nat), x = ((m.tasks.length : Int), (i : Int), m.1, m.2.1, m.2.2.1, m.2.2.2.1, m.2.2.2.2.1, m.2.2.2.2.2.1, m.2.2.2.2.2.2) ∧ i ≤ m.tasks.length ∧ m.tasks.length < f + i ∧ r = (match mT (fun i => fB n m (i : Int)) (m.tasks.length - i) i with | some p => .inl ((p.1, p.2, ()), ((m.1, m.2.1, m.2.2.1, m.2.2.2.1, m.2.2.2.2.1, m.2.2.2.2.2.1, m.2.2.2.2.2.2, ()), ())) | none => .inr ((), ((m.1, m.2.1, m.2.2.1, m.2.2.2.1, m.2.2.2.2.1, m.2.2.2.2.2.1, m.2.2.2.2.2.2, ()), ())))) (fun x r ⟨i, _, h1, h2, _⟩ => by omega) (fun f x F hF r => ?_) n _ _ ⟨0, rfl, am _, by omega, rfl⟩
 rintro ⟨i, rfl, h1, h2, rfl⟩
 show jC n F (m.tasks.length : Int) (i : Int) m.1 m.2.1 m.2.2.1 m.2.2.2.1 m.2.2.2.2.1 m.2.2.2.2.2.1 m.2.2.2.2.2.2 = _
 unfold jC
 rcases ak i m.tasks.length with hlt | hge
 ·rw [if_pos (af (by omega)), show fq n (m.1, m.2.1, m.2.2.1, m.2.2.2.1, m.2.2.2.2.1, m.2.2.2.2.2.1, m.2.2.2.2.2.2) (i : Int) = _ from DT n hn hn2 m i, ae, show m.tasks.length - i = (m.tasks.length - (i + 1)) + 1 by omega]
  unfold mT
  try dsimp only
  by_cases h : fB n m (i : Int) ≠ 0
  ·rw [if_pos (aj.2 h), if_pos h]
  ·rw [if_neg (fun k => h (aj.1 k)), if_neg h, dk (by omega)]
   exact hF _ _ ⟨i + 1, rfl, by omega, by omega, rfl⟩
 ·have : i = m.tasks.length := by omega
  subst this
  rw [if_neg (by simp), bc]
  rfl
theorem Vc (n : Nat) (hn : 200 < n) (hn2 : n < 1000000) (m : Img) : kx n m = some (ew n m) := by
 obtain ⟨b, e1, e2⟩ := xR n hn hn2 m
 unfold kx ew
 rw [show jB n (m.1, m.2.1, m.2.2.1, m.2.2.2.1, m.2.2.2.2.1, m.2.2.2.2.2.1, m.2.2.2.2.2.2) = some b from e1, ae]
 cases b with
 | false =>
  rw [if_pos (show (!false) = true from rfl), if_neg (show ¬ RightP m from fun h => by have := e2.2 h; cases this)]
 | true =>
  have hR := e2.1 rfl
  rw [if_pos hR, if_neg (by decide)]
  rw [show iu n _ = _ from Vb n hn hn2 m (by have := hR.1.2.2.2.2.2.2; omega), ae]
  cases mT (fun i => fB n m (i : Int)) m.tasks.length 0 <;> rfl
abbrev aaF : Sh := .pair (.int .i64) (.pair (.int .i64) (.pair (.int .i64) (.pair (.int .i64) (.pair (.sl (.int .i64)) (.pair (.sl (.int .i64)) (.sl (.pair (.int .i64) (.pair (.int .i64) (.int .i64)))))))))
abbrev Y7 : Sh := .pair (.int .i64) (.pair (.int .i64) (.pair (.int .i64) (.pair (.int .i64) (.pair (.sl (.int .i64)) (.pair (.sl (.sl (.int .i64))) (.sl aaF))))))
theorem RS (n : Nat) (hn0 : 200 < n) (hn : n < 1000000) {m : Img} (h : Sh.Sm Y7 m) : oZ n m = some 0 ∨ (oZ n m = some 1 ∧ JF m) :=
 U8 n hn0 hn m (by
  have h1 : m.safe.length ≤ 140737488351232 := h.2.2.2.2.1
  have h2 : m.blocks.length ≤ 140737488351232 := h.2.2.2.2.2.1
  have h3 : m.tasks.length ≤ 140737488351232 := h.2.2.2.2.2.2
  omega)
theorem Gk {l : List da} {m : List Int} {n : Nat} : ∀ (r i : Nat), (gR l m n r i).length = (gO l r i).length
 | 0, i => rfl
 | r + 1, i => by
  have := Gk (l := l) (m := m) (n := n) r (i + 1)
  rw [show gO l (r + 1) i = kW l i ++ gO l r (i + 1) from rfl]
  unfold gR kW
  rw [aM, aM, this]
  split <;> rfl
abbrev Row := Int × Int × Int × Int × Int × Int
abbrev Row.C (r : Row) : Int := r.1
abbrev Row.B (r : Row) : Int := r.2.1
abbrev Row.T (r : Row) : Int := r.2.2.1
abbrev Row.D (r : Row) : Int := r.2.2.2.1
abbrev Row.P (r : Row) : Int := r.2.2.2.2.2
abbrev dC : Row := ((0 : Int), ((0 : Int), ((0 : Int), ((0 : Int), ((0 : Int), (0 : Int))))))
structure RowB (r : Row) : Prop where
 c : 1 ≤ r.1 ∧ r.1 ≤ 2000000
 b : 0 ≤ r.2.1 ∧ r.2.1 ≤ 2000000
 t : 1 ≤ r.2.2.1 ∧ r.2.2.1 ≤ 1048576
 d : 1 ≤ r.2.2.2.1 ∧ r.2.2.2.1 ≤ 1048576
 j : 0 ≤ r.2.2.2.2.1 ∧ r.2.2.2.2.1 ≤ 1048576
 p : 1 ≤ r.2.2.2.2.2 ∧ r.2.2.2.2.2 ≤ 100
structure RowsB (l : List Row) : Prop where
 len : l.length ≤ 8
 all : ∀ r ∈ l, RowB r
theorem RowsB.get {l : List Row} (h : RowsB l) {i : Nat} (hi : i < l.length) : RowB (l.getD i dC) := h.all _ (by rw [ar, av hi]; exact aU hi)
theorem fT (n : Nat) (a : Int) (h0 : 0 ≤ a) (h1 : a < 4611686018427387904) : e7 n a = some true := by
 unfold e7
 rw [if_pos (af h0), af h1]
def small (a : Int) : Prop := 0 ≤ a ∧ a ≤ 1000000000000000
theorem NM (n : Nat) (hn : n < 1000000) (l : List Int) (hl : l.length < n) (hs : ∀ a ∈ l, small a) : qF n l = some true := by
 unfold qF pR
 have := d5 (S := fun F => (C_ q_) (mu n F)) (fun f x r => ∃ i : Nat, x = (l, (l.length : Int), (i : Int)) ∧ i ≤ l.length ∧ l.length < f + i ∧ r = .inr ((), ())) (fun x r ⟨i, _, h1, h2, _⟩ => by omega) (fun f x F hF r => ?_) n (l, (l.length : Int), 0) _ ⟨0, rfl, am _, by omega, rfl⟩
 ·rw [this]; rfl
 ·rintro ⟨i, rfl, h1, h2, rfl⟩
  show mu n F l (l.length : Int) (i : Int) = _
  unfold mu
  rcases ak i l.length with hlt | hge
  ·have hm : l.getD i 0 ∈ l := by rw [ar, av hlt]; exact aU hlt
   have := hs _ hm
   unfold small at this
   rw [if_pos (af (by omega)), if_pos (dh hlt), ai, fT n _ this.1 (by omega), ae, if_neg (by decide), dk (by omega)]
   exact hF _ _ ⟨i + 1, rfl, by omega, by omega, rfl⟩
  ·have : i = l.length := by omega
   subst this
   rw [if_neg (by simp)]
theorem Y8 (a : Int) : ¬ (((a, (0 : Int)) : Int × Int).2 != 0) = true := by simp
theorem eq0 (a : Int) : (((a, (0 : Int)) : Int × Int).2 == 0) = true := by simp
theorem JG {l : List Int} (hs : ∀ a ∈ l, small a) : ∀ i, i ≤ l.length → 0 ≤ (l.take i).sum ∧ (l.take i).sum ≤ 1000000000000000 * (i : Int) := by
 intro i
 induction i with
 | zero => intro _; simp
 | succ i ih =>
  intro hi
  have := ih (by omega)
  have hm : l.getD i 0 ∈ l := by rw [ar, av (by omega)]; exact aU (by omega)
  have h2 := hs _ hm
  unfold small at h2
  rw [List.take_add_one, List.sum_append, av (by omega)]
  rw [ar, av (by omega)] at h2
  simp only [bq, Option.toList_some, List.sum_cons, List.sum_nil, cw] at h2 ⊢
  omega
theorem RT {l : List Int} {i : Nat} (hlt : i < l.length) : (l.take i).sum + l.getD i 0 = (l.take (i + 1)).sum := by
 rw [List.take_add_one, List.sum_append, av hlt, ar, av hlt]
 simp only [bq, Option.toList_some, List.sum_cons, List.sum_nil, cw]
theorem RU (n : Nat) (hn : n < 1000000) (l : List Int) (hl : l.length < n) (h100 : l.length ≤ 100) (hs : ∀ a ∈ l, small a) : gL n l = some (l.sum, 0) := by
 unfold gL pT
 rw [NM n hn l hl hs, ae, if_neg (by decide)]
 have := d5 (S := fun F => (di q_) (mw n F)) (fun f x r => ∃ i : Nat, x = ((l.take i).sum, l, (l.length : Int), (i : Int)) ∧ i ≤ l.length ∧ l.length < f + i ∧ r = .inr ((l.sum, ()), ())) (fun x r ⟨i, _, h1, h2, _⟩ => by omega) (fun f x F hF r => ?_) n (0, l, (l.length : Int), 0) _ ⟨0, rfl, am _, by omega, rfl⟩
 ·rw [this]; rfl
 ·rintro ⟨i, rfl, h1, h2, rfl⟩
  show mw n F (l.take i).sum l (l.length : Int) (i : Int) = _
  unfold mw
  rcases ak i l.length with hlt | hge
  ·have h4 := JG hs i h1
   have h5 := JG hs (i + 1) hlt
   rw [if_pos (af (by omega)), if_pos (dh hlt), ai, RT hlt, dI (e := (l.take (i + 1)).sum) (by omega) (by omega), fT n _ h5.1 (by omega), ae, if_neg (by decide), dk (by omega)]
   exact hF _ _ ⟨i + 1, rfl, by omega, by omega, rfl⟩
  ·have : i = l.length := by omega
   subst this
   rw [if_neg (by simp), List.take_length]
theorem aaG {a b x : Int} (ha : small a) (hb : small b) (hx : x ∈ [a, b]) : small x := by
 rcases aA.1 hx with rfl | hx
 ·exact ha
 rcases aA.1 hx with rfl | hx
 ·exact hb
 cases hx
theorem DU (n : Nat) (hn0 : 10 < n) (hn : n < 1000000) (a b : Int) (ha : small a) (hb : small b) : gL n [a, b] = some (a + b, 0) := by
 rw [RU n hn [a, b] (by simp; omega) (by simp) (fun x hx => aaG ha hb hx)]
 simp
def iR (a b : Int) : Int := if a = 0 then 0 else (a - 1) / b + 1
theorem xS {a b : Int} (ha : 0 ≤ a) (hb : 1 ≤ b) : 0 ≤ a / b ∧ a / b ≤ a := ⟨Int.ediv_nonneg ha (by omega), Int.ediv_le_self _ ha⟩
theorem Ve {a b : Int} (ha : 0 ≤ a) (hb : 1 ≤ b) : 0 ≤ iR a b ∧ iR a b ≤ a := by
 unfold iR
 split
 ·omega
 ·have := xS (a := a - 1) (b := b) (by omega) hb
  omega
theorem Wh (n : Nat) (a b : Int) (ha : small a) (hb : 1 ≤ b ∧ b ≤ 1048576) : o6 n a b = some (iR a b, 0) := by
 unfold small at ha
 unfold o6 iR
 rw [fT n a ha.1 (by omega), ae, if_neg (by decide), fT n b (by omega) (by omega), ae, if_neg (by decide), if_neg (fun h => by have := ag.1 h; omega)]
 by_cases h : a = 0
 ·rw [if_pos (ag.2 h), if_pos h]
 ·have hd := xS (a := a - 1) (b := b) (by omega) hb.1
  rw [if_neg (fun e => h (ag.1 e)), if_neg h, if_neg (fun h => by have := ag.1 h; omega), dI (e := a - 1) (by omega) (by omega), ce (by omega), dI (e := (a - 1) / b) (by omega) (by omega), dI (by omega) (by omega)]
theorem Gl {a b : Int} (ha : 0 ≤ a ∧ a ≤ 100000000) (hb : 0 ≤ b ∧ b ≤ 2000000) : 0 ≤ a * b ∧ a * b ≤ 200000000000000 := by
 refine ⟨cu ha.1 hb.1, ?_⟩
 have h1 : a * b ≤ 100000000 * b := Int.mul_le_mul_of_nonneg_right ha.2 hb.1
 omega
theorem Wi {a b : Int} (ha : 0 ≤ a ∧ a ≤ 100000000) (hb : 1 ≤ b ∧ b ≤ 2000000) : ¬ a > 4611686018427387903 / b := by
 have h := Gl ha ⟨by omega, hb.2⟩
 have : a ≤ 4611686018427387903 / b := (Int.le_ediv_iff_mul_le (by omega)).2 (by omega)
 omega
theorem RW (n : Nat) (a b : Int) (ha : 0 ≤ a ∧ a ≤ 100000000) (hb : 1 ≤ b ∧ b ≤ 2000000) : jM n a b = some (a * b, 0) := by
 unfold jM
 have h := Gl ha ⟨by omega, hb.2⟩
 rw [fT n a ha.1 (by omega), ae, if_neg (by decide), fT n b (by omega) (by omega), ae, if_neg (by decide)]
 by_cases hz : a = 0
 ·subst hz; rw [if_pos (show ((0 : Int) == 0) = true from rfl), Int.zero_mul]
 ·have hd := xS (a := 4611686018427387903) (b := b) (by omega) hb.1
  rw [if_neg (fun e => hz (ag.1 e)), if_neg (fun h => by have := ag.1 h; omega), if_neg (fun h => by have := ag.1 h; omega), ce (by omega), dI (e := 4611686018427387903 / b) (by omega) (by omega), if_neg (fun e => Wi ha hb (aC e)), dI (by omega) (by omega)]
def mU (r : Row) (w p : Int) : Int := (iR (w + r.2.2.2.2.1) r.2.2.1 + if r.2.2.2.2.2 = p then 1 else 0) * r.1
theorem Gm {r : Row} (hr : RowB r) {w p : Int} (hw : 0 ≤ w ∧ w ≤ 2000000) : 0 ≤ iR (w + r.2.2.2.2.1) r.2.2.1 + (if r.2.2.2.2.2 = p then 1 else 0) ∧ iR (w + r.2.2.2.2.1) r.2.2.1 + (if r.2.2.2.2.2 = p then 1 else 0) ≤ 10000000 := by
 have := Ve (a := w + r.2.2.2.2.1) (b := r.2.2.1) (by have := hr.j; omega) hr.t.1
 have h2 : w + r.2.2.2.2.1 ≤ 4000000 := by have := hr.j; omega
 split <;> omega
theorem JH {r : Row} (hr : RowB r) {w p : Int} (hw : 0 ≤ w ∧ w ≤ 2000000) : 0 ≤ mU r w p ∧ mU r w p ≤ 20000000000000 := by
 have h1 := Gm hr (p := p) hw
 refine ⟨cu h1.1 (by have := hr.c; omega), ?_⟩
 have h2 : mU r w p ≤ 10000000 * r.1 := Int.mul_le_mul_of_nonneg_right h1.2 (by have := hr.c; omega)
 have := hr.c
 omega
theorem Wj (n : Nat) (hn0 : 10 < n) (hn : n < 1000000) {r : Row} (hr : RowB r) {w p : Int} (hw : 0 ≤ w ∧ w ≤ 2000000) : iz n r w p = some (mU r w p, 0) := by
 have hj := hr.j
 have hf := Gm hr (p := p) hw
 unfold iz
 have hs : small (w + r.2.2.2.2.1) := ⟨by omega, by omega⟩
 rw [DU n hn0 hn w r.2.2.2.2.1 ⟨hw.1, by omega⟩ ⟨hj.1, by omega⟩, ae, if_neg (Y8 _), Wh n _ _ hs hr.t, ae]
 unfold mU
 by_cases hp : r.2.2.2.2.2 = p
 ·rw [if_pos hp] at hf
  rw [if_pos (ag.2 hp), if_pos hp]
  show (jM n (wrap .i64 (iR (w + r.2.2.2.2.1) r.2.2.1 + 1)) r.1).bind _ = _
  rw [dI (by omega) (by omega), RW n _ _ ⟨hf.1, by omega⟩ hr.c]
  rfl
 ·rw [if_neg hp, cw] at hf
  rw [if_neg (fun e => hp (ag.1 e)), if_neg hp, cw]
  show (jM n (iR (w + r.2.2.2.2.1) r.2.2.1) r.1).bind _ = _
  rw [RW n _ _ ⟨hf.1, by omega⟩ hr.c]
  rfl
theorem JI (n : Nat) (hn0 : 10 < n) (hn : n < 1000000) {r : Row} (hr : RowB r) : gK n r = some true := by
 have hc := hr.c
 have hb := hr.b
 have ht := hr.t
 have hj := hr.j
 have hd := hr.d
 have hp := hr.p
 unfold gK jJ
 rw [dI (e := r.1 - 1) (by omega) (by omega), dI (e := r.2.2.1 - 1) (by omega) (by omega)]
 generalize hL : [r.1 - 1, r.2.2.1 - 1, r.1, r.2.2.1, r.2.1, r.2.2.2.2.1] = L
 have hlen : L.length = 6 := by rw [← hL]; rfl
 have hs : ∀ a ∈ L, small a := by
  intro a ha
  rw [← hL] at ha
  unfold small
  simp only [aA, List.not_mem_nil, or_false] at ha
  rcases ha with rfl | rfl | rfl | rfl | rfl | rfl <;> omega
 have := d5 (S := fun F => (dr (di q_)) (gq n F)) (fun f x q => ∃ i : Nat, x = (L, (i : Int), r.1, r.2.1, r.2.2.1, r.2.2.2.1, r.2.2.2.2.1, r.2.2.2.2.2) ∧ i ≤ 6 ∧ 6 < f + i ∧ q = .inr ((), ((r.1, r.2.1, r.2.2.1, r.2.2.2.1, r.2.2.2.2.1, r.2.2.2.2.2, ()), ()))) (fun x r ⟨i, _, h1, h2, _⟩ => by omega) (fun f x F hF q => ?_) n (L, 0, r.1, r.2.1, r.2.2.1, r.2.2.2.1, r.2.2.2.2.1, r.2.2.2.2.2) _ ⟨0, rfl, am _, by omega, rfl⟩
 ·rw [this]
  show (if decide (r.2.2.2.1 ≥ 1) = true then _ else _) = _
  rw [if_pos (af (by omega))]
  show (if decide (r.2.2.2.1 ≤ 1048576) = true then _ else _) = _
  rw [if_pos (af (by omega))]
  show (if decide (r.2.2.2.2.2 ≥ 1) = true then some (decide (r.2.2.2.2.2 ≤ 100)) else _) = _
  rw [if_pos (af (by omega)), af (by omega)]
 ·rintro ⟨i, rfl, h1, h2, rfl⟩
  show gq n F L (i : Int) _ _ _ _ _ _ = _
  unfold gq
  rcases ak i 6 with hlt | hge
  ·have hm : L.getD i 0 ∈ L := by rw [ar, av (by omega)]; exact aU (by omega)
   have h3 := hs _ hm
   unfold small at h3
   rw [if_pos (af (by omega)), if_pos (show (decide (0 ≤ (i : Int)) && decide ((i : Int) < 6)) = true by simp; omega), ai, fT n _ h3.1 (by omega), ae, if_neg (by decide), dk (by omega)]
   exact hF _ _ ⟨i + 1, rfl, by omega, by omega, rfl⟩
  ·have : i = 6 := by omega
   subst this
   rw [if_neg (by simp)]
theorem xT (n : Nat) (hn0 : 10 < n) (hn : n < 1000000) {l : List Row} (h : RowsB l) : kz n l = some true := by
 have h8 := h.len
 unfold kz ny
 have := d5 (S := fun F => (di q_) (jL n F)) (fun f x r => ∃ i : Nat, x = (l, l, (l.length : Int), (i : Int)) ∧ i ≤ l.length ∧ l.length < f + i ∧ r = .inr ((l, ()), ())) (fun x r ⟨i, _, h1, h2, _⟩ => by omega) (fun f x F hF r => ?_) n (l, l, (l.length : Int), 0) _ ⟨0, rfl, am _, by omega, rfl⟩
 ·rw [this]
  show some (decide ((l.length : Int) ≤ 8)) = _
  rw [af (by omega)]
 ·rintro ⟨i, rfl, h1, h2, rfl⟩
  show jL n F l l (l.length : Int) (i : Int) = _
  unfold jL
  rcases ak i l.length with hlt | hge
  ·rw [if_pos (af (by omega)), if_pos (dh hlt), ai]
   show ((gK n (l.getD i dC)).bind _) = _
   rw [JI n hn0 hn (h.get hlt), ae, if_neg (by decide), dk (by omega)]
   exact hF _ _ ⟨i + 1, rfl, by omega, by omega, rfl⟩
  ·have : i = l.length := by omega
   subst this
   rw [if_neg (by simp)]
theorem JJ (n : Nat) (hn0 : 10 < n) (hn : n < 1000000) {l : List Row} (h : RowsB l) {i : Nat} (hi : i < l.length) : kA n l (i : Int) = some true := by
 unfold kA
 rw [xT n hn0 hn h, ae, if_pos rfl, if_pos (af (by omega)), af (by omega)]
def kZ (i : Nat) (w p : Int) : List Row → Nat → Int
 | [], _ => 0
 | r :: t, k => (if k = i ∨ r.2.2.2.2.2 < p then 0 else mU r w p) + kZ i w p t (k + 1)
theorem JK (i : Nat) {w p : Int} (hw : 0 ≤ w ∧ w ≤ 2000000) : ∀ (l : List Row) (k : Nat), (∀ r ∈ l, RowB r) → 0 ≤ kZ i w p l k ∧ kZ i w p l k ≤ 20000000000000 * (l.length : Int)
 | [], _, _ => by unfold kZ; simp
 | r :: t, k, hr => by
  unfold kZ
  have h1 := JK i (p := p) hw t (k + 1) (fun r h => hr r (ay _ h))
  have h2 := JH (hr r (aB ..)) (p := p) hw
  rw [aE]
  split <;> omega
def eA (l : List Row) (i : Nat) (w : Int) : Int := (l.getD i dC).1 + (l.getD i dC).2.1 + kZ i w (l.getD i dC).2.2.2.2.2 l 0
theorem Mm (n : Nat) (hn0 : 10 < n) (hn : n < 1000000) {l : List Row} (h : RowsB l) {i : Nat} (hi : i < l.length) {w : Int} (hw : 0 ≤ w ∧ w ≤ 2000000) : my n l (i : Int) w = some (eA l i w, 0) := by
 have h8 := h.len
 have hr := h.get hi
 have hc := hr.c
 have hb := hr.b
 unfold my
 rw [JJ n hn0 hn h hi, ae, if_neg (by decide), fT n w hw.1 (by omega), ae, if_neg (by decide), if_pos (dh hi), ai]
 show ((gL n [(l.getD i dC).1, (l.getD i dC).2.1]).bind _) = _
 unfold eA
 generalize l.getD i dC = q at *
 rw [DU n hn0 hn _ _ ⟨by omega, by omega⟩ ⟨hb.1, by omega⟩, ae]
 show ((kT n ((i : Int), w, q.1 + q.2.1, 0, l, (l.length : Int), 0, q.1, q.2.1, q.2.2.1, q.2.2.2.1, q.2.2.2.2.1, q.2.2.2.2.2)).bind _) = _
 unfold kT
 have := d5 (S := fun F => (ep (di (C_ q_))) (kB n F)) (fun f x r => ∃ (j : Nat) (s : Int), x = ((i : Int), w, s, 0, l, (l.length : Int), (j : Int), q.1, q.2.1, q.2.2.1, q.2.2.2.1, q.2.2.2.2.1, q.2.2.2.2.2) ∧ j ≤ l.length ∧ l.length < f + j ∧ (0 ≤ s ∧ s ≤ 4000000 + 20000000000000 * (j : Int)) ∧ r = (s + kZ i w q.2.2.2.2.2 (l.drop j) j, 0, q.1, q.2.1, q.2.2.1, q.2.2.2.1, q.2.2.2.2.1, q.2.2.2.2.2)) (fun x r ⟨j, s, _, h1, h2, _⟩ => by omega) (fun f x F hF r => ?_) n ((i : Int), w, q.1 + q.2.1, 0, l, (l.length : Int), 0, q.1, q.2.1, q.2.2.1, q.2.2.2.1, q.2.2.2.2.1, q.2.2.2.2.2) _ ⟨0, q.1 + q.2.1, rfl, am _, by omega, by omega, rfl⟩
 ·rw [this, bh, ae, if_neg (by simp)]
 ·rintro ⟨j, s, rfl, h1, h2, h3, rfl⟩
  show kB n F (i : Int) w s 0 l (l.length : Int) (j : Int) _ _ _ _ _ _ = _
  unfold kB
  rcases ak j l.length with hlt | hge
  ·rw [if_pos (af (by omega)), if_pos (dh hlt), if_neg (by decide), dk (by omega), ai, dM (d := dC) hlt]
   have hrj := h.get hlt
   have hin := JH hrj (p := q.2.2.2.2.2) hw
   unfold kZ
   by_cases hji : j = i
   ·rw [if_pos (by rw [hji]; exact bb _), if_pos (.inl hji), Int.zero_add]
    exact hF _ _ ⟨j + 1, s, rfl, by omega, by omega, by omega, rfl⟩
   ·rw [if_neg (fun e => hji (by have := ag.1 e; omega))]
    by_cases hp : (l.getD j dC).2.2.2.2.2 < q.2.2.2.2.2
    ·rw [if_pos (af hp), if_pos (.inr hp), Int.zero_add]
     exact hF _ _ ⟨j + 1, s, rfl, by omega, by omega, by omega, rfl⟩
    ·rw [if_neg (fun e => hp (aC e)), if_neg (by omega)]
     show ((iz n (l.getD j dC) w q.2.2.2.2.2).bind _) = _
     rw [Wj n hn0 hn hrj hw, ae, if_pos (eq0 _)]
     show ((gL n [s, mU (l.getD j dC) w q.2.2.2.2.2]).bind _) = _
     rw [DU n hn0 hn _ _ ⟨h3.1, by omega⟩ ⟨hin.1, by omega⟩, ae]
     refine hF _ _ ⟨j + 1, s + mU (l.getD j dC) w q.2.2.2.2.2, rfl, by omega, by omega, by omega, ?_⟩
     rw [Int.add_assoc]
  ·have : j = l.length := by omega
   subst this
   rw [if_neg (by simp), aN]
   unfold kZ
   rw [cw]
theorem NN {a a' b b' : Int} (ha : 0 ≤ a) (h : a ≤ a') (hb : 1 ≤ b') (hbb : b' ≤ b) : iR a b ≤ iR a' b' := by
 unfold iR
 split
 ·split
  ·omega
  ·have := xS (a := a' - 1) (b := b') (by omega) hb
   omega
 ·rw [if_neg (by omega)]
  have h1 := (xS (a := a - 1) (b := b) (by omega) (by omega)).1
  have h2 : (a - 1) / b * b ≤ a - 1 := Int.ediv_mul_le _ (by omega)
  have h3 : (a - 1) / b * b' ≤ (a - 1) / b * b := Int.mul_le_mul_of_nonneg_left hbb h1
  have : (a - 1) / b ≤ (a' - 1) / b' := (Int.le_ediv_iff_mul_le (by omega)).2 (by omega)
  omega
theorem NO {r r' : Row} (hr : RowB r) (hr' : RowB r') {w w' p : Int} (hw : 0 ≤ w) (h : w ≤ w') (hw2 : w' ≤ 2000000) (hc : r.1 = r'.1) (hT : r'.2.2.1 ≤ r.2.2.1) (hj : r.2.2.2.2.1 = r'.2.2.2.2.1) (hp : r.2.2.2.2.2 = r'.2.2.2.2.2) : mU r w p ≤ mU r' w' p := by
 unfold mU
 have h0 := hr.j
 have hc0 := hr.c
 have : iR (w + r.2.2.2.2.1) r.2.2.1 ≤ iR (w' + r'.2.2.2.2.1) r'.2.2.1 := NN (by omega) (by omega) hr'.t.1 hT
 rw [← hc, ← hp]
 refine Int.mul_le_mul_of_nonneg_right ?_ (by omega)
 omega
theorem CL (i : Nat) {w w' p : Int} (hw : 0 ≤ w) (h : w ≤ w') (hw2 : w' ≤ 2000000) : ∀ (l : List Row) (k : Nat), (∀ r ∈ l, RowB r) → kZ i w p l k ≤ kZ i w' p l k
 | [], _, _ => aH _
 | r :: t, k, hr => by
  unfold kZ
  have h1 := CL i hw h hw2 (p := p) t (k + 1) (fun r h => hr r (ay _ h))
  have h2 := NO (hr r (aB ..)) (hr r (aB ..)) (p := p) hw h hw2 rfl (aH _) rfl rfl
  split <;> omega
theorem CM {l : List Row} (hl : RowsB l) (i : Nat) {w w' : Int} (hw : 0 ≤ w) (h : w ≤ w') (hw2 : w' ≤ 2000000) : eA l i w ≤ eA l i w' := by
 unfold eA
 have := CL i (p := (l.getD i dC).2.2.2.2.2) hw h hw2 l 0 hl.all
 omega
theorem tU {l : List Row} (hl : RowsB l) {i : Nat} (hi : i < l.length) {w : Int} (hw : 0 ≤ w ∧ w ≤ 2000000) : (l.getD i dC).1 ≤ eA l i w ∧ 0 ≤ eA l i w := by
 unfold eA
 have := JK i (p := (l.getD i dC).2.2.2.2.2) hw l 0 hl.all
 have hb := (hl.get hi).b
 have hc := (hl.get hi).c
 omega
def gZ (l : List Row) (i : Nat) (F : Int → Option (Int × Int)) (w : Int) : Option (Int × Int) :=
 if eA l i w > (l.getD i dC).2.2.2.1 then some (0, 13) else
 if (l.getD i dC).2.2.2.2.1 > (l.getD i dC).2.2.2.1 - eA l i w then some (0, 13) else
 if eA l i w = w then some ((l.getD i dC).2.2.2.2.1 + w, 0) else F (eA l i w)
abbrev CN (l : List Row) (i : Nat) : Nat → Int → Option (Int × Int) := it (gZ l i)
theorem Vf {l : List Row} (hl : RowsB l) {i : Nat} (hi : i < l.length) : ∀ (f : Nat) (w : Int), 0 ≤ w → w ≤ eA l i w → w ≤ (l.getD i dC).2.2.2.1 → (l.getD i dC).2.2.2.1 - w < f → ∃ r, CN l i f w = some r := by
 have hd := (hl.get hi).d
 intro f
 induction f with
 | zero => intro w h0 h1 h2 h3; omega
 | succ f ih =>
  intro w h0 h1 h2 h3
  show ∃ r, gZ l i (it (gZ l i) f) w = some r
  unfold gZ
  split
  ·exact ⟨_, rfl⟩
  ·split
   ·exact ⟨_, rfl⟩
   ·split
    ·exact ⟨_, rfl⟩
    ·exact ih _ (by omega) (CM hl i h0 h1 (by omega)) (by omega) (by omega)
theorem Vg {l : List Row} {i : Nat} : ∀ (f : Nat) (w : Int) (r : Int × Int), CN l i f w = some r → CN l i (f + 1) w = some r := by
 intro f
 induction f with
 | zero => intro w r h; cases h
 | succ f ih =>
  intro w r h
  have h' : gZ l i (it (gZ l i) f) w = some r := h
  show gZ l i (it (gZ l i) (f + 1)) w = some r
  unfold gZ at h' ⊢
  split at h'
  ·rename_i c; rw [if_pos c]; exact h'
  ·rename_i c
   rw [if_neg c]
   split at h'
   ·rename_i c; rw [if_pos c]; exact h'
   ·rename_i c
    rw [if_neg c]
    split at h'
    ·rename_i c; rw [if_pos c]; exact h'
    ·rename_i c
     rw [if_neg c]
     exact ih _ _ h'
theorem Vh {l : List Row} {i : Nat} {f g : Nat} {w : Int} {r : Int × Int} (h : f ≤ g) (hr : CN l i f w = some r) : CN l i g w = some r := by
 induction h with
 | refl => exact hr
 | step _ ih => exact Vg _ _ _ ih
def fL (l : List Row) (i : Nat) : Int × Int := (CN l i 25000 0).getD (0, 0)
theorem CO {l : List Row} (hl : RowsB l) {i : Nat} (hi : i < l.length) (hd : (l.getD i dC).2.2.2.1 ≤ 20000) {n : Nat} (hn : 25000 ≤ n) : CN l i n 0 = some (fL l i) := by
 have h0 := (hl.get hi).d
 obtain ⟨r, hr⟩ := Vf hl hi 25000 0 (aH _) (tU hl hi (by omega)).2 (by omega) (by omega)
 refine Vh hn ?_
 unfold fL
 rw [hr]
 rfl
theorem RX (n : Nat) (hn0 : 200 < n) (hn : n < 1000000) {l : List Row} (h : RowsB l) {i : Nat} (hi : i < l.length) : ∀ (f : Nat) (w : Int), 0 ≤ w ∧ w ≤ 2000000 →
  it (fun F => (dr (di (C_ q_))) (gM n F)) f (l, (i : Int), w, (l.getD i dC).1, (l.getD i dC).2.1, (l.getD i dC).2.2.1, (l.getD i dC).2.2.2.1, (l.getD i dC).2.2.2.2.1, (l.getD i dC).2.2.2.2.2) = (CN l i f w).map fun r => (r.1, r.2, (l.getD i dC).1, (l.getD i dC).2.1, (l.getD i dC).2.2.1, (l.getD i dC).2.2.2.1, (l.getD i dC).2.2.2.2.1, (l.getD i dC).2.2.2.2.2) := by
 have hd := (h.get hi).d
 have hj := (h.get hi).j
 intro f
 induction f with
 | zero => intro w hw; rfl
 | succ f ih =>
  intro w hw
  show gM n _ l (i : Int) w _ _ _ _ _ _ = (gZ l i (it (gZ l i) f) w).map _
  have hin := tU h hi hw
  unfold gM gZ
  rw [Mm n (by omega) hn h hi hw, ae, if_neg (Y8 _)]
  by_cases c1 : eA l i w > (l.getD i dC).2.2.2.1
  ·rw [if_pos (af c1), if_pos c1]; rfl
  ·rw [if_neg (fun e => c1 (aC e)), if_neg c1, dI (e := (l.getD i dC).2.2.2.1 - eA l i w) (by omega) (by omega)]
   by_cases c2 : (l.getD i dC).2.2.2.2.1 > (l.getD i dC).2.2.2.1 - eA l i w
   ·rw [if_pos (af c2), if_pos c2]; rfl
   ·rw [if_neg (fun e => c2 (aC e)), if_neg c2]
    by_cases c3 : eA l i w = w
    ·rw [if_neg (fun e => aj.1 e c3), if_pos c3]
     show (some (wrap .i64 ((l.getD i dC).2.2.2.2.1 + w), 0, (l.getD i dC).1, (l.getD i dC).2.1, (l.getD i dC).2.2.1, (l.getD i dC).2.2.2.1, (l.getD i dC).2.2.2.2.1, (l.getD i dC).2.2.2.2.2) : Option _) = _
     rw [dI (e := (l.getD i dC).2.2.2.2.1 + w) (by omega) (by omega)]; rfl
    ·rw [if_pos (aj.2 c3), if_neg c3]
     exact ih _ (by omega)
theorem Wk (n : Nat) (hn0 : 25000 ≤ n) (hn : n < 1000000) {l : List Row} (h : RowsB l) {i : Nat} (hi : i < l.length) (hd2 : (l.getD i dC).2.2.2.1 ≤ 20000) : jZ n l (i : Int) = some (fL l i) := by
 have hd := (h.get hi).d
 have hj := (h.get hi).j
 have hr := CO h hi hd2 (show 25000 ≤ n + 1 by omega)
 have hin := tU h hi (show (0 : Int) ≤ 0 ∧ (0 : Int) ≤ 2000000 by omega)
 have h2 : gZ l i (it (gZ l i) n) 0 = some (fL l i) := hr
 unfold jZ
 rw [JJ n (by omega) hn h hi, ae, if_neg (by decide), if_pos (dh hi), Mm n (by omega) hn h hi (by omega), ae, if_neg (Y8 _), ai, ← h2]
 unfold gZ
 by_cases c1 : eA l i 0 > (l.getD i dC).2.2.2.1
 ·rw [if_pos (af c1), if_pos c1]
 ·rw [if_neg (fun e => c1 (aC e)), if_neg c1]
  show (if decide ((l.getD i dC).2.2.2.2.1 > (wrap .i64 ((l.getD i dC).2.2.2.1 - eA l i 0))) = true then _ else _) = _
  rw [dI (e := (l.getD i dC).2.2.2.1 - eA l i 0) (by omega) (by omega)]
  by_cases c2 : (l.getD i dC).2.2.2.2.1 > (l.getD i dC).2.2.2.1 - eA l i 0
  ·rw [if_pos (af c2), if_pos c2]
  ·rw [if_neg (fun e => c2 (aC e)), if_neg c2]
   by_cases c3 : eA l i 0 = 0
   ·rw [if_neg (fun e => aj.1 e c3), if_pos c3]
    show some (wrap .i64 ((l.getD i dC).2.2.2.2.1 + 0), 0) = _
    rw [dI (by omega) (by omega)]
   ·rw [if_pos (aj.2 c3), if_neg c3]
    have := RX n (by omega) hn h hi n (eA l i 0) (by omega)
    unfold kn
    show (it _ n (l, (i : Int), eA l i 0, (l.getD i dC).1, (l.getD i dC).2.1, (l.getD i dC).2.2.1, (l.getD i dC).2.2.2.1, (l.getD i dC).2.2.2.2.1, (l.getD i dC).2.2.2.2.2)).bind _ = _
    rw [this]
    show (Option.map _ (it (gZ l i) n (eA l i 0))).bind _ = it (gZ l i) n (eA l i 0)
    generalize it (gZ l i) n (eA l i 0) = z
    cases z <;> rfl
def xU (R : Nat → Int × Int) : Nat → Nat → List Int → List Int × Int × Int
 | 0, _, o => (o, -1, 0)
 | k + 1, i, o => if (R i).2 ≠ 0 then ([], (i : Int), (R i).2) else xU R k (i + 1) (o ++ [(R i).1])
def Bi (l : List Row) : List Int × Int × Int := xU (fL l) l.length 0 []
def JL (R : Nat → Int × Int) : Nat → Nat → List Int → (((List Int × Int × Int × Unit) × Unit) ⊕ ((List Int × Unit) × Unit))
 | 0, _, o => .inr ((o, ()), ())
 | k + 1, i, o => if (R i).2 ≠ 0 then .inl (([], (i : Int), (R i).2, ()), ()) else JL R k (i + 1) (o ++ [(R i).1])
theorem Mn (R : Nat → Int × Int) : ∀ (k i : Nat) (o : List Int), (Sum.elim (fun (z3 : (((List Int) × Int × Int × Unit) × Unit)) => (some (z3.1.1, z3.1.2.1, z3.1.2.2.1))) (fun (z4 : (((List Int) × Unit) × Unit)) => (some (z4.1.1, (-1), 0))) (JL R k i o) : Option (List Int × Int × Int)) = some (xU R k i o)
 | 0, _, _ => rfl
 | k + 1, i, o => by
  unfold JL xU
  split
  ·rfl
  ·exact Mn R k (i + 1) _
theorem RY (n : Nat) (hn0 : 25000 ≤ n) (hn : n < 1000000) {l : List Row} (h : RowsB l) (hd2 : ∀ r ∈ l, r.2.2.2.1 ≤ 20000) : jN n l = some (Bi l) := by
 have h8 := h.len
 unfold jN mz
 rw [xT n (by omega) hn h, ae, if_neg (by decide)]
 have := d5 (S := fun F => (di q_) (i9 n F)) (fun f x r => ∃ (i : Nat) (o : List Int), x = (l, o, (l.length : Int), (i : Int)) ∧ i ≤ l.length ∧ l.length < f + i ∧ o.length ≤ i ∧ r = JL (fL l) (l.length - i) i o) (fun x r ⟨i, _, _, h1, h2, _⟩ => by omega) (fun f x F hF r => ?_) n (l, [], (l.length : Int), 0) _ ⟨0, [], rfl, am _, by omega, by simp, rfl⟩
 ·rw [this]
  exact Mn _ _ _ _
 ·rintro ⟨i, o, rfl, h1, h2, h3, rfl⟩
  show i9 n F l o (l.length : Int) (i : Int) = _
  unfold i9
  rcases ak i l.length with hlt | hge
  ·obtain ⟨k, hk⟩ : ∃ k, l.length - i = k + 1 := ⟨l.length - i - 1, by omega⟩
   have hm : l.getD i dC ∈ l := by rw [ar, av hlt]; exact aU hlt
   rw [if_pos (af (by omega)), Wk n hn0 hn h hlt (hd2 _ hm), ae, hk]
   unfold JL
   by_cases c : (fL l i).2 ≠ 0
   ·rw [if_pos (aj.2 c), if_pos c]
   ·rw [if_neg (fun e => c (aj.1 e)), if_neg c, if_pos (by rw [af (show (o.length + 1) * 8 ≤ 140737488355328 by omega)]; rfl), dk (by omega)]
    exact hF _ _ ⟨i + 1, o ++ [(fL l i).1], rfl, by omega, by omega, by rw [aM]; simp; omega, by rw [show l.length - (i + 1) = k by omega]⟩
  ·have : i = l.length := by omega
   subst this
   rw [if_neg (by simp), bc]
   rfl
abbrev fI := Int × List Int × List Int
abbrev eN : fI := ((0 : Int), ([], []))
structure UseOk (b : Int) (u : fI) : Prop where
 p : 1 ≤ u.1 ∧ u.1 ≤ 100
 r : Rises b (-1) u.2.1
 len : u.2.1.length = u.2.2.length
 l : ∀ a ∈ u.2.2, 0 ≤ a ∧ a ≤ 1099511627776
structure UsesOk (b : Int) (l : List fI) : Prop where
 bl : 0 ≤ b ∧ b ≤ 8
 len : l.length ≤ 8
 all : ∀ u ∈ l, UseOk b u
theorem UsesOk.get {b : Int} {l : List fI} (h : UsesOk b l) {i : Nat} (hi : i < l.length) : UseOk b (l.getD i eN) := h.all _ (by rw [ar, av hi]; exact aU hi)
theorem Bj {l : List Int} {i : Nat} (hi : i < l.length) : l.getD i 0 ∈ l := by rw [ar, av hi]; exact aU hi
theorem UseOk.small {b : Int} {u : fI} (h : UseOk b u) (hb : b ≤ 8) : u.2.1.length ≤ 8 := by
 have h1 := h.r.len
 by_cases hb0 : -1 < b
 ·have := h1 hb0; omega
 ·cases hu : u.2.1 with
  | nil => simp
  | cons x t => have := h.r.mem x (by rw [hu]; exact aB ..); omega
theorem Rises.drop {e : Int} {l : List Int} {b : Int} (h : Rises e b l) : ∀ {i : Nat}, i < l.length → Rises e (if i = 0 then b else l.getD (i - 1) 0) (l.drop i) := by
 induction l generalizing b with
 | nil => intro i hi; simp at hi
 | cons x t ih =>
  intro i hi
  cases i with
  | zero => exact h
  | succ i =>
   have h2 : Rises e x t := h.2.2
   rw [if_neg (by omega), List.drop_succ_cons, cv]
   cases i with
   | zero => exact h2
   | succ i =>
    have := ih h2 (i := i + 1) (by simpa using hi)
    rw [if_neg (by omega), cv] at this
    exact this
theorem Rises.at {e : Int} {l : List Int} {b : Int} (h : Rises e b l) {i : Nat} (hi : i < l.length) : (if i = 0 then b else l.getD (i - 1) 0) < l.getD i 0 ∧ l.getD i 0 < e := by
 have := h.drop hi
 rw [dM (d := (0 : Int)) hi] at this
 exact ⟨this.1, this.2.1⟩
theorem JM (n : Nat) (hn0 : 200 < n) (hn : n < 1000000) {b : Int} (hb : 0 ≤ b ∧ b ≤ 8) {u : fI} (h : UseOk b u) : wk n u b = some true := by
 have h8 := h.small hb.2
 have hp := h.p
 have hlen := h.len
 unfold wk wj
 rw [if_neg (fun e => by have := aC e; omega), if_neg (fun e => by have := aC e; omega), if_neg (fun e => by have := aj.1 e; omega)]
 have := d5 (S := fun F => (dr (di q_)) (r5 n F)) (fun f x r => ∃ i : Nat, x = (b, (if i = 0 then -1 else u.2.1.getD (i - 1) 0), u.2.1, (u.2.1.length : Int), (i : Int), u.1, u.2.1, u.2.2) ∧ i ≤ u.2.1.length ∧ u.2.1.length < f + i ∧ r = .inr ((), ((u.1, u.2.1, u.2.2, ()), ()))) (fun x r ⟨i, _, h1, h2, _⟩ => by omega) (fun f x F hF r => ?_) n (b, -1, u.2.1, (u.2.1.length : Int), 0, u.1, u.2.1, u.2.2) _ ⟨0, rfl, am _, by omega, rfl⟩
 ·rw [this]; rfl
 ·rintro ⟨i, rfl, h1, h2, rfl⟩
  show r5 n F b (if i = 0 then -1 else u.2.1.getD (i - 1) 0) u.2.1 (u.2.1.length : Int) (i : Int) u.1 u.2.1 u.2.2 = _
  unfold r5
  rcases ak i u.2.1.length with hlt | hge
  ·have hr := h.r.at hlt
   have hl := h.l _ (Bj (l := u.2.2) (i := i) (by omega))
   rw [if_pos (af (by omega)), if_pos (dh hlt), ai, if_neg (fun e => by have := aC e; omega), if_neg (fun e => by have := aC e; omega), if_pos (dh (by omega)), if_neg (fun e => by have := aC e; omega), if_pos (dh (by omega)), if_neg (fun e => by have := aC e; omega), dk (by omega)]
   exact hF _ _ ⟨i + 1, by rw [if_neg (by omega), cv], by omega, by omega, rfl⟩
  ·have : i = u.2.1.length := by omega
   subst this
   rw [if_neg (by simp)]
theorem um (n : Nat) (hn0 : 200 < n) (hn : n < 1000000) {b : Int} {l : List fI} (h : UsesOk b l) : jF n b l = some true := by
 have h8 := h.len
 have hb := h.bl
 unfold jF mo
 have := d5 (S := fun F => (di (C_ q_)) (i0 n F)) (fun f x r => ∃ i : Nat, x = (b, l, l, (l.length : Int), (i : Int)) ∧ i ≤ l.length ∧ l.length < f + i ∧ r = .inr ((b, l, ()), ())) (fun x r ⟨i, _, h1, h2, _⟩ => by omega) (fun f x F hF r => ?_) n (b, l, l, (l.length : Int), 0) _ ⟨0, rfl, am _, by omega, rfl⟩
 ·rw [this]
  show (if decide (b ≥ 0) = true then if decide (b ≤ 8) = true then some (decide ((l.length : Int) ≤ 8)) else _ else _) = _
  rw [if_pos (af hb.1), if_pos (af hb.2), af (by omega)]
 ·rintro ⟨i, rfl, h1, h2, rfl⟩
  show i0 n F b l l (l.length : Int) (i : Int) = _
  unfold i0
  rcases ak i l.length with hlt | hge
  ·rw [if_pos (af (by omega)), if_pos (dh hlt), ai]
   show ((wk n (l.getD i eN) b).bind _) = _
   rw [JM n hn0 hn hb (h.get hlt), ae, if_neg (by decide), dk (by omega)]
   exact hF _ _ ⟨i + 1, rfl, by omega, by omega, rfl⟩
  ·have : i = l.length := by omega
   subst this
   rw [if_neg (by simp)]
def hi (p m : Int) : Int := if p > m then p else m
def xV (p : Int) : List Int → List Int → List Int
 | [], c => c
 | k :: t, c => xV p t (c.set k.toNat (hi p (c.getD k.toNat 0)))
def qW : List fI → List Int → List Int
 | [], c => c
 | u :: t, c => qW t (xV u.1 u.2.1 c)
def d8 (b : Int) (l : List fI) : List Int := qW l (List.replicate b.toNat 0)
theorem qa (p : Int) : ∀ (k c : List Int), (xV p k c).length = c.length
 | [], c => rfl
 | x :: t, c => by unfold xV; rw [qa p t, aQ]
theorem Gn : ∀ (l : List fI) (c : List Int), (qW l c).length = c.length
 | [], c => rfl
 | u :: t, c => by unfold qW; rw [Gn t, qa]
def ii (p k : Int) : List Int → Int → Int
 | [], m => m
 | x :: t, m => ii p k t (if x = k then hi p m else m)
def k0 (k : Int) : List fI → Int → Int
 | [], m => m
 | u :: t, m => k0 k t (ii u.1 k u.2.1 m)
def jR (l : List fI) (k : Int) : Int := k0 k l 0
theorem Mo (p : Int) {k : Int} (hk : 0 ≤ k) : ∀ (s c : List Int), k < (c.length : Int) → (∀ x ∈ s, 0 ≤ x ∧ x < (c.length : Int)) → (xV p s c).getD k.toNat 0 = ii p k s (c.getD k.toNat 0)
 | [], c, _, _ => rfl
 | x :: t, c, hc, hs => by
  unfold xV ii
  have hx := hs x (aB ..)
  rw [Mo p hk t _ (by rw [aQ]; exact hc) (fun y hy => by rw [aQ]; exact hs y (ay _ hy))]
  congr 1
  by_cases e : x = k
  ·subst e
   rw [if_pos rfl, ar, List.getElem?_set_self (by omega)]
   rfl
  ·rw [if_neg e, ar, List.getElem?_set_ne (by omega), ← ar]
theorem JN {k : Int} (hk : 0 ≤ k) : ∀ (l : List fI) (c : List Int), k < (c.length : Int) → (∀ u ∈ l, ∀ x ∈ u.2.1, 0 ≤ x ∧ x < (c.length : Int)) → (qW l c).getD k.toNat 0 = k0 k l (c.getD k.toNat 0)
 | [], c, _, _ => rfl
 | u :: t, c, hc, hs => by
  unfold qW k0
  rw [JN hk t _ (by rw [qa]; exact hc) (fun v hv x hx => by rw [qa]; exact hs v (ay _ hv) x hx), Mo u.1 hk _ _ hc (hs u (aB ..))]
theorem UsesOk.rng {b : Int} {l : List fI} (h : UsesOk b l) : ∀ u ∈ l, ∀ x ∈ u.2.1, 0 ≤ x ∧ x < b := fun u hu x hx => by
 have := (h.all u hu).r.mem x hx
 omega
theorem tV (b : Int) (l : List fI) : (d8 b l).length = b.toNat := by unfold d8; rw [Gn, bp]
theorem Gp {b : Int} {l : List fI} (h : UsesOk b l) {k : Int} (h0 : 0 ≤ k) (h1 : k < b) : (d8 b l).getD k.toNat 0 = jR l k := by
 unfold d8 jR
 have hlen : ((List.replicate b.toNat (0 : Int)).length : Int) = b := by rw [bp]; omega
 rw [JN h0 l _ (by omega) (fun u hu x hx => by rw [hlen]; exact h.rng u hu x hx)]
 congr 1
 rw [ar, bW]
 split <;> rfl
theorem Wl (n : Nat) (hn0 : 200 < n) (hn : n < 1000000) (l : List fI) (a i p : Int) (s t c : List Int) (hlen : s.length = t.length) (h8 : s.length ≤ 8) (hs : ∀ x ∈ s, 0 ≤ x ∧ x < (c.length : Int)) :
  iy n (l, a, i, s, (s.length : Int), 0, c, p, s, t) = some (l, a, i, xV p s c, p, s, t) := by
 unfold iy
 refine d5 (S := fun F => (ep q_) (jG n F)) (fun f x r => ∃ (j : Nat) (d : List Int), x = (l, a, i, s, (s.length : Int), (j : Int), d, p, s, t) ∧ j ≤ s.length ∧ s.length < f + j ∧ d.length = c.length ∧ r = (l, a, i, xV p (s.drop j) d, p, s, t)) (fun x r ⟨j, _, _, h1, h2, _⟩ => by omega) (fun f x F hF r => ?_) n _ _ ⟨0, c, rfl, am _, by omega, rfl, rfl⟩
 rintro ⟨j, d, rfl, h1, h2, h3, rfl⟩
 show jG n F l a i s (s.length : Int) (j : Int) d p s t = _
 unfold jG
 rcases ak j s.length with hlt | hge
 ·have hx := hs _ (Bj hlt)
  rw [if_pos (af (by omega)), if_pos (dh hlt), if_pos (dh (by omega)), ai, dM (d := (0 : Int)) hlt]
  have : ia n (p, (s, t)) (s.getD j 0) (t.getD j 0) d = some (d.set (s.getD j 0).toNat (hi p (d.getD (s.getD j 0).toNat 0))) := by
   unfold ia hi
   rw [if_pos (sH hx.1 (by rw [h3]; exact hx.2)), if_pos (sH hx.1 (by rw [h3]; exact hx.2))]
  rw [this, ae, dk (by omega)]
  exact hF _ _ ⟨j + 1, _, rfl, by omega, by omega, by rw [aQ]; exact h3, rfl⟩
 ·have : j = s.length := by omega
  subst this
  rw [if_neg (by simp), aN]
  rfl
theorem Wm (n : Nat) (hn0 : 200 < n) (hn : n < 1000000) (l : List fI) (c : List Int) (h8 : l.length ≤ 8) (hs : ∀ u ∈ l, u.2.1.length = u.2.2.length ∧ u.2.1.length ≤ 8 ∧ ∀ x ∈ u.2.1, 0 ≤ x ∧ x < (c.length : Int)) : nM n l c = some (qW l c) := by
 unfold nM nu
 have := d5 (S := fun F => (di q_) (jH n F)) (fun f x r => ∃ (j : Nat) (d : List Int), x = (l, (l.length : Int), (j : Int), d) ∧ j ≤ l.length ∧ l.length < f + j ∧ d.length = c.length ∧ r = qW (l.drop j) d) (fun x r ⟨j, _, _, h1, h2, _⟩ => by omega) (fun f x F hF r => ?_) n (l, (l.length : Int), 0, c) _ ⟨0, c, rfl, am _, by omega, rfl, rfl⟩
 ·rw [this, bh]; rfl
 ·rintro ⟨j, d, rfl, h1, h2, h3, rfl⟩
  show jH n F l (l.length : Int) (j : Int) d = _
  unfold jH
  rcases ak j l.length with hlt | hge
  ·have hm : l.getD j eN ∈ l := by rw [ar, av hlt]; exact aU hlt
   obtain ⟨k1, k2, k3⟩ := hs _ hm
   rw [if_pos (af (by omega)), if_pos (dh hlt), ai, dM (d := eN) hlt]
   show ((iy n (l, (l.length : Int), (j : Int), (l.getD j eN).2.1, ((l.getD j eN).2.1.length : Int), 0, d, (l.getD j eN).1, (l.getD j eN).2.1, (l.getD j eN).2.2)).bind _) = _
   rw [Wl n hn0 hn l _ _ _ _ _ d k1 k2 (fun x hx => by rw [h3]; exact k3 x hx), ae]
   show F (l, (l.length : Int), wrap .i64 ((j : Int) + 1), _) = _
   rw [dk (by omega)]
   exact hF _ _ ⟨j + 1, _, rfl, by omega, by omega, by rw [qa]; exact h3, rfl⟩
  ·have : j = l.length := by omega
   subst this
   rw [if_neg (by simp), aN]
   rfl
theorem zC (n : Nat) (hn0 : 200 < n) (hn : n < 1000000) {b : Int} {l : List fI} (h : UsesOk b l) : fY n b l = some (d8 b l) := by
 have hb := h.bl
 unfold fY
 rw [um n hn0 hn h, ae, if_neg (by decide), if_pos (by rw [af hb.1, bb, af (show b * 8 ≤ 140737488355328 by omega)]; rfl)]
 rw [Wm n hn0 hn l _ h.len (fun u hu => ⟨(h.all u hu).len, (h.all u hu).small hb.2, fun x hx => by have := h.rng u hu x hx; rw [bp]; omega⟩)]
 rfl
def gT (c : Int → Int) (p q : Int) : List Int → List Int → Int → Int
 | k :: s, a :: t, m => gT c p q s t (if q < p then if c k ≥ p then hi a m else m else m)
 | _, _, m => m
def iS (c : Int → Int) (p : Int) : List fI → Int → Int
 | [], m => m
 | u :: t, m => iS c p t (gT c p u.1 u.2.1 u.2.2 m)
def pc (l : List fI) (i : Nat) : Int := iS (jR l) (l.getD i eN).1 l 0
def e8 (l : List fI) : List Int := (List.range l.length).map (fun (k : Nat) => pc l k)
theorem Wn (n : Nat) (hn0 : 200 < n) (hn : n < 1000000) {b : Int} {l : List fI} (h : UsesOk b l) (p : Int) (ob ol : List Int) {i : Nat} (hi : i < l.length) (m : Int) :
  oj n (l, (l.length : Int), (i : Int), (l.getD i eN).2.1, ((l.getD i eN).2.1.length : Int), 0, p, ob, ol, d8 b l, m, (l.getD i eN).1, (l.getD i eN).2.1, (l.getD i eN).2.2) = some (l, (l.length : Int), (i : Int), p, ob, ol, d8 b l, gT (jR l) p (l.getD i eN).1 (l.getD i eN).2.1 (l.getD i eN).2.2 m, (l.getD i eN).1, (l.getD i eN).2.1, (l.getD i eN).2.2) := by
 have hu := h.get hi
 have h8 := hu.small h.bl.2
 have hlen := hu.len
 have hb := h.bl
 generalize hq : l.getD i eN = u at *
 unfold oj
 refine d5 (S := fun F => (ep (dr q_)) (r8 n F)) (fun f x r => ∃ (j : Nat) (m : Int), x = (l, (l.length : Int), (i : Int), u.2.1, (u.2.1.length : Int), (j : Int), p, ob, ol, d8 b l, m, u.1, u.2.1, u.2.2) ∧ j ≤ u.2.1.length ∧ u.2.1.length < f + j ∧ r = (l, (l.length : Int), (i : Int), p, ob, ol, d8 b l, gT (jR l) p u.1 (u.2.1.drop j) (u.2.2.drop j) m, u.1, u.2.1, u.2.2)) (fun x r ⟨j, _, _, h1, h2, _⟩ => by omega) (fun f x F hF r => ?_) n _ _ ⟨0, m, rfl, am _, by omega, rfl⟩
 rintro ⟨j, m, rfl, h1, h2, rfl⟩
 show r8 n F l (l.length : Int) (i : Int) u.2.1 (u.2.1.length : Int) (j : Int) p ob ol (d8 b l) m u.1 u.2.1 u.2.2 = _
 unfold r8
 rcases ak j u.2.1.length with hlt | hge
 ·have hm := hu.r.mem _ (Bj hlt)
  have hcl : ((d8 b l).length : Int) = b := by rw [tV]; omega
  rw [if_pos (af (by omega)), if_pos (dh hlt), if_pos (dh (by omega)), ai, dM (d := (0 : Int)) hlt, dM (d := (0 : Int)) (l := u.2.2) (by omega)]
  have : jY n (u.1, (u.2.1, u.2.2)) (u.2.1.getD j 0) (u.2.2.getD j 0) p ob ol (d8 b l) m = some (p, ob, ol, d8 b l, if u.1 < p then if jR l (u.2.1.getD j 0) ≥ p then Go.Proofs.Dk.hi (u.2.2.getD j 0) m else m else m) := by
   unfold jY Go.Proofs.Dk.hi
   by_cases c1 : u.1 < p
   ·rw [if_pos (af c1), if_pos c1, if_pos (sH (by omega) (by rw [hcl]; omega)), Gp h (by omega) (by omega)]
    by_cases c2 : jR l (u.2.1.getD j 0) ≥ p
    ·rw [if_pos (af c2), if_pos c2]
    ·rw [if_neg (fun e => c2 (aC e)), if_neg c2]
   ·rw [if_neg (fun e => c1 (aC e)), if_neg c1]
  rw [this, ae, dk (by omega)]
  exact hF _ _ ⟨j + 1, _, rfl, by omega, by omega, rfl⟩
 ·have : j = u.2.1.length := by omega
  subst this
  rw [if_neg (by simp), aN]
  rfl
theorem Vi (n : Nat) (hn0 : 200 < n) (hn : n < 1000000) {b : Int} {l : List fI} (h : UsesOk b l) (p : Int) (ob ol : List Int) : wo n l p ob ol (d8 b l) 0 = some (p, ob, ol, d8 b l, iS (jR l) p l 0) := by
 have h8 := h.len
 unfold wo wn
 have := d5 (S := fun F => (dr (di q_)) (r9 n F)) (fun f x r => ∃ (j : Nat) (m : Int), x = (l, (l.length : Int), (j : Int), p, ob, ol, d8 b l, m) ∧ j ≤ l.length ∧ l.length < f + j ∧ r = (p, ob, ol, d8 b l, iS (jR l) p (l.drop j) m)) (fun x r ⟨j, _, _, h1, h2, _⟩ => by omega) (fun f x F hF r => ?_) n (l, (l.length : Int), 0, p, ob, ol, d8 b l, 0) _ ⟨0, 0, rfl, am _, by omega, rfl⟩
 ·rw [this, bh]; rfl
 ·rintro ⟨j, m, rfl, h1, h2, rfl⟩
  show r9 n F l (l.length : Int) (j : Int) p ob ol (d8 b l) m = _
  unfold r9
  rcases ak j l.length with hlt | hge
  ·rw [if_pos (af (by omega)), if_pos (dh hlt), ai, dM (d := eN) hlt]
   show ((oj n (l, (l.length : Int), (j : Int), (l.getD j eN).2.1, ((l.getD j eN).2.1.length : Int), 0, p, ob, ol, d8 b l, m, (l.getD j eN).1, (l.getD j eN).2.1, (l.getD j eN).2.2)).bind _) = _
   rw [Wn n hn0 hn h p ob ol hlt m, ae]
   show F (l, (l.length : Int), wrap .i64 ((j : Int) + 1), _) = _
   rw [dk (by omega)]
   exact hF _ _ ⟨j + 1, _, rfl, by omega, by omega, rfl⟩
  ·have : j = l.length := by omega
   subst this
   rw [if_neg (by simp), aN]
   rfl
theorem Vj (n : Nat) (hn0 : 200 < n) (hn : n < 1000000) {b : Int} {l : List fI} (h : UsesOk b l) : jI n b l = some (e8 l) := by
 have h8 := h.len
 unfold jI mr
 rw [um n hn0 hn h, ae, if_neg (by decide), zC n hn0 hn h, ae]
 have := d5 (S := fun F => (dr q_) (i7 n F)) (fun f x r => ∃ (j : Nat), x = (l, (List.range j).map (fun (k : Nat) => pc l k), l, (l.length : Int), (j : Int), d8 b l) ∧ j ≤ l.length ∧ l.length < f + j ∧ r = (e8 l, d8 b l)) (fun x r ⟨j, _, h1, h2, _⟩ => by omega) (fun f x F hF r => ?_) n (l, [], l, (l.length : Int), 0, d8 b l) _ ⟨0, rfl, am _, by omega, rfl⟩
 ·rw [this]; rfl
 ·rintro ⟨j, rfl, h1, h2, rfl⟩
  show i7 n F l ((List.range j).map (fun (k : Nat) => pc l k)) l (l.length : Int) (j : Int) (d8 b l) = _
  unfold i7
  rcases ak j l.length with hlt | hge
  ·rw [if_pos (af (by omega)), if_pos (dh hlt), ai]
   show ((wo n l (l.getD j eN).1 (l.getD j eN).2.1 (l.getD j eN).2.2 (d8 b l) 0).bind _) = _
   rw [Vi n hn0 hn h, ae, if_pos (by rw [bj, cf, af (show (j + 1) * 8 ≤ 140737488355328 by omega)]; rfl), dk (by omega)]
   refine hF _ _ ⟨j + 1, ?_, by omega, by omega, rfl⟩
   rw [List.range_succ, cr]
   rfl
  ·have : j = l.length := by omega
   subst this
   rw [if_neg (by simp)]
   rfl
theorem JO {l : List da} (hl : l.length < 30000) (h : (eS bM 30000 l).2 = 0) : (kY 30000 l).1.length = (fA l).length ∧ (∀ e ∈ (kY 30000 l).1, 1 ≤ e.2 ∧ e.2 + 2 ≤ (eS bM 30000 l).1) := by
 obtain ⟨h1, h2⟩ := tQ h
 obtain ⟨b1, b2, b3, b4, b5⟩ := tS 30000 l h
 have hsI : kY 30000 l = (gR l (dw l).1 30000 l.length 0, 0) := by unfold kY; rw [if_neg (fun k => k h)]
 rw [hsI]
 obtain ⟨g1, g2⟩ := RH (n := 30000) h1 (DR h2).2 hl (by omega) l.length 0 (by omega)
 refine ⟨?_, fun e he => ⟨(g2 e he).1, by have := (g2 e he).2; omega⟩⟩
 unfold fA
 rw [if_pos h1]
 exact Gk _ _
def JP (m : Img) (i : Nat) : fI := ((dg m i).1, (dg m i).2.2.2.2.1, (jj 30000 m i).1)
def dZ (m : Img) : List fI := (List.range m.tasks.length).map (fun (k : Nat) => JP m k)
def rz (m : Img) (i : Nat) : Row := ((gS 30000 m i).1, (e8 (dZ m)).getD i 0, (dg m i).2.1, (dg m i).2.2.1, (dg m i).2.2.2.1, (dg m i).1)
def e9 (m : Img) : List Row := (List.range m.tasks.length).map (fun (k : Nat) => rz m k)
abbrev Vd := Int × Int × List Row × List Int × List Int
def jd (m : Img) : Vd := if (ew 30000 m).2 ≠ 0 then ((ew 30000 m).2, (ew 30000 m).1, [], [], []) else ((Bi (e9 m)).2.2, (Bi (e9 m)).2.1, e9 m, (Bi (e9 m)).1, d8 (m.blocks.length : Int) (dZ m))
theorem CP {e : Nat → Int} : ∀ {r i : Nat}, mT e r i = none → ∀ j, i ≤ j → j < i + r → e j = 0
 | 0, i, _, j, h1, h2 => by omega
 | r + 1, i, h, j, h1, h2 => by
  unfold mT at h
  split at h
  ·cases h
  ·rename_i hz
   rcases ak i j with h3 | h3
   ·exact CP h j (by omega) (by omega)
   ·have : j = i := by omega
    rw [this]
    exact Decidable.not_not.1 hz
theorem CQ {e : Nat → Int} {p : Int × Int} : ∀ {r i : Nat}, mT e r i = some p → p.2 ≠ 0
 | 0, i, h => by cases h
 | r + 1, i, h => by
  unfold mT at h
  split at h
  ·rename_i hz
   simp only [ab] at h
   rw [← h]
   exact hz
  ·exact CQ h
theorem gb {n : Nat} {m : Img} (h : (ew n m).2 = 0) : RightP m ∧ (ew n m).1 = -1 ∧ ∀ i, i < m.tasks.length → fB n m (i : Int) = 0 := by
 unfold ew at h ⊢
 split at h
 ·rename_i hR
  rw [if_pos hR]
  refine ⟨hR, ?_⟩
  cases hf : mT (fun i => fB n m (i : Int)) m.tasks.length 0 with
  | none => exact ⟨rfl, fun i hi => CP hf i (am _) (by omega)⟩
  | some p =>
   rw [hf] at h
   exact absurd h (CQ hf)
 ·exact absurd h (by decide)
def CS (m : Img) : Prop := ∀ t ∈ m.tasks, ¬ (t.2.2.1 > 20000 ∧ t.2.2.1 ≤ 1048576)
theorem tW {m : Img} {i : Nat} (hi : i < m.tasks.length) : dg m (i : Int) ∈ m.tasks := by
 unfold dg
 rw [ai, ar, av hi]
 exact aU hi
theorem Gq {m : Img} (h : RightP m) {i : Nat} (hi : i < m.tasks.length) : mS m (dg m (i : Int)) := (h.task (i := (i : Int)) (by omega) (by omega)).1
theorem zD {m : Img} {i : Nat} (hz : fB 30000 m (i : Int) = 0) : (jj 30000 m (i : Int)).1.length = (dg m (i : Int)).2.2.2.2.1.length ∧ ∀ a ∈ (jj 30000 m (i : Int)).1, 1 ≤ a ∧ a ≤ 1048576 := by
 obtain ⟨hR, ⟨h0, h1⟩, h2, h3, h4⟩ := pb hz
 have hc : (dg m i).code.length ≤ 200 := (hR.task h0 h1).1.2.2.2.2.1
 obtain ⟨k1, k2⟩ := JO (l := (dg m i).code) (by omega) h2
 obtain ⟨b1, b2, b3, b4, b5⟩ := tS 30000 _ h2
 unfold jj
 rw [if_neg (fun k => k hz)]
 refine ⟨?_, fun a ha => ?_⟩
 ·show ((kY 30000 (dg m i).code).1.map Prod.snd).length = _
  rw [bj, k1, h3]
 ·obtain ⟨e, he, rfl⟩ := List.mem_map.1 ha
  have := k2 e he
  omega
theorem NP {m : Img} {i : Nat} (hz : fB 30000 m (i : Int) = 0) : (gS 30000 m (i : Int)).2 = 0 ∧ (gS 30000 m (i : Int)).1 = (eS bM 30000 (dg m (i : Int)).code).1 + 2 * m.1 + m.2.1 + m.2.2.1 ∧ 1 ≤ (eS bM 30000 (dg m (i : Int)).code).1 ∧ (eS bM 30000 (dg m (i : Int)).code).1 ≤ 1048576 := by
 obtain ⟨hR, ⟨h0, h1⟩, h2, h3, h4⟩ := pb hz
 obtain ⟨b1, b2, b3, b4, b5⟩ := tS 30000 _ h2
 unfold gS
 rw [if_neg (fun k => k hz)]
 exact ⟨rfl, rfl, by omega, b5⟩
theorem gf (m : Img) : (dZ m).length = m.tasks.length := by unfold dZ; rw [bj, cf]
theorem xW (m : Img) {i : Nat} (hi : i < m.tasks.length) : (dZ m).getD i eN = JP m i := by
 unfold dZ
 rw [ar, bC, cd hi]
 rfl
theorem yD {m : Img} (h : (ew 30000 m).2 = 0) : UsesOk (m.blocks.length : Int) (dZ m) := by
 obtain ⟨hR, _, hz⟩ := gb h
 have hN := hR.1
 refine ⟨by have := hN.2.2.2.2.2.1; omega, by rw [gf]; have := hN.2.2.2.2.2.2; omega, fun u hu => ?_⟩
 unfold dZ at hu
 obtain ⟨i, hi, rfl⟩ := List.mem_map.1 hu
 have hi' : i < m.tasks.length := by simpa using hi
 have hT := Gq hR hi'
 obtain ⟨k1, k2⟩ := zD (hz i hi')
 exact ⟨hT.1.1, hT.2.1, k1.symm, fun a ha => by have := k2 a ha; omega⟩
theorem JQ {c : Int → Int} {p q M : Int} : ∀ {s t : List Int} {m : Int}, (∀ a ∈ t, a ≤ M) → m ≤ M → m ≤ gT c p q s t m ∧ gT c p q s t m ≤ M
 | [], [], m, _, h => by unfold gT; omega
 | [], _ :: _, m, _, h => by unfold gT; omega
 | _ :: _, [], m, _, h => by unfold gT; omega
 | k :: s, a :: t, m, ht, h => by
  unfold gT
  have ha := ht a (aB ..)
  have : m ≤ (if q < p then if c k ≥ p then hi a m else m else m) ∧ (if q < p then if c k ≥ p then hi a m else m else m) ≤ M := by
   split
   ·split
    ·unfold hi; split <;> omega
    ·omega
   ·omega
  have := JQ (c := c) (p := p) (q := q) (s := s) (t := t) (fun x hx => ht x (ay _ hx)) this.2
  omega
theorem JR {c : Int → Int} {p M : Int} : ∀ {l : List fI} {m : Int}, (∀ u ∈ l, ∀ a ∈ u.2.2, a ≤ M) → m ≤ M → m ≤ iS c p l m ∧ iS c p l m ≤ M
 | [], m, _, h => by unfold iS; omega
 | u :: t, m, ht, h => by
  unfold iS
  have h1 := JQ (c := c) (p := p) (q := u.1) (s := u.2.1) (ht u (aB ..)) h
  have h2 := JR (c := c) (p := p) (l := t) (fun v hv => ht v (ay _ hv)) h1.2
  omega
theorem CT (l : List fI) : (e8 l).length = l.length := by unfold e8; rw [bj, cf]
theorem pd {l : List fI} {i : Nat} (hi : i < l.length) : (e8 l).getD i 0 = pc l i := by
 unfold e8
 rw [ar, bC, cd hi]
 rfl
theorem CU {m : Img} (h : (ew 30000 m).2 = 0) {i : Nat} (hi : i < m.tasks.length) : 0 ≤ (e8 (dZ m)).getD i 0 ∧ (e8 (dZ m)).getD i 0 ≤ 1048576 := by
 obtain ⟨hR, _, hz⟩ := gb h
 rw [pd (by rw [gf]; exact hi)]
 unfold pc
 refine JR (fun u hu a ha => ?_) (by omega)
 unfold dZ at hu
 obtain ⟨j, hj, rfl⟩ := List.mem_map.1 hu
 have hj' : j < m.tasks.length := by simpa using hj
 exact ((zD (hz j hj')).2 a ha).2
theorem iG (m : Img) : (e9 m).length = m.tasks.length := by unfold e9; rw [bj, cf]
theorem xX (m : Img) {i : Nat} (hi : i < m.tasks.length) : (e9 m).getD i dC = rz m i := by
 unfold e9
 rw [ar, bC, cd hi]
 rfl
theorem RZ {m : Img} (h : (ew 30000 m).2 = 0) {i : Nat} (hi : i < m.tasks.length) : RowB (rz m i) := by
 obtain ⟨hR, _, hz⟩ := gb h
 have hN := hR.1
 have hT := Gq hR hi
 obtain ⟨n1, n2, n3, n4⟩ := hT.1
 obtain ⟨s1, s2, s3, s4⟩ := NP (hz i hi)
 have hw := CU h hi
 have hn1 := hN.1
 have hn2 := hN.2.1
 have hn3 := hN.2.2.1
 refine ⟨?_, ?_, n2, ?_, n4, n1⟩
 ·show 1 ≤ (gS 30000 m (i : Int)).1 ∧ (gS 30000 m (i : Int)).1 ≤ 2000000
  omega
 ·show 0 ≤ (e8 (dZ m)).getD i 0 ∧ (e8 (dZ m)).getD i 0 ≤ 2000000
  omega
 ·show 1 ≤ (dg m (i : Int)).2.2.1 ∧ (dg m (i : Int)).2.2.1 ≤ 1048576
  omega
theorem DW {m : Img} (h : (ew 30000 m).2 = 0) : RowsB (e9 m) := by
 obtain ⟨hR, _, hz⟩ := gb h
 refine ⟨by rw [iG]; have := hR.1.2.2.2.2.2.2; omega, fun r hr => ?_⟩
 unfold e9 at hr
 obtain ⟨i, hi, rfl⟩ := List.mem_map.1 hr
 exact RZ h (by simpa using hi)
theorem Gr {m : Img} (h : (ew 30000 m).2 = 0) (hd : CS m) : ∀ r ∈ e9 m, r.2.2.2.1 ≤ 20000 := by
 obtain ⟨hR, _, hz⟩ := gb h
 intro r hr
 unfold e9 at hr
 obtain ⟨i, hi, rfl⟩ := List.mem_map.1 hr
 have hi' : i < m.tasks.length := by simpa using hi
 have h1 := hd _ (tW hi')
 have h2 := RZ h hi'
 have : (rz m i).2.2.2.1 = (dg m (i : Int)).2.2.1 := rfl
 have := h2.d
 omega
end Go.Proofs.Dk
