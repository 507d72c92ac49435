/- A part of the proofs: Plain: how long tasks can take (rta): responses. -/
import Derived.Test.YtofeifhecboinaaGreatMB5
import Derived.Test.YtofeifhecboinaaGreatMB4
set_option linter.unusedVariables false
set_option linter.unusedSimpArgs false
noncomputable section
namespace Go.Proofs.Dk
open Go Go.IntKind
set_option maxRecDepth 100000
theorem H4 {a a' b b' : Int} (ha : 0 ≤ a) (h : a ≤ a') (hb : 1 ≤ b') (hbb : b' ≤ b) : ip a b ≤ ip a' b' := by
 unfold ip
 split
 ·split
  ·omega
  ·have := u5 (a := a' - 1) (b := b') (by omega) hb
   omega
 ·rw [if_neg (by omega)]
  have h1 := (u5 (a := a - 1) (b := b) (by omega) (by omega)).1
  have h2 : (a - 1) / b * b ≤ a - 1 := Int.ediv_mul_le _ (by omega)
  have h3 : (a - 1) / b * b' ≤ (a - 1) / b * b := Int.mul_le_mul_of_nonneg_left hbb h1
  have : (a - 1) / b ≤ (a' - 1) / b' := (Int.le_ediv_iff_mul_le (by omega)).2 (by omega)
  omega
theorem zJ {r r' : Row} (hr : RowB r) (hr' : RowB r') {w w' p : Int} (hw : 0 ≤ w) (h : w ≤ w') (hw2 : w' ≤ 2000000) (hc : r.1 = r'.1) (hT : r'.2.2.1 ≤ r.2.2.1) (hj : r.2.2.2.2.1 = r'.2.2.2.2.1) (hp : r.2.2.2.2.2 = r'.2.2.2.2.2) : lF r w p ≤ lF r' w' p := by
 unfold lF
 have h0 := hr.j
 have hc0 := hr.c
 have : ip (w + r.2.2.2.2.1) r.2.2.1 ≤ ip (w' + r'.2.2.2.2.1) r'.2.2.1 := H4 (by omega) (by omega) hr'.t.1 hT
 rw [← hc, ← hp]
 refine Int.mul_le_mul_of_nonneg_right ?_ (by omega)
 omega
theorem zK (i : Nat) {w w' p : Int} (hw : 0 ≤ w) (h : w ≤ w') (hw2 : w' ≤ 2000000) : ∀ (l : List Row) (k : Nat), (∀ r ∈ l, RowB r) → iq i w p l k ≤ iq i w' p l k
 | [], _, _ => aE _
 | r :: t, k, hr => by
  unfold iq
  have h1 := zK i hw h hw2 (p := p) t (k + 1) (fun r h => hr r (ax _ h))
  have h2 := zJ (hr r (aB ..)) (hr r (aB ..)) (p := p) hw h hw2 rfl (aE _) rfl rfl
  split <;> omega
theorem r6 {l : List Row} (hl : RowsB l) (i : Nat) {w w' : Int} (hw : 0 ≤ w) (h : w ≤ w') (hw2 : w' ≤ 2000000) : d6 l i w ≤ d6 l i w' := by
 unfold d6
 have := zK i (p := (l.getD i du).2.2.2.2.2) hw h hw2 l 0 hl.all
 omega
theorem oR {l : List Row} (hl : RowsB l) {i : Nat} (hi : i < l.length) {w : Int} (hw : 0 ≤ w ∧ w ≤ 2000000) : (l.getD i du).1 ≤ d6 l i w ∧ 0 ≤ d6 l i w := by
 unfold d6
 have := x0 i (p := (l.getD i du).2.2.2.2.2) hw l 0 hl.all
 have hb := (hl.get hi).b
 have hc := (hl.get hi).c
 omega
def fQ (l : List Row) (i : Nat) (F : Int → Option (Int × Int)) (w : Int) : Option (Int × Int) :=
 if d6 l i w > (l.getD i du).2.2.2.1 then some (0, 13) else
 if (l.getD i du).2.2.2.2.1 > (l.getD i du).2.2.2.1 - d6 l i w then some (0, 13) else
 if d6 l i w = w then some ((l.getD i du).2.2.2.2.1 + w, 0) else F (d6 l i w)
abbrev wE (l : List Row) (i : Nat) : Nat → Int → Option (Int × Int) := it (fQ l i)
theorem ML {l : List Row} (hl : RowsB l) {i : Nat} (hi : i < l.length) : ∀ (f : Nat) (w : Int), 0 ≤ w → w ≤ d6 l i w → w ≤ (l.getD i du).2.2.2.1 → (l.getD i du).2.2.2.1 - w < f → ∃ r, wE l i f w = some r := by
 have hd := (hl.get hi).d
 intro f
 induction f with
 | zero => intro w h0 h1 h2 h3; omega
 | succ f ih =>
  intro w h0 h1 h2 h3
  show ∃ r, fQ l i (it (fQ l i) f) w = some r
  unfold fQ
  split
  ·exact ⟨_, rfl⟩
  ·split
   ·exact ⟨_, rfl⟩
   ·split
    ·exact ⟨_, rfl⟩
    ·exact ih _ (by omega) (r6 hl i h0 h1 (by omega)) (by omega) (by omega)
theorem MM {l : List Row} {i : Nat} : ∀ (f : Nat) (w : Int) (r : Int × Int), wE l i f w = some r → wE l i (f + 1) w = some r := by
 intro f
 induction f with
 | zero => intro w r h; cases h
 | succ f ih =>
  intro w r h
  have h' : fQ l i (it (fQ l i) f) w = some r := h
  show fQ l i (it (fQ l i) (f + 1)) w = some r
  unfold fQ at h' ⊢
  split at h'
  ·rename_i c; rw [if_pos c]; exact h'
  ·rename_i c
   rw [if_neg c]
   split at h'
   ·rename_i c; rw [if_pos c]; exact h'
   ·rename_i c
    rw [if_neg c]
    split at h'
    ·rename_i c; rw [if_pos c]; exact h'
    ·rename_i c
     rw [if_neg c]
     exact ih _ _ h'
theorem MN {l : List Row} {i : Nat} {f g : Nat} {w : Int} {r : Int × Int} (h : f ≤ g) (hr : wE l i f w = some r) : wE l i g w = some r := by
 induction h with
 | refl => exact hr
 | step _ ih => exact MM _ _ _ ih
def ep (l : List Row) (i : Nat) : Int × Int := (wE l i 25000 0).getD (0, 0)
theorem r7 {l : List Row} (hl : RowsB l) {i : Nat} (hi : i < l.length) (hd : (l.getD i du).2.2.2.1 ≤ 20000) {n : Nat} (hn : 25000 ≤ n) : wE l i n 0 = some (ep l i) := by
 have h0 := (hl.get hi).d
 obtain ⟨r, hr⟩ := ML hl hi 25000 0 (aE _) (oR hl hi (by omega)).2 (by omega) (by omega)
 refine MN hn ?_
 unfold ep
 rw [hr]
 rfl
theorem KA (n : Nat) (hn0 : 200 < n) (hn : n < 1000000) {l : List Row} (h : RowsB l) {i : Nat} (hi : i < l.length) : ∀ (f : Nat) (w : Int), 0 ≤ w ∧ w ≤ 2000000 →
  it (fun F => (dI (dm (C_ q_))) (gu n F)) f (l, (i : Int), w, (l.getD i du).1, (l.getD i du).2.1, (l.getD i du).2.2.1, (l.getD i du).2.2.2.1, (l.getD i du).2.2.2.2.1, (l.getD i du).2.2.2.2.2) = (wE l i f w).map fun r => (r.1, r.2, (l.getD i du).1, (l.getD i du).2.1, (l.getD i du).2.2.1, (l.getD i du).2.2.2.1, (l.getD i du).2.2.2.2.1, (l.getD i du).2.2.2.2.2) := by
 have hd := (h.get hi).d
 have hj := (h.get hi).j
 intro f
 induction f with
 | zero => intro w hw; rfl
 | succ f ih =>
  intro w hw
  show gu n _ l (i : Int) w _ _ _ _ _ _ = (fQ l i (it (fQ l i) f) w).map _
  have hin := oR h hi hw
  unfold gu fQ
  rw [GB n (by omega) hn h hi hw, ae, if_neg (P8 _)]
  by_cases c1 : d6 l i w > (l.getD i du).2.2.2.1
  ·rw [if_pos (af c1), if_pos c1]; rfl
  ·rw [if_neg (fun e => c1 (aD e)), if_neg c1, dA (e := (l.getD i du).2.2.2.1 - d6 l i w) (by omega) (by omega)]
   by_cases c2 : (l.getD i du).2.2.2.2.1 > (l.getD i du).2.2.2.1 - d6 l i w
   ·rw [if_pos (af c2), if_pos c2]; rfl
   ·rw [if_neg (fun e => c2 (aD e)), if_neg c2]
    by_cases c3 : d6 l i w = w
    ·rw [if_neg (fun e => aj.1 e c3), if_pos c3]
     show (some (wrap .i64 ((l.getD i du).2.2.2.2.1 + w), 0, (l.getD i du).1, (l.getD i du).2.1, (l.getD i du).2.2.1, (l.getD i du).2.2.2.1, (l.getD i du).2.2.2.2.1, (l.getD i du).2.2.2.2.2) : Option _) = _
     rw [dA (e := (l.getD i du).2.2.2.2.1 + w) (by omega) (by omega)]; rfl
    ·rw [if_pos (aj.2 c3), if_neg c3]
     exact ih _ (by omega)
theorem NO (n : Nat) (hn0 : 25000 ≤ n) (hn : n < 1000000) {l : List Row} (h : RowsB l) {i : Nat} (hi : i < l.length) (hd2 : (l.getD i du).2.2.2.1 ≤ 20000) : js n l (i : Int) = some (ep l i) := by
 have hd := (h.get hi).d
 have hj := (h.get hi).j
 have hr := r7 h hi hd2 (show 25000 ≤ n + 1 by omega)
 have hin := oR h hi (show (0 : Int) ≤ 0 ∧ (0 : Int) ≤ 2000000 by omega)
 have h2 : fQ l i (it (fQ l i) n) 0 = some (ep l i) := hr
 unfold js
 rw [E0 n (by omega) hn h hi, ae, if_neg (by decide), if_pos (dc hi), GB n (by omega) hn h hi (by omega), ae, if_neg (P8 _), ai, ← h2]
 unfold fQ
 by_cases c1 : d6 l i 0 > (l.getD i du).2.2.2.1
 ·rw [if_pos (af c1), if_pos c1]
 ·rw [if_neg (fun e => c1 (aD e)), if_neg c1]
  show (if decide ((l.getD i du).2.2.2.2.1 > (wrap .i64 ((l.getD i du).2.2.2.1 - d6 l i 0))) = true then _ else _) = _
  rw [dA (e := (l.getD i du).2.2.2.1 - d6 l i 0) (by omega) (by omega)]
  by_cases c2 : (l.getD i du).2.2.2.2.1 > (l.getD i du).2.2.2.1 - d6 l i 0
  ·rw [if_pos (af c2), if_pos c2]
  ·rw [if_neg (fun e => c2 (aD e)), if_neg c2]
   by_cases c3 : d6 l i 0 = 0
   ·rw [if_neg (fun e => aj.1 e c3), if_pos c3]
    show some (wrap .i64 ((l.getD i du).2.2.2.2.1 + 0), 0) = _
    rw [dA (by omega) (by omega)]
   ·rw [if_pos (aj.2 c3), if_neg c3]
    have := KA n (by omega) hn h hi n (d6 l i 0) (by omega)
    unfold jF
    show (it _ n (l, (i : Int), d6 l i 0, (l.getD i du).1, (l.getD i du).2.1, (l.getD i du).2.2.1, (l.getD i du).2.2.2.1, (l.getD i du).2.2.2.2.1, (l.getD i du).2.2.2.2.2)).bind _ = _
    rw [this]
    show (Option.map _ (it (fQ l i) n (d6 l i 0))).bind _ = it (fQ l i) n (d6 l i 0)
    generalize it (fQ l i) n (d6 l i 0) = z
    cases z <;> rfl
def u7 (R : Nat → Int × Int) : Nat → Nat → List Int → List Int × Int × Int
 | 0, _, o => (o, -1, 0)
 | k + 1, i, o => if (R i).2 ≠ 0 then ([], (i : Int), (R i).2) else u7 R k (i + 1) (o ++ [(R i).1])
def x5 (l : List Row) : List Int × Int × Int := u7 (ep l) l.length 0 []
def E1 (R : Nat → Int × Int) : Nat → Nat → List Int → (((List Int × Int × Int × Unit) × Unit) ⊕ ((List Int × Unit) × Unit))
 | 0, _, o => .inr ((o, ()), ())
 | k + 1, i, o => if (R i).2 ≠ 0 then .inl (([], (i : Int), (R i).2, ()), ()) else E1 R k (i + 1) (o ++ [(R i).1])
theorem GC (R : Nat → Int × Int) : ∀ (k i : Nat) (o : List Int), (Sum.elim (fun (z3 : (((List Int) × Int × Int × Unit) × Unit)) => (some (z3.1.1, z3.1.2.1, z3.1.2.2.1))) (fun (z4 : (((List Int) × Unit) × Unit)) => (some (z4.1.1, (-1), 0))) (E1 R k i o) : Option (List Int × Int × Int)) = some (u7 R k i o)
 | 0, _, _ => rfl
 | k + 1, i, o => by
  unfold E1 u7
  split
  ·rfl
  ·exact GC R k (i + 1) _
theorem KB (n : Nat) (hn0 : 25000 ≤ n) (hn : n < 1000000) {l : List Row} (h : RowsB l) (hd2 : ∀ r ∈ l, r.2.2.2.1 ≤ 20000) : jh n l = some (x5 l) := by
 have h8 := h.len
 unfold jh lu
 rw [u6 n (by omega) hn h, ae, if_neg (by decide)]
 have := d5 (S := fun F => (dm q_) (iF n F)) (fun f x r => ∃ (i : Nat) (o : List Int), x = (l, o, (l.length : Int), (i : Int)) ∧ i ≤ l.length ∧ l.length < f + i ∧ o.length ≤ i ∧ r = E1 (ep l) (l.length - i) i o) (fun x r ⟨i, _, _, h1, h2, _⟩ => by omega) (fun f x F hF r => ?_) n (l, [], (l.length : Int), 0) _ ⟨0, [], rfl, ao _, by omega, by simp, rfl⟩
 ·rw [this]
  exact GC _ _ _ _
 ·rintro ⟨i, o, rfl, h1, h2, h3, rfl⟩
  show iF n F l o (l.length : Int) (i : Int) = _
  unfold iF
  rcases am i l.length with hlt | hge
  ·obtain ⟨k, hk⟩ : ∃ k, l.length - i = k + 1 := ⟨l.length - i - 1, by omega⟩
   have hm : l.getD i du ∈ l := by rw [aq, au hlt]; exact aU hlt
   rw [if_pos (af (by omega)), NO n hn0 hn h hlt (hd2 _ hm), ae, hk]
   unfold E1
   by_cases c : (ep l i).2 ≠ 0
   ·rw [if_pos (aj.2 c), if_pos c]
   ·rw [if_neg (fun e => c (aj.1 e)), if_neg c, if_pos (by rw [af (show (o.length + 1) * 8 ≤ 140737488355328 by omega)]; rfl), di (by omega)]
    exact hF _ _ ⟨i + 1, o ++ [(ep l i).1], rfl, by omega, by omega, by rw [aK]; simp; omega, by rw [show l.length - (i + 1) = k by omega]⟩
  ·have : i = l.length := by omega
   subst this
   rw [if_neg (by simp), aZ]
   rfl
abbrev fG := Int × List Int × List Int
abbrev eL : fG := ((0 : Int), ([], []))
structure UseOk (b : Int) (u : fG) : Prop where
 p : 1 ≤ u.1 ∧ u.1 ≤ 100
 r : Rises b (-1) u.2.1
 len : u.2.1.length = u.2.2.length
 l : ∀ a ∈ u.2.2, 0 ≤ a ∧ a ≤ 1099511627776
structure UsesOk (b : Int) (l : List fG) : Prop where
 bl : 0 ≤ b ∧ b ≤ 8
 len : l.length ≤ 8
 all : ∀ u ∈ l, UseOk b u
theorem UsesOk.get {b : Int} {l : List fG} (h : UsesOk b l) {i : Nat} (hi : i < l.length) : UseOk b (l.getD i eL) := h.all _ (by rw [aq, au hi]; exact aU hi)
theorem x6 {l : List Int} {i : Nat} (hi : i < l.length) : l.getD i 0 ∈ l := by rw [aq, au hi]; exact aU hi
theorem UseOk.small {b : Int} {u : fG} (h : UseOk b u) (hb : b ≤ 8) : u.2.1.length ≤ 8 := by
 have h1 := h.r.len
 by_cases hb0 : -1 < b
 ·have := h1 hb0; omega
 ·cases hu : u.2.1 with
  | nil => simp
  | cons x t => have := h.r.mem x (by rw [hu]; exact aB ..); omega
theorem Rises.drop {e : Int} {l : List Int} {b : Int} (h : Rises e b l) : ∀ {i : Nat}, i < l.length → Rises e (if i = 0 then b else l.getD (i - 1) 0) (l.drop i) := by
 induction l generalizing b with
 | nil => intro i hi; simp at hi
 | cons x t ih =>
  intro i hi
  cases i with
  | zero => exact h
  | succ i =>
   have h2 : Rises e x t := h.2.2
   rw [if_neg (by omega), List.drop_succ_cons, cw]
   cases i with
   | zero => exact h2
   | succ i =>
    have := ih h2 (i := i + 1) (by simpa using hi)
    rw [if_neg (by omega), cw] at this
    exact this
theorem Rises.at {e : Int} {l : List Int} {b : Int} (h : Rises e b l) {i : Nat} (hi : i < l.length) : (if i = 0 then b else l.getD (i - 1) 0) < l.getD i 0 ∧ l.getD i 0 < e := by
 have := h.drop hi
 rw [dK (d := (0 : Int)) hi] at this
 exact ⟨this.1, this.2.1⟩
theorem E2 (n : Nat) (hn0 : 200 < n) (hn : n < 1000000) {b : Int} (hb : 0 ≤ b ∧ b ≤ 8) {u : fG} (h : UseOk b u) : t9 n u b = some true := by
 have h8 := h.small hb.2
 have hp := h.p
 have hlen := h.len
 unfold t9 t8
 rw [if_neg (fun e => by have := aD e; omega), if_neg (fun e => by have := aD e; omega), if_neg (fun e => by have := aj.1 e; omega)]
 have := d5 (S := fun F => (dI (dm q_)) (qB n F)) (fun f x r => ∃ i : Nat, x = (b, (if i = 0 then -1 else u.2.1.getD (i - 1) 0), u.2.1, (u.2.1.length : Int), (i : Int), u.1, u.2.1, u.2.2) ∧ i ≤ u.2.1.length ∧ u.2.1.length < f + i ∧ r = .inr ((), ((u.1, u.2.1, u.2.2, ()), ()))) (fun x r ⟨i, _, h1, h2, _⟩ => by omega) (fun f x F hF r => ?_) n (b, -1, u.2.1, (u.2.1.length : Int), 0, u.1, u.2.1, u.2.2) _ ⟨0, rfl, ao _, by omega, rfl⟩
 ·rw [this]; rfl
 ·rintro ⟨i, rfl, h1, h2, rfl⟩
  show qB n F b (if i = 0 then -1 else u.2.1.getD (i - 1) 0) u.2.1 (u.2.1.length : Int) (i : Int) u.1 u.2.1 u.2.2 = _
  unfold qB
  rcases am i u.2.1.length with hlt | hge
  ·have hr := h.r.at hlt
   have hl := h.l _ (x6 (l := u.2.2) (i := i) (by omega))
   rw [if_pos (af (by omega)), if_pos (dc hlt), ai, if_neg (fun e => by have := aD e; omega), if_neg (fun e => by have := aD e; omega), if_pos (dc (by omega)), if_neg (fun e => by have := aD e; omega), if_pos (dc (by omega)), if_neg (fun e => by have := aD e; omega), di (by omega)]
   exact hF _ _ ⟨i + 1, by rw [if_neg (by omega), cw], by omega, by omega, rfl⟩
  ·have : i = u.2.1.length := by omega
   subst this
   rw [if_neg (by simp)]
theorem sA (n : Nat) (hn0 : 200 < n) (hn : n < 1000000) {b : Int} {l : List fG} (h : UsesOk b l) : i9 n b l = some true := by
 have h8 := h.len
 have hb := h.bl
 unfold i9 lk
 have := d5 (S := fun F => (dm (C_ q_)) (iC n F)) (fun f x r => ∃ i : Nat, x = (b, l, l, (l.length : Int), (i : Int)) ∧ i ≤ l.length ∧ l.length < f + i ∧ r = .inr ((b, l, ()), ())) (fun x r ⟨i, _, h1, h2, _⟩ => by omega) (fun f x F hF r => ?_) n (b, l, l, (l.length : Int), 0) _ ⟨0, rfl, ao _, by omega, rfl⟩
 ·rw [this]
  show (if decide (b ≥ 0) = true then if decide (b ≤ 8) = true then some (decide ((l.length : Int) ≤ 8)) else _ else _) = _
  rw [if_pos (af hb.1), if_pos (af hb.2), af (by omega)]
 ·rintro ⟨i, rfl, h1, h2, rfl⟩
  show iC n F b l l (l.length : Int) (i : Int) = _
  unfold iC
  rcases am i l.length with hlt | hge
  ·rw [if_pos (af (by omega)), if_pos (dc hlt), ai]
   show ((t9 n (l.getD i eL) b).bind _) = _
   rw [E2 n hn0 hn hb (h.get hlt), ae, if_neg (by decide), di (by omega)]
   exact hF _ _ ⟨i + 1, rfl, by omega, by omega, rfl⟩
  ·have : i = l.length := by omega
   subst this
   rw [if_neg (by simp)]
def hi (p m : Int) : Int := if p > m then p else m
def u9 (p : Int) : List Int → List Int → List Int
 | [], c => c
 | k :: t, c => u9 p t (c.set k.toNat (hi p (c.getD k.toNat 0)))
def pG : List fG → List Int → List Int
 | [], c => c
 | u :: t, c => pG t (u9 u.1 u.2.1 c)
def dY (b : Int) (l : List fG) : List Int := pG l (List.replicate b.toNat 0)
theorem oS (p : Int) : ∀ (k c : List Int), (u9 p k c).length = c.length
 | [], c => rfl
 | x :: t, c => by unfold u9; rw [oS p t, aP]
theorem Cp : ∀ (l : List fG) (c : List Int), (pG l c).length = c.length
 | [], c => rfl
 | u :: t, c => by unfold pG; rw [Cp t, oS]
def nM (p k : Int) : List Int → Int → Int
 | [], m => m
 | x :: t, m => nM p k t (if x = k then hi p m else m)
def nN (k : Int) : List fG → Int → Int
 | [], m => m
 | u :: t, m => nN k t (nM u.1 k u.2.1 m)
def lG (l : List fG) (k : Int) : Int := nN k l 0
theorem GD (p : Int) {k : Int} (hk : 0 ≤ k) : ∀ (s c : List Int), k < (c.length : Int) → (∀ x ∈ s, 0 ≤ x ∧ x < (c.length : Int)) → (u9 p s c).getD k.toNat 0 = nM p k s (c.getD k.toNat 0)
 | [], c, _, _ => rfl
 | x :: t, c, hc, hs => by
  unfold u9 nM
  have hx := hs x (aB ..)
  rw [GD p hk t _ (by rw [aP]; exact hc) (fun y hy => by rw [aP]; exact hs y (ax _ hy))]
  congr 1
  by_cases e : x = k
  ·subst e
   rw [if_pos rfl, aq, List.getElem?_set_self (by omega)]
   rfl
  ·rw [if_neg e, aq, List.getElem?_set_ne (by omega), ← aq]
theorem E3 {k : Int} (hk : 0 ≤ k) : ∀ (l : List fG) (c : List Int), k < (c.length : Int) → (∀ u ∈ l, ∀ x ∈ u.2.1, 0 ≤ x ∧ x < (c.length : Int)) → (pG l c).getD k.toNat 0 = nN k l (c.getD k.toNat 0)
 | [], c, _, _ => rfl
 | u :: t, c, hc, hs => by
  unfold pG nN
  rw [E3 hk t _ (by rw [oS]; exact hc) (fun v hv x hx => by rw [oS]; exact hs v (ax _ hv) x hx), GD u.1 hk _ _ hc (hs u (aB ..))]
theorem UsesOk.rng {b : Int} {l : List fG} (h : UsesOk b l) : ∀ u ∈ l, ∀ x ∈ u.2.1, 0 ≤ x ∧ x < b := fun u hu x hx => by
 have := (h.all u hu).r.mem x hx
 omega
theorem H5 (b : Int) (l : List fG) : (dY b l).length = b.toNat := by unfold dY; rw [Cp, bp]
theorem KC {b : Int} {l : List fG} (h : UsesOk b l) {k : Int} (h0 : 0 ≤ k) (h1 : k < b) : (dY b l).getD k.toNat 0 = lG l k := by
 unfold dY lG
 have hlen : ((List.replicate b.toNat (0 : Int)).length : Int) = b := by rw [bp]; omega
 rw [E3 h0 l _ (by omega) (fun u hu x hx => by rw [hlen]; exact h.rng u hu x hx)]
 congr 1
 rw [aq, bV]
 split <;> rfl
theorem NP (n : Nat) (hn0 : 200 < n) (hn : n < 1000000) (l : List fG) (a i p : Int) (s t c : List Int) (hlen : s.length = t.length) (h8 : s.length ≤ 8) (hs : ∀ x ∈ s, 0 ≤ x ∧ x < (c.length : Int)) :
  gW n (l, a, i, s, (s.length : Int), 0, c, p, s, t) = some (l, a, i, u9 p s c, p, s, t) := by
 unfold gW
 refine d5 (S := fun F => (eS q_) (ja n F)) (fun f x r => ∃ (j : Nat) (d : List Int), x = (l, a, i, s, (s.length : Int), (j : Int), d, p, s, t) ∧ j ≤ s.length ∧ s.length < f + j ∧ d.length = c.length ∧ r = (l, a, i, u9 p (s.drop j) d, p, s, t)) (fun x r ⟨j, _, _, h1, h2, _⟩ => by omega) (fun f x F hF r => ?_) n _ _ ⟨0, c, rfl, ao _, by omega, rfl, rfl⟩
 rintro ⟨j, d, rfl, h1, h2, h3, rfl⟩
 show ja n F l a i s (s.length : Int) (j : Int) d p s t = _
 unfold ja
 rcases am j s.length with hlt | hge
 ·have hx := hs _ (x6 hlt)
  rw [if_pos (af (by omega)), if_pos (dc hlt), if_pos (dc (by omega)), ai, dK (d := (0 : Int)) hlt]
  have : gK n (p, (s, t)) (s.getD j 0) (t.getD j 0) d = some (d.set (s.getD j 0).toNat (hi p (d.getD (s.getD j 0).toNat 0))) := by
   unfold gK hi
   rw [if_pos (qW hx.1 (by rw [h3]; exact hx.2)), if_pos (qW hx.1 (by rw [h3]; exact hx.2))]
  rw [this, ae, di (by omega)]
  exact hF _ _ ⟨j + 1, _, rfl, by omega, by omega, by rw [aP]; exact h3, rfl⟩
 ·have : j = s.length := by omega
  subst this
  rw [if_neg (by simp), aR]
  rfl
theorem NQ (n : Nat) (hn0 : 200 < n) (hn : n < 1000000) (l : List fG) (c : List Int) (h8 : l.length ≤ 8) (hs : ∀ u ∈ l, u.2.1.length = u.2.2.length ∧ u.2.1.length ≤ 8 ∧ ∀ x ∈ u.2.1, 0 ≤ x ∧ x < (c.length : Int)) : mq n l c = some (pG l c) := by
 unfold mq l3
 have := d5 (S := fun F => (dm q_) (jb n F)) (fun f x r => ∃ (j : Nat) (d : List Int), x = (l, (l.length : Int), (j : Int), d) ∧ j ≤ l.length ∧ l.length < f + j ∧ d.length = c.length ∧ r = pG (l.drop j) d) (fun x r ⟨j, _, _, h1, h2, _⟩ => by omega) (fun f x F hF r => ?_) n (l, (l.length : Int), 0, c) _ ⟨0, c, rfl, ao _, by omega, rfl, rfl⟩
 ·rw [this, bi]; rfl
 ·rintro ⟨j, d, rfl, h1, h2, h3, rfl⟩
  show jb n F l (l.length : Int) (j : Int) d = _
  unfold jb
  rcases am j l.length with hlt | hge
  ·have hm : l.getD j eL ∈ l := by rw [aq, au hlt]; exact aU hlt
   obtain ⟨k1, k2, k3⟩ := hs _ hm
   rw [if_pos (af (by omega)), if_pos (dc hlt), ai, dK (d := eL) hlt]
   show ((gW n (l, (l.length : Int), (j : Int), (l.getD j eL).2.1, ((l.getD j eL).2.1.length : Int), 0, d, (l.getD j eL).1, (l.getD j eL).2.1, (l.getD j eL).2.2)).bind _) = _
   rw [NP n hn0 hn l _ _ _ _ _ d k1 k2 (fun x hx => by rw [h3]; exact k3 x hx), ae]
   show F (l, (l.length : Int), wrap .i64 ((j : Int) + 1), _) = _
   rw [di (by omega)]
   exact hF _ _ ⟨j + 1, _, rfl, by omega, by omega, by rw [oS]; exact h3, rfl⟩
  ·have : j = l.length := by omega
   subst this
   rw [if_neg (by simp), aR]
   rfl
theorem wF (n : Nat) (hn0 : 200 < n) (hn : n < 1000000) {b : Int} {l : List fG} (h : UsesOk b l) : fJ n b l = some (dY b l) := by
 have hb := h.bl
 unfold fJ
 rw [sA n hn0 hn h, ae, if_neg (by decide), if_pos (by rw [af hb.1, bg, af (show b * 8 ≤ 140737488355328 by omega)]; rfl)]
 rw [NQ n hn0 hn l _ h.len (fun u hu => ⟨(h.all u hu).len, (h.all u hu).small hb.2, fun x hx => by have := h.rng u hu x hx; rw [bp]; omega⟩)]
 rfl
def iu (c : Int → Int) (p q : Int) : List Int → List Int → Int → Int
 | k :: s, a :: t, m => iu c p q s t (if q < p then if c k ≥ p then hi a m else m else m)
 | _, _, m => m
def jy (c : Int → Int) (p : Int) : List fG → Int → Int
 | [], m => m
 | u :: t, m => jy c p t (iu c p u.1 u.2.1 u.2.2 m)
def pH (l : List fG) (i : Nat) : Int := jy (lG l) (l.getD i eL).1 l 0
def fj (l : List fG) : List Int := (List.range l.length).map (fun (k : Nat) => pH l k)
theorem NR (n : Nat) (hn0 : 200 < n) (hn : n < 1000000) {b : Int} {l : List fG} (h : UsesOk b l) (p : Int) (ob ol : List Int) {i : Nat} (hi : i < l.length) (m : Int) :
  mS n (l, (l.length : Int), (i : Int), (l.getD i eL).2.1, ((l.getD i eL).2.1.length : Int), 0, p, ob, ol, dY b l, m, (l.getD i eL).1, (l.getD i eL).2.1, (l.getD i eL).2.2) = some (l, (l.length : Int), (i : Int), p, ob, ol, dY b l, iu (lG l) p (l.getD i eL).1 (l.getD i eL).2.1 (l.getD i eL).2.2 m, (l.getD i eL).1, (l.getD i eL).2.1, (l.getD i eL).2.2) := by
 have hu := h.get hi
 have h8 := hu.small h.bl.2
 have hlen := hu.len
 have hb := h.bl
 generalize hq : l.getD i eL = u at *
 unfold mS
 refine d5 (S := fun F => (eS (dI q_)) (qE n F)) (fun f x r => ∃ (j : Nat) (m : Int), x = (l, (l.length : Int), (i : Int), u.2.1, (u.2.1.length : Int), (j : Int), p, ob, ol, dY b l, m, u.1, u.2.1, u.2.2) ∧ j ≤ u.2.1.length ∧ u.2.1.length < f + j ∧ r = (l, (l.length : Int), (i : Int), p, ob, ol, dY b l, iu (lG l) p u.1 (u.2.1.drop j) (u.2.2.drop j) m, u.1, u.2.1, u.2.2)) (fun x r ⟨j, _, _, h1, h2, _⟩ => by omega) (fun f x F hF r => ?_) n _ _ ⟨0, m, rfl, ao _, by omega, rfl⟩
 rintro ⟨j, m, rfl, h1, h2, rfl⟩
 show qE n F l (l.length : Int) (i : Int) u.2.1 (u.2.1.length : Int) (j : Int) p ob ol (dY b l) m u.1 u.2.1 u.2.2 = _
 unfold qE
 rcases am j u.2.1.length with hlt | hge
 ·have hm := hu.r.mem _ (x6 hlt)
  have hcl : ((dY b l).length : Int) = b := by rw [H5]; omega
  rw [if_pos (af (by omega)), if_pos (dc hlt), if_pos (dc (by omega)), ai, dK (d := (0 : Int)) hlt, dK (d := (0 : Int)) (l := u.2.2) (by omega)]
  have : jr n (u.1, (u.2.1, u.2.2)) (u.2.1.getD j 0) (u.2.2.getD j 0) p ob ol (dY b l) m = some (p, ob, ol, dY b l, if u.1 < p then if lG l (u.2.1.getD j 0) ≥ p then Go.Proofs.Dk.hi (u.2.2.getD j 0) m else m else m) := by
   unfold jr Go.Proofs.Dk.hi
   by_cases c1 : u.1 < p
   ·rw [if_pos (af c1), if_pos c1, if_pos (qW (by omega) (by rw [hcl]; omega)), KC h (by omega) (by omega)]
    by_cases c2 : lG l (u.2.1.getD j 0) ≥ p
    ·rw [if_pos (af c2), if_pos c2]
    ·rw [if_neg (fun e => c2 (aD e)), if_neg c2]
   ·rw [if_neg (fun e => c1 (aD e)), if_neg c1]
  rw [this, ae, di (by omega)]
  exact hF _ _ ⟨j + 1, _, rfl, by omega, by omega, rfl⟩
 ·have : j = u.2.1.length := by omega
  subst this
  rw [if_neg (by simp), aR]
  rfl
theorem MO (n : Nat) (hn0 : 200 < n) (hn : n < 1000000) {b : Int} {l : List fG} (h : UsesOk b l) (p : Int) (ob ol : List Int) : ud n l p ob ol (dY b l) 0 = some (p, ob, ol, dY b l, jy (lG l) p l 0) := by
 have h8 := h.len
 unfold ud uc
 have := d5 (S := fun F => (dI (dm q_)) (qF n F)) (fun f x r => ∃ (j : Nat) (m : Int), x = (l, (l.length : Int), (j : Int), p, ob, ol, dY b l, m) ∧ j ≤ l.length ∧ l.length < f + j ∧ r = (p, ob, ol, dY b l, jy (lG l) p (l.drop j) m)) (fun x r ⟨j, _, _, h1, h2, _⟩ => by omega) (fun f x F hF r => ?_) n (l, (l.length : Int), 0, p, ob, ol, dY b l, 0) _ ⟨0, 0, rfl, ao _, by omega, rfl⟩
 ·rw [this, bi]; rfl
 ·rintro ⟨j, m, rfl, h1, h2, rfl⟩
  show qF n F l (l.length : Int) (j : Int) p ob ol (dY b l) m = _
  unfold qF
  rcases am j l.length with hlt | hge
  ·rw [if_pos (af (by omega)), if_pos (dc hlt), ai, dK (d := eL) hlt]
   show ((mS n (l, (l.length : Int), (j : Int), (l.getD j eL).2.1, ((l.getD j eL).2.1.length : Int), 0, p, ob, ol, dY b l, m, (l.getD j eL).1, (l.getD j eL).2.1, (l.getD j eL).2.2)).bind _) = _
   rw [NR n hn0 hn h p ob ol hlt m, ae]
   show F (l, (l.length : Int), wrap .i64 ((j : Int) + 1), _) = _
   rw [di (by omega)]
   exact hF _ _ ⟨j + 1, _, rfl, by omega, by omega, rfl⟩
  ·have : j = l.length := by omega
   subst this
   rw [if_neg (by simp), aR]
   rfl
theorem MP (n : Nat) (hn0 : 200 < n) (hn : n < 1000000) {b : Int} {l : List fG} (h : UsesOk b l) : jc n b l = some (fj l) := by
 have h8 := h.len
 unfold jc lm
 rw [sA n hn0 hn h, ae, if_neg (by decide), wF n hn0 hn h, ae]
 have := d5 (S := fun F => (dI q_) (iD n F)) (fun f x r => ∃ (j : Nat), x = (l, (List.range j).map (fun (k : Nat) => pH l k), l, (l.length : Int), (j : Int), dY b l) ∧ j ≤ l.length ∧ l.length < f + j ∧ r = (fj l, dY b l)) (fun x r ⟨j, _, h1, h2, _⟩ => by omega) (fun f x F hF r => ?_) n (l, [], l, (l.length : Int), 0, dY b l) _ ⟨0, rfl, ao _, by omega, rfl⟩
 ·rw [this]; rfl
 ·rintro ⟨j, rfl, h1, h2, rfl⟩
  show iD n F l ((List.range j).map (fun (k : Nat) => pH l k)) l (l.length : Int) (j : Int) (dY b l) = _
  unfold iD
  rcases am j l.length with hlt | hge
  ·rw [if_pos (af (by omega)), if_pos (dc hlt), ai]
   show ((ud n l (l.getD j eL).1 (l.getD j eL).2.1 (l.getD j eL).2.2 (dY b l) 0).bind _) = _
   rw [MO n hn0 hn h, ae, if_pos (by rw [aS, cg, af (show (j + 1) * 8 ≤ 140737488355328 by omega)]; rfl), di (by omega)]
   refine hF _ _ ⟨j + 1, ?_, by omega, by omega, rfl⟩
   rw [List.range_succ, cc]
   rfl
  ·have : j = l.length := by omega
   subst this
   rw [if_neg (by simp)]
   rfl
theorem E4 {l : List cY} (hl : l.length < 30000) (h : (eH bM 30000 l).2 = 0) : (ke 30000 l).1.length = (fp l).length ∧ (∀ e ∈ (ke 30000 l).1, 1 ≤ e.2 ∧ e.2 + 2 ≤ (eH bM 30000 l).1) := by
 obtain ⟨h1, h2⟩ := rY h
 obtain ⟨b1, b2, b3, b4, b5⟩ := r4 30000 l h
 have hsI : ke 30000 l = (gz l (dt l).1 30000 l.length 0, 0) := by unfold ke; rw [if_neg (fun k => k h)]
 rw [hsI]
 obtain ⟨g1, g2⟩ := Kl (n := 30000) h1 (AY h2).2 hl (by omega) l.length 0 (by omega)
 refine ⟨?_, fun e he => ⟨(g2 e he).1, by have := (g2 e he).2; omega⟩⟩
 unfold fp
 rw [if_pos h1]
 exact Cm _ _
def H6 (m : Img) (i : Nat) : fG := ((dk m i).1, (dk m i).2.2.2.2.1, (iN 30000 m i).1)
def el (m : Img) : List fG := (List.range m.tasks.length).map (fun (k : Nat) => H6 m k)
def x7 (m : Img) (i : Nat) : Row := ((gA 30000 m i).1, (fj (el m)).getD i 0, (dk m i).2.1, (dk m i).2.2.1, (dk m i).2.2.2.1, (dk m i).1)
def et (m : Img) : List Row := (List.range m.tasks.length).map (fun (k : Nat) => x7 m k)
abbrev Vd := Int × Int × List Row × List Int × List Int
def eC (m : Img) : Vd := if (ei 30000 m).2 ≠ 0 then ((ei 30000 m).2, (ei 30000 m).1, [], [], []) else ((x5 (et m)).2.2, (x5 (et m)).2.1, et m, (x5 (et m)).1, dY (m.blocks.length : Int) (el m))
theorem zL {e : Nat → Int} : ∀ {r i : Nat}, jx e r i = none → ∀ j, i ≤ j → j < i + r → e j = 0
 | 0, i, _, j, h1, h2 => by omega
 | r + 1, i, h, j, h1, h2 => by
  unfold jx at h
  split at h
  ·cases h
  ·rename_i hz
   rcases am i j with h3 | h3
   ·exact zL h j (by omega) (by omega)
   ·have : j = i := by omega
    rw [this]
    exact Decidable.not_not.1 hz
theorem zM {e : Nat → Int} {p : Int × Int} : ∀ {r i : Nat}, jx e r i = some p → p.2 ≠ 0
 | 0, i, h => by cases h
 | r + 1, i, h => by
  unfold jx at h
  split at h
  ·rename_i hz
   simp only [ab] at h
   rw [← h]
   exact hz
  ·exact zM h
theorem gB {n : Nat} {m : Img} (h : (ei n m).2 = 0) : RightP m ∧ (ei n m).1 = -1 ∧ ∀ i, i < m.tasks.length → fi n m (i : Int) = 0 := by
 unfold ei at h ⊢
 split at h
 ·rename_i hR
  rw [if_pos hR]
  refine ⟨hR, ?_⟩
  cases hf : jx (fun i => fi n m (i : Int)) m.tasks.length 0 with
  | none => exact ⟨rfl, fun i hi => zL hf i (ao _) (by omega)⟩
  | some p =>
   rw [hf] at h
   exact absurd h (zM hf)
 ·exact absurd h (by decide)
def pI (m : Img) : Prop := ∀ t ∈ m.tasks, ¬ (t.2.2.1 > 20000 ∧ t.2.2.1 ≤ 1048576)
theorem r8 {m : Img} {i : Nat} (hi : i < m.tasks.length) : dk m (i : Int) ∈ m.tasks := by
 unfold dk
 rw [ai, aq, au hi]
 exact aU hi
theorem va {m : Img} (h : RightP m) {i : Nat} (hi : i < m.tasks.length) : lE m (dk m (i : Int)) := (h.task (i := (i : Int)) (by omega) (by omega)).1
theorem wG {m : Img} {i : Nat} (hz : fi 30000 m (i : Int) = 0) : (iN 30000 m (i : Int)).1.length = (dk m (i : Int)).2.2.2.2.1.length ∧ ∀ a ∈ (iN 30000 m (i : Int)).1, 1 ≤ a ∧ a ≤ 1048576 := by
 obtain ⟨hR, ⟨h0, h1⟩, h2, h3, h4⟩ := nL hz
 have hc : (dk m i).code.length ≤ 200 := (hR.task h0 h1).1.2.2.2.2.1
 obtain ⟨k1, k2⟩ := E4 (l := (dk m i).code) (by omega) h2
 obtain ⟨b1, b2, b3, b4, b5⟩ := r4 30000 _ h2
 unfold iN
 rw [if_neg (fun k => k hz)]
 refine ⟨?_, fun a ha => ?_⟩
 ·show ((ke 30000 (dk m i).code).1.map Prod.snd).length = _
  rw [aS, k1, h3]
 ·obtain ⟨e, he, rfl⟩ := List.mem_map.1 ha
  have := k2 e he
  omega
theorem H7 {m : Img} {i : Nat} (hz : fi 30000 m (i : Int) = 0) : (gA 30000 m (i : Int)).2 = 0 ∧ (gA 30000 m (i : Int)).1 = (eH bM 30000 (dk m (i : Int)).code).1 + 2 * m.1 + m.2.1 + m.2.2.1 ∧ 1 ≤ (eH bM 30000 (dk m (i : Int)).code).1 ∧ (eH bM 30000 (dk m (i : Int)).code).1 ≤ 1048576 := by
 obtain ⟨hR, ⟨h0, h1⟩, h2, h3, h4⟩ := nL hz
 obtain ⟨b1, b2, b3, b4, b5⟩ := r4 30000 _ h2
 unfold gA
 rw [if_neg (fun k => k hz)]
 exact ⟨rfl, rfl, by omega, b5⟩
theorem kJ (m : Img) : (el m).length = m.tasks.length := by unfold el; rw [aS, cg]
theorem NS {m : Img} (h : (ei 30000 m).2 = 0) : UsesOk (m.blocks.length : Int) (el m) := by
 obtain ⟨hR, _, hz⟩ := gB h
 have hN := hR.1
 refine ⟨by have := hN.2.2.2.2.2.1; omega, by rw [kJ]; have := hN.2.2.2.2.2.2; omega, fun u hu => ?_⟩
 unfold el at hu
 obtain ⟨i, hi, rfl⟩ := List.mem_map.1 hu
 have hi' : i < m.tasks.length := by simpa using hi
 have hT := va hR hi'
 obtain ⟨k1, k2⟩ := wG (hz i hi')
 exact ⟨hT.1.1, hT.2.1, k1.symm, fun a ha => by have := k2 a ha; omega⟩
theorem E5 {c : Int → Int} {p q M : Int} : ∀ {s t : List Int} {m : Int}, (∀ a ∈ t, a ≤ M) → m ≤ M → m ≤ iu c p q s t m ∧ iu c p q s t m ≤ M
 | [], [], m, _, h => by unfold iu; omega
 | [], _ :: _, m, _, h => by unfold iu; omega
 | _ :: _, [], m, _, h => by unfold iu; omega
 | k :: s, a :: t, m, ht, h => by
  unfold iu
  have ha := ht a (aB ..)
  have : m ≤ (if q < p then if c k ≥ p then hi a m else m else m) ∧ (if q < p then if c k ≥ p then hi a m else m else m) ≤ M := by
   split
   ·split
    ·unfold hi; split <;> omega
    ·omega
   ·omega
  have := E5 (c := c) (p := p) (q := q) (s := s) (t := t) (fun x hx => ht x (ax _ hx)) this.2
  omega
theorem E6 {c : Int → Int} {p M : Int} : ∀ {l : List fG} {m : Int}, (∀ u ∈ l, ∀ a ∈ u.2.2, a ≤ M) → m ≤ M → m ≤ jy c p l m ∧ jy c p l m ≤ M
 | [], m, _, h => by unfold jy; omega
 | u :: t, m, ht, h => by
  unfold jy
  have h1 := E5 (c := c) (p := p) (q := u.1) (s := u.2.1) (ht u (aB ..)) h
  have h2 := E6 (c := c) (p := p) (l := t) (fun v hv => ht v (ax _ hv)) h1.2
  omega
theorem zN (l : List fG) : (fj l).length = l.length := by unfold fj; rw [aS, cg]
theorem r9 {l : List fG} {i : Nat} (hi : i < l.length) : (fj l).getD i 0 = pH l i := by
 unfold fj
 rw [aq, bq, cd hi]
 rfl
theorem H8 {m : Img} (h : (ei 30000 m).2 = 0) {i : Nat} (hi : i < m.tasks.length) : 0 ≤ (fj (el m)).getD i 0 ∧ (fj (el m)).getD i 0 ≤ 1048576 := by
 obtain ⟨hR, _, hz⟩ := gB h
 rw [r9 (by rw [kJ]; exact hi)]
 unfold pH
 refine E6 (fun u hu a ha => ?_) (by omega)
 unfold el at hu
 obtain ⟨j, hj, rfl⟩ := List.mem_map.1 hu
 have hj' : j < m.tasks.length := by simpa using hj
 exact ((wG (hz j hj')).2 a ha).2
theorem h9 (m : Img) : (et m).length = m.tasks.length := by unfold et; rw [aS, cg]
theorem Cq (m : Img) {i : Nat} (hi : i < m.tasks.length) : (et m).getD i du = x7 m i := by
 unfold et
 rw [aq, bq, cd hi]
 rfl
theorem KD {m : Img} (h : (ei 30000 m).2 = 0) {i : Nat} (hi : i < m.tasks.length) : RowB (x7 m i) := by
 obtain ⟨hR, _, hz⟩ := gB h
 have hN := hR.1
 have hT := va hR hi
 obtain ⟨n1, n2, n3, n4⟩ := hT.1
 obtain ⟨s1, s2, s3, s4⟩ := H7 (hz i hi)
 have hw := H8 h hi
 have hn1 := hN.1
 have hn2 := hN.2.1
 have hn3 := hN.2.2.1
 refine ⟨?_, ?_, n2, ?_, n4, n1⟩
 ·show 1 ≤ (gA 30000 m (i : Int)).1 ∧ (gA 30000 m (i : Int)).1 ≤ 2000000
  omega
 ·show 0 ≤ (fj (el m)).getD i 0 ∧ (fj (el m)).getD i 0 ≤ 2000000
  omega
 ·show 1 ≤ (dk m (i : Int)).2.2.1 ∧ (dk m (i : Int)).2.2.1 ≤ 1048576
  omega
theorem mc {m : Img} (h : (ei 30000 m).2 = 0) : RowsB (et m) := by
 obtain ⟨hR, _, hz⟩ := gB h
 refine ⟨by rw [h9]; have := hR.1.2.2.2.2.2.2; omega, fun r hr => ?_⟩
 unfold et at hr
 obtain ⟨i, hi, rfl⟩ := List.mem_map.1 hr
 exact KD h (by simpa using hi)
theorem vb {m : Img} (h : (ei 30000 m).2 = 0) (hd : pI m) : ∀ r ∈ et m, r.2.2.2.1 ≤ 20000 := by
 obtain ⟨hR, _, hz⟩ := gB h
 intro r hr
 unfold et at hr
 obtain ⟨i, hi, rfl⟩ := List.mem_map.1 hr
 have hi' : i < m.tasks.length := by simpa using hi
 have h1 := hd _ (r8 hi')
 have h2 := KD h hi'
 have : (x7 m i).2.2.2.1 = (dk m (i : Int)).2.2.1 := rfl
 have := h2.d
 omega
theorem A4 : eW 30000 = some true := rfl
theorem FG (n : Nat) (hn1 : 200 < n) (hn2 : n < 1000000) (m : Img) (i : Nat) (hi : i < m.tasks.length) : gJ n (i : Int) m.1 m.2.1 m.2.2.1 m.2.2.2.1 m.2.2.2.2.1 m.2.2.2.2.2.1 m.2.2.2.2.2.2 = some (((dk m (i : Int)).1, (dk m (i : Int)).2.2.2.2.1, (iN n m (i : Int)).1), m.1, m.2.1, m.2.2.1, m.2.2.2.1, m.2.2.2.2.1, m.2.2.2.2.2.1, m.2.2.2.2.2.2) := by
 unfold gJ
 rw [show gV n (m.1, m.2.1, m.2.2.1, m.2.2.2.1, m.2.2.2.2.1, m.2.2.2.2.2.1, m.2.2.2.2.2.2) (i : Int) = _ from Kv n hn1 hn2 m i, ae, if_pos (dc hi), if_pos (dc hi)]
theorem FH (n : Nat) (hn1 : 200 < n) (hn2 : n < 1000000) (m : Img) (i : Nat) (hi : i < m.tasks.length) (w : Int) : gL n (i : Int) w m.1 m.2.1 m.2.2.1 m.2.2.2.1 m.2.2.2.2.1 m.2.2.2.2.2.1 m.2.2.2.2.2.2 = some (((gA n m (i : Int)).1, w, (dk m (i : Int)).2.1, (dk m (i : Int)).2.2.1, (dk m (i : Int)).2.2.2.1, (dk m (i : Int)).1), m.1, m.2.1, m.2.2.1, m.2.2.2.1, m.2.2.2.2.1, m.2.2.2.2.2.1, m.2.2.2.2.2.2) := by
 unfold gL
 rw [if_pos (dc hi), show iE n (m.1, m.2.1, m.2.2.1, m.2.2.2.1, m.2.2.2.2.1, m.2.2.2.2.2.1, m.2.2.2.2.2.2) (i : Int) = _ from MG n hn1 hn2 m i, ae]
theorem zO {α : Type} (f : Nat → α) (i : Nat) : (List.range i).map f ++ [f i] = (List.range (i + 1)).map f := by
 rw [List.range_succ, cc]
 rfl
theorem Cr {α : Type} {l : List α} {i k : Nat} (h : l.length ≤ i) (hi : i ≤ 1000000) (hk : 1 ≤ k ∧ k ≤ 1000) : (decide ((l.length + 1) * k ≤ 140737488355328) && decide (1 ≤ k)) = true := by
 rw [af (show (l.length + 1) * k ≤ 140737488355328 by
  have : (l.length + 1) * k ≤ 1000001 * 1000 := Nat.mul_le_mul (by omega) hk.2
  omega), af hk.1]
 rfl
theorem E7 (n : Nat) (hn : n = 30000) (m : Img) (hd : pI m) : oI n m = some (eC m) := by
 unfold oI eC
 rw [show jM n (m.1, m.2.1, m.2.2.1, m.2.2.2.1, m.2.2.2.2.1, m.2.2.2.2.2.1, m.2.2.2.2.2.2) = some (ei 30000 m) from by rw [← hn]; exact MJ n (by omega) (by omega) m, ae]
 by_cases h : (ei 30000 m).2 ≠ 0
 ·rw [if_pos (aj.2 h), if_pos h]
 ·rw [if_neg (fun e => h (aj.1 e)), if_neg h]
  have hz := Decidable.not_not.1 h
  have hU := NS hz
  have h8 : m.tasks.length ≤ 8 := by rw [← h9]; exact (mc hz).len
  have e0 := d5 (S := fun F => (k0 (dI q_)) (qI n F)) (fun f x r => ∃ i : Nat, x = ((List.range i).map (fun (k : Nat) => H6 m k), (m.tasks.length : Int), (i : Int), m.1, m.2.1, m.2.2.1, m.2.2.2.1, m.2.2.2.2.1, m.2.2.2.2.2.1, m.2.2.2.2.2.2, 0, 0, [], [], [], m.1, m.2.1, m.2.2.1, m.2.2.2.1, m.2.2.2.2.1, m.2.2.2.2.2.1, m.2.2.2.2.2.2) ∧ i ≤ m.tasks.length ∧ m.tasks.length < f + i ∧ r = (el m, m.1, m.2.1, m.2.2.1, m.2.2.2.1, m.2.2.2.2.1, m.2.2.2.2.2.1, m.2.2.2.2.2.2, 0, 0, [], [], [], m.1, m.2.1, m.2.2.1, m.2.2.2.1, m.2.2.2.2.1, m.2.2.2.2.2.1, m.2.2.2.2.2.2)) (fun x r ⟨i, _, h1, h2, _⟩ => by omega) (fun f x F hF r => ?_) n ([], (m.tasks.length : Int), 0, m.1, m.2.1, m.2.2.1, m.2.2.2.1, m.2.2.2.2.1, m.2.2.2.2.2.1, m.2.2.2.2.2.2, 0, 0, [], [], [], m.1, m.2.1, m.2.2.1, m.2.2.2.1, m.2.2.2.2.1, m.2.2.2.2.2.1, m.2.2.2.2.2.2) _ ⟨0, rfl, ao _, by omega, rfl⟩
  ·unfold un
   rw [e0, ae]
   show (fJ n (m.blocks.length : Int) (el m)).bind _ = _
   rw [wF n (by omega) (by omega) hU, ae]
   show (jc n (m.blocks.length : Int) (el m)).bind _ = _
   rw [MP n (by omega) (by omega) hU, ae]
   have e1 := d5 (S := fun F => (k0 (dm q_)) (qJ n F)) (fun f x r => ∃ i : Nat, x = (fj (el m), (m.tasks.length : Int), (i : Int), 0, 0, [], [], [], 0, 0, (List.range i).map (fun (k : Nat) => x7 m k), [], dY (m.blocks.length : Int) (el m), m.1, m.2.1, m.2.2.1, m.2.2.2.1, m.2.2.2.2.1, m.2.2.2.2.2.1, m.2.2.2.2.2.2) ∧ i ≤ m.tasks.length ∧ m.tasks.length < f + i ∧ r = (0, 0, [], [], [], 0, 0, et m, [], dY (m.blocks.length : Int) (el m), m.1, m.2.1, m.2.2.1, m.2.2.2.1, m.2.2.2.2.1, m.2.2.2.2.2.1, m.2.2.2.2.2.2)) (fun x r ⟨i, _, h1, h2, _⟩ => by omega) (fun f x F hF r => ?_) n (fj (el m), (m.tasks.length : Int), 0, 0, 0, [], [], [], 0, 0, [], [], dY (m.blocks.length : Int) (el m), m.1, m.2.1, m.2.2.1, m.2.2.2.1, m.2.2.2.2.1, m.2.2.2.2.2.1, m.2.2.2.2.2.2) _ ⟨0, rfl, ao _, by omega, rfl⟩
   ·unfold uo
    show (it _ n (fj (el m), ((fj (el m)).length : Int), 0, 0, 0, [], [], [], 0, 0, [], [], dY (m.blocks.length : Int) (el m), m.1, m.2.1, m.2.2.1, m.2.2.2.1, m.2.2.2.2.1, m.2.2.2.2.2.1, m.2.2.2.2.2.2)).bind _ = _
    rw [show (fj (el m)).length = m.tasks.length by rw [zN, kJ], e1, ae]
    show (jh n (et m)).bind _ = _
    rw [KB n (by omega) (by omega) (mc hz) (vb hz hd), ae]
   ·rintro ⟨i, rfl, h1, h2, rfl⟩
    show qJ n F (fj (el m)) (m.tasks.length : Int) (i : Int) 0 0 [] [] [] 0 0 ((List.range i).map (fun (k : Nat) => x7 m k)) [] (dY (m.blocks.length : Int) (el m)) m.1 m.2.1 m.2.2.1 m.2.2.2.1 m.2.2.2.2.1 m.2.2.2.2.2.1 m.2.2.2.2.2.2 = _
    unfold qJ
    rcases am i m.tasks.length with hlt | hge
    ·rw [if_pos (af (by omega)), if_pos (dc (by rw [zN, kJ]; exact hlt)), FH n (by omega) (by omega) m i hlt, ae, if_pos (Cr (i := i) (by rw [aS, cg]; exact ar _) (by omega) (by decide)), di (by omega)]
     refine hF _ _ ⟨i + 1, ?_, by omega, by omega, rfl⟩
     rw [← zO, hn]
     rfl
    ·have : i = m.tasks.length := by omega
     subst this
     rw [if_neg (by simp)]
     rfl
  ·rintro ⟨i, rfl, h1, h2, rfl⟩
   show qI n F ((List.range i).map (fun (k : Nat) => H6 m k)) (m.tasks.length : Int) (i : Int) m.1 m.2.1 m.2.2.1 m.2.2.2.1 m.2.2.2.2.1 m.2.2.2.2.2.1 m.2.2.2.2.2.2 0 0 [] [] [] m.1 m.2.1 m.2.2.1 m.2.2.2.1 m.2.2.2.2.1 m.2.2.2.2.2.1 m.2.2.2.2.2.2 = _
   unfold qI
   rcases am i m.tasks.length with hlt | hge
   ·rw [if_pos (af (by omega)), FG n (by omega) (by omega) m i hlt, ae, if_pos (Cr (i := i) (by rw [aS, cg]; exact ar _) (by omega) (by decide)), di (by omega)]
    refine hF _ _ ⟨i + 1, ?_, by omega, by omega, rfl⟩
    rw [← zO, hn]
    rfl
   ·have : i = m.tasks.length := by omega
    subst this
    rw [if_neg (by simp)]
    rfl
theorem H9 (n : Nat) (hn : 200 < n) (hn2 : n < 1000000) {m : Img} (h : Sh.Sm P7 m) : rJ n m = some 0 ∨ (rJ n m = some 1 ∧ EW m ∧ pI m) := by
 unfold rJ
 rcases Kw n hn hn2 h with e | ⟨e, hL⟩
 ·left
  rw [show nF n (m.1, m.2.1, m.2.2.1, m.2.2.2.1, m.2.2.2.2.1, m.2.2.2.2.2.1, m.2.2.2.2.2.2) = some 0 from e, ae]
  rfl
 ·rw [show nF n (m.1, m.2.1, m.2.2.1, m.2.2.2.1, m.2.2.2.2.1, m.2.2.2.2.2.1, m.2.2.2.2.2.2) = some 1 from e, ae, if_neg (by decide)]
  have h80 := hL.1
  unfold wZ
  by_cases hD : pI m
  ·right
   refine ⟨?_, hL, hD⟩
   have := d5 (S := fun F => (dI (dm q_)) (mG n F)) (fun f x r => ∃ i : Nat, x = ((i : Int), m.1, m.2.1, m.2.2.1, m.2.2.2.1, m.2.2.2.2.1, m.2.2.2.2.2.1, m.2.2.2.2.2.2) ∧ i ≤ m.tasks.length ∧ m.tasks.length < f + i ∧ r = .inr ((), ((m.1, m.2.1, m.2.2.1, m.2.2.2.1, m.2.2.2.2.1, m.2.2.2.2.2.1, m.2.2.2.2.2.2, ()), ()))) (fun x r ⟨i, _, h1, h2, _⟩ => by omega) (fun f x F hF r => ?_) n (0, m.1, m.2.1, m.2.2.1, m.2.2.2.1, m.2.2.2.2.1, m.2.2.2.2.2.1, m.2.2.2.2.2.2) _ ⟨0, rfl, ao _, by omega, rfl⟩
   ·rw [this]; rfl
   ·rintro ⟨i, rfl, h1, h2, rfl⟩
    show mG n F (i : Int) m.1 m.2.1 m.2.2.1 m.2.2.2.1 m.2.2.2.2.1 m.2.2.2.2.2.1 m.2.2.2.2.2.2 = _
    unfold mG
    rcases am i m.tasks.length with hlt | hge
    ·rw [if_pos (af (show (i : Int) < (m.tasks.length : Int) by omega)), if_pos (dc hlt)]
     have hm := hD _ (r8 hlt)
     by_cases c : (dk m (i : Int)).2.2.1 > 20000
     ·rw [if_pos (af c), if_pos (dc hlt), if_neg (fun e => hm ⟨c, aD e⟩), di (by omega)]
      exact hF _ _ ⟨i + 1, rfl, by omega, by omega, rfl⟩
     ·rw [if_neg (fun e => c (aD e)), di (by omega)]
      exact hF _ _ ⟨i + 1, rfl, by omega, by omega, rfl⟩
    ·have : i = m.tasks.length := by omega
     subst this
     rw [if_neg (by simp)]
  ·left
   have hex : ∃ t ∈ m.tasks, t.2.2.1 > 20000 ∧ t.2.2.1 ≤ 1048576 := by
    refine cH fun hn => hD fun t ht c => hn ⟨t, ht, c⟩
   obtain ⟨t, ht, hc⟩ := hex
   obtain ⟨k, hk, rfl⟩ := bO ht
   have hg : dk m (k : Int) = m.tasks[k] := by
    show m.tasks.getD (k : Int).toNat _ = _
    rw [ai, aq, au hk]
    rfl
   rw [← hg] at hc
   have := d5 (S := fun F => (dI (dm q_)) (mG n F)) (fun f x r => ∃ i : Nat, x = ((i : Int), m.1, m.2.1, m.2.2.1, m.2.2.2.1, m.2.2.2.2.1, m.2.2.2.2.2.1, m.2.2.2.2.2.2) ∧ i ≤ k ∧ m.tasks.length < f + i ∧ r = .inl ((0, ()), ((m.1, m.2.1, m.2.2.1, m.2.2.2.1, m.2.2.2.2.1, m.2.2.2.2.2.1, m.2.2.2.2.2.2, ()), ()))) (fun x r ⟨i, _, h1, h2, _⟩ => by omega) (fun f x F hF r => ?_) n (0, m.1, m.2.1, m.2.2.1, m.2.2.2.1, m.2.2.2.2.1, m.2.2.2.2.2.1, m.2.2.2.2.2.2) _ ⟨0, rfl, ao _, by omega, rfl⟩
   ·rw [this]; rfl
   ·rintro ⟨i, rfl, h1, h2, rfl⟩
    show mG n F (i : Int) m.1 m.2.1 m.2.2.1 m.2.2.2.1 m.2.2.2.2.1 m.2.2.2.2.2.1 m.2.2.2.2.2.2 = _
    unfold mG
    have hlt : i < m.tasks.length := by omega
    rw [if_pos (af (show (i : Int) < (m.tasks.length : Int) by omega)), if_pos (dc hlt)]
    by_cases c : (dk m (i : Int)).2.2.1 > 20000
    ·by_cases c2 : (dk m (i : Int)).2.2.1 ≤ 1048576
     ·rw [if_pos (af c), if_pos (dc hlt), if_pos (af c2)]
     ·rw [if_pos (af c), if_pos (dc hlt), if_neg (fun e => c2 (aD e)), di (by omega)]
      refine hF _ _ ⟨i + 1, rfl, ?_, by omega, rfl⟩
      have : i ≠ k := fun e => c2 (e ▸ hc.2)
      omega
    ·rw [if_neg (fun e => c (aD e)), di (by omega)]
     refine hF _ _ ⟨i + 1, rfl, ?_, by omega, rfl⟩
     have : i ≠ k := fun e => c (e ▸ hc.1)
     omega
theorem KE {α : Type} {l : List α} {i : Nat} {d : α} (hlt : i < l.length) : l.take i ++ [l.getD i d] = l.take (i + 1) := by
 rw [cJ, au hlt, aq, au hlt]
 rfl
theorem MQ {l : List Row} (hl : RowsB l) {i : Nat} (hi : i < l.length) : ∀ (f : Nat) (w v e : Int), 0 ≤ w → w ≤ 1048576 → wE l i f w = some (v, e) → (e = 13 ∧ v = 0) ∨ (e = 0 ∧ ∃ u, 0 ≤ u ∧ d6 l i u = u ∧ v = (l.getD i du).2.2.2.2.1 + u ∧ v ≤ (l.getD i du).2.2.2.1 ∧ ∀ z, w ≤ z → z ≤ 1048576 → d6 l i z ≤ z → u ≤ z) := by
 have hd := (hl.get hi).d
 intro f
 induction f with
 | zero => intro w v e h0 h1 h; cases h
 | succ f ih =>
  intro w v e h0 h1 h
  have h' : fQ l i (it (fQ l i) f) w = some (v, e) := h
  unfold fQ at h'
  split at h'
  ·simp only [ab, ah] at h'
   exact .inl ⟨h'.2.symm, h'.1.symm⟩
  ·split at h'
   ·simp only [ab, ah] at h'
    exact .inl ⟨h'.2.symm, h'.1.symm⟩
   ·split at h'
    ·rename_i c1 c2 c3
     simp only [ab, ah] at h'
     refine .inr ⟨h'.2.symm, w, h0, c3, h'.1.symm, by omega, fun z hz _ _ => hz⟩
    ·rename_i c1 c2 c3
     have hg := (oR hl hi (w := w) (by omega)).2
     rcases ih _ v e hg (by omega) h' with h2 | ⟨h2, u, u0, u1, u2, u3, u4⟩
     ·exact .inl h2
     ·refine .inr ⟨h2, u, u0, u1, u2, u3, fun z hz hz2 hn => u4 z ?_ hz2 hn⟩
      have := r6 hl i h0 hz (by omega)
      omega
theorem P9 {l : List Row} (hl : RowsB l) {i : Nat} (hi : i < l.length) {z : Int} (hn : d6 l i z ≤ z) (hz : (l.getD i du).2.2.2.2.1 + z ≤ (l.getD i du).2.2.2.1) : ∀ (f : Nat) (w v e : Int), 0 ≤ w → w ≤ z → wE l i f w = some (v, e) → e = 0 := by
 have hd := (hl.get hi).d
 have hj := (hl.get hi).j
 intro f
 induction f with
 | zero => intro w v e h0 h1 h; cases h
 | succ f ih =>
  intro w v e h0 h1 h
  have h' : fQ l i (it (fQ l i) f) w = some (v, e) := h
  have hm := r6 hl i h0 h1 (by omega)
  have hg := (oR hl hi (w := w) (by omega)).2
  unfold fQ at h'
  rw [if_neg (by omega), if_neg (by omega)] at h'
  split at h'
  ·simp only [ab, ah] at h'
   exact h'.2.symm
  ·exact ih _ v e hg (by omega) h'
theorem sa {l : List Row} (hl : RowsB l) {i : Nat} (hi : i < l.length) (hd : (l.getD i du).2.2.2.1 ≤ 20000) : ((ep l i).2 = 13 ∧ (ep l i).1 = 0) ∨ ((ep l i).2 = 0 ∧ ∃ u, 0 ≤ u ∧ d6 l i u = u ∧ (ep l i).1 = (l.getD i du).2.2.2.2.1 + u ∧ (ep l i).1 ≤ (l.getD i du).2.2.2.1 ∧ ∀ z, 0 ≤ z → z ≤ 1048576 → d6 l i z ≤ z → u ≤ z) :=
 MQ hl hi 25000 0 _ _ (aE _) (by omega) (r7 hl hi hd (ar _))
theorem Ic {l l' : List Row} (hl : RowsB l) (hl' : RowsB l') {i : Nat} (hi : i < l.length) (hi' : i < l'.length) (hd : (l.getD i du).2.2.2.1 ≤ 20000) (hD : (l'.getD i du).2.2.2.1 = (l.getD i du).2.2.2.1) (hJ : (l'.getD i du).2.2.2.2.1 = (l.getD i du).2.2.2.2.1) (hn : ∀ z, 0 ≤ z → z ≤ 1048576 → d6 l' i z ≤ d6 l i z) (h : (ep l i).2 = 0) : (ep l' i).2 = 0 ∧ (ep l' i).1 ≤ (ep l i).1 := by
 have hj := (hl.get hi).j
 rcases sa hl hi hd with ⟨h1, _⟩ | ⟨_, u, u0, u1, u2, u3, u4⟩
 ·rw [h] at h1; exact absurd h1 (by decide)
 ·have hz : d6 l' i u ≤ u := by have := hn u u0 (by omega); omega
  have e0 : (ep l' i).2 = 0 := P9 hl' hi' hz (by omega) 25000 0 _ _ (aE _) u0 (r7 hl' hi' (by omega) (ar _))
  refine ⟨e0, ?_⟩
  rcases sa hl' hi' (by omega) with ⟨h1, _⟩ | ⟨_, v, v0, v1, v2, v3, v4⟩
  ·rw [e0] at h1; exact absurd h1 (by decide)
  ·have := v4 u u0 (by omega) hz
   omega
theorem zP (R : Nat → Int × Int) : ∀ (k i : Nat) (o : List Int), (∃ j, i ≤ j ∧ j < i + k ∧ (R j).2 ≠ 0 ∧ u7 R k i o = ([], (j : Int), (R j).2)) ∨ ((∀ j, i ≤ j → j < i + k → (R j).2 = 0) ∧ u7 R k i o = (o ++ (List.range' i k).map (fun j => (R j).1), -1, 0))
 | 0, i, o => .inr ⟨fun j h1 h2 => by omega, by unfold u7; simp⟩
 | k + 1, i, o => by
  unfold u7
  by_cases h : (R i).2 ≠ 0
  ·rw [if_pos h]
   exact .inl ⟨i, ar _, by omega, h, rfl⟩
  ·rw [if_neg h]
   rcases zP R k (i + 1) (o ++ [(R i).1]) with ⟨j, h1, h2, h3, h4⟩ | ⟨h1, h2⟩
   ·exact .inl ⟨j, by omega, by omega, h3, h4⟩
   ·refine .inr ⟨fun j j1 j2 => ?_, ?_⟩
    ·rcases Nat.eq_or_lt_of_le j1 with rfl | j3
     ·exact Decidable.not_not.1 h
     ·exact h1 j (by omega) (by omega)
    ·rw [h2, List.range'_succ, List.map_cons, aM]
     rfl
theorem Id (l : List Row) : (∃ j, j < l.length ∧ (ep l j).2 ≠ 0 ∧ x5 l = ([], (j : Int), (ep l j).2)) ∨ ((∀ j, j < l.length → (ep l j).2 = 0) ∧ x5 l = ((List.range l.length).map (fun j => (ep l j).1), -1, 0)) := by
 unfold x5
 rcases zP (ep l) l.length 0 [] with ⟨j, h1, h2, h3, h4⟩ | ⟨h1, h2⟩
 ·exact .inl ⟨j, by omega, h3, h4⟩
 ·refine .inr ⟨fun j hj => h1 j (ao _) (by omega), ?_⟩
  rw [h2, List.range_eq_range']
  rfl
theorem p8 (m : Img) (hd : pI m) : ((ei 30000 m).2 ≠ 0 ∧ eC m = ((ei 30000 m).2, (ei 30000 m).1, [], [], [])) ∨
  ((ei 30000 m).2 = 0 ∧ ∃ j, j < m.tasks.length ∧ (ep (et m) j).2 = 13 ∧ eC m = (13, (j : Int), et m, [], dY (m.blocks.length : Int) (el m))) ∨
  ((ei 30000 m).2 = 0 ∧ (∀ j, j < m.tasks.length → (ep (et m) j).2 = 0) ∧ eC m = (0, -1, et m, (List.range m.tasks.length).map (fun j => (ep (et m) j).1), dY (m.blocks.length : Int) (el m))) := by
 unfold eC
 by_cases h : (ei 30000 m).2 ≠ 0
 ·rw [if_pos h]; exact .inl ⟨h, rfl⟩
 ·rw [if_neg h]
  have hz := Decidable.not_not.1 h
  right
  have hL := h9 m
  rcases Id (et m) with ⟨j, h1, h2, h3⟩ | ⟨h1, h2⟩
  ·left
   rw [hL] at h1
   have hd' : ((et m).getD j du).2.2.2.1 ≤ 20000 := vb hz hd _ (by rw [aq, au (by omega)]; exact aU _)
   rcases sa (mc hz) (by omega) hd' with ⟨h4, _⟩ | ⟨h4, _⟩
   ·exact ⟨hz, j, h1, h4, by rw [h3, h4]⟩
   ·exact absurd h4 h2
  ·right
   rw [hL] at h1
   exact ⟨hz, h1, by rw [h2, hL]⟩
theorem zQ {α : Type} (f : Nat → α) {k i : Nat} (d : α) (h : i < k) : ((List.range k).map f).getD i d = f i := by
 rw [aq, bq, cd h]
 rfl
structure RowLe (r' r : Row) : Prop where
 c : r'.1 = r.1
 b : r'.2.1 ≤ r.2.1
 t : r.2.2.1 ≤ r'.2.2.1
 d : r'.2.2.2.1 = r.2.2.2.1
 j : r'.2.2.2.2.1 = r.2.2.2.2.1
 p : r'.2.2.2.2.2 = r.2.2.2.2.2
def LessR : List Row → List Row → Prop
 | [], _ => True
 | r' :: t', r :: t => RowLe r' r ∧ LessR t' t
 | _ :: _, [] => False
theorem LessR.get : ∀ {l' l : List Row}, LessR l' l → ∀ {i : Nat}, i < l'.length → RowLe (l'.getD i du) (l.getD i du)
 | [], _, _, i, hi => by simp at hi
 | r' :: t', r :: t, h, 0, hi => h.1
 | r' :: t', r :: t, h, i + 1, hi => by
  have := LessR.get (l' := t') (l := t) h.2 (i := i) (by simpa using hi)
  simpa using this
 | _ :: _, [], h, _, _ => h.elim
theorem LessR.len : ∀ {l' l : List Row}, LessR l' l → l'.length ≤ l.length
 | [], _, _ => ao _
 | r' :: t', r :: t, h => by
  have := LessR.len h.2
  simp only [aF]
  omega
 | _ :: _, [], h => h.elim
theorem zR (i : Nat) {w p : Int} (hw : 0 ≤ w ∧ w ≤ 2000000) : ∀ {l' l : List Row} (k : Nat), LessR l' l → (∀ r ∈ l', RowB r) → (∀ r ∈ l, RowB r) → iq i w p l' k ≤ iq i w p l k
 | [], l, k, _, _, h => (x0 i hw l k h).1
 | r' :: t', r :: t, k, h, h1, h2 => by
  unfold iq
  have a := zR i hw (p := p) (k + 1) h.2 (fun r hr => h1 r (ax _ hr)) (fun r hr => h2 r (ax _ hr))
  have b := zJ (h1 r' (aB ..)) (h2 r (aB ..)) (p := p) hw.1 (aE w) hw.2 h.1.c h.1.t h.1.j h.1.p
  rw [h.1.p]
  split <;> omega
 | _ :: _, [], _, h, _, _ => h.elim
theorem Ie {l' l : List Row} (h : LessR l' l) (h1 : RowsB l') (h2 : RowsB l) {i : Nat} (hi : i < l'.length) {w : Int} (hw : 0 ≤ w ∧ w ≤ 2000000) : d6 l' i w ≤ d6 l i w := by
 have hg := h.get hi
 unfold d6
 have := zR i hw (p := (l.getD i du).2.2.2.2.2) 0 h h1.all h2.all
 rw [hg.p, hg.c]
 have := hg.b
 omega
theorem If (a m : Int) : m ≤ hi a m ∧ a ≤ hi a m := by unfold hi; split <;> omega
theorem GE {a m m' : Int} (h : m ≤ m') : hi a m ≤ hi a m' := by unfold hi; split <;> split <;> omega
theorem zS (c : Int → Int) (p q : Int) : ∀ (s t : List Int) (m : Int), m ≤ iu c p q s t m
 | [], [], m => aE _
 | [], _ :: _, m => aE _
 | _ :: _, [], m => aE _
 | k :: s, a :: t, m => by
  unfold iu
  have h1 := zS c p q s t (if q < p then if c k ≥ p then hi a m else m else m)
  have h2 : m ≤ (if q < p then if c k ≥ p then hi a m else m else m) := by
   have := (If a m).1
   split
   ·split <;> omega
   ·omega
  omega
theorem zT {c c' : Int → Int} (hc : ∀ k, c k ≤ c' k) (p q : Int) : ∀ (s t : List Int) {m m' : Int}, m ≤ m' → iu c p q s t m ≤ iu c' p q s t m'
 | [], [], m, m', h => h
 | [], _ :: _, m, m', h => h
 | _ :: _, [], m, m', h => h
 | k :: s, a :: t, m, m', h => by
  unfold iu
  refine zT hc p q s t ?_
  have h1 := hc k
  have h2 := GE (a := a) h
  have h3 := (If a m').1
  split
  ·split
   ·rw [if_pos (by omega)]; exact h2
   ·split <;> omega
  ·exact h
theorem zU (c : Int → Int) (p : Int) : ∀ (l : List fG) (m : Int), m ≤ jy c p l m
 | [], m => aE _
 | u :: t, m => by
  unfold jy
  exact bh (zS c p u.1 u.2.1 u.2.2 m) (zU c p t _)
theorem zV {c c' : Int → Int} (hc : ∀ k, c k ≤ c' k) (p : Int) : ∀ (l : List fG) (j : Nat) {m m' : Int}, m ≤ m' → jy c p (l.take j) m ≤ jy c' p l m'
 | [], j, m, m', h => by rw [List.take_nil]; exact h
 | u :: t, 0, m, m', h => bh h (zU c' p (u :: t) m')
 | u :: t, j + 1, m, m', h => by
  rw [List.take_succ_cons]
  unfold jy
  exact zV hc p t j (zT hc p u.1 u.2.1 u.2.2 h)
theorem zW (p k : Int) : ∀ (s : List Int) (m : Int), m ≤ nM p k s m
 | [], m => aE _
 | x :: t, m => by
  unfold nM
  have h1 := zW p k t (if x = k then hi p m else m)
  have h2 := (If p m).1
  split at h1 <;> (rename_i c; first | rw [if_pos c] | rw [if_neg c]) <;> omega
theorem zX (p k : Int) : ∀ (s : List Int) {m m' : Int}, m ≤ m' → nM p k s m ≤ nM p k s m'
 | [], _, _, h => h
 | x :: t, m, m', h => by
  unfold nM
  refine zX p k t ?_
  have := GE (a := p) h
  split <;> assumption
theorem zY (k : Int) : ∀ (l : List fG) (m : Int), m ≤ nN k l m
 | [], m => aE _
 | u :: t, m => by
  unfold nN
  exact bh (zW u.1 k u.2.1 m) (zY k t _)
theorem zZ (k : Int) : ∀ (l : List fG) (j : Nat) {m m' : Int}, m ≤ m' → nN k (l.take j) m ≤ nN k l m'
 | [], j, m, m', h => by rw [List.take_nil]; exact h
 | u :: t, 0, m, m', h => bh h (zY k (u :: t) m')
 | u :: t, j + 1, m, m', h => by
  rw [List.take_succ_cons]
  unfold nN
  exact zZ k t j (zX u.1 k u.2.1 h)
theorem Ig (l : List fG) {i j : Nat} (hi : i < j) : pH (l.take j) i ≤ pH l i := by
 unfold pH
 rw [show (l.take j).getD i eL = l.getD i eL by rw [aq, aq, aV, if_pos hi]]
 exact zV (fun k => zZ k l j (aE 0)) _ l j (aE 0)
theorem z9 {e : Nat → Int} : ∀ {r i : Nat}, (∀ j, i ≤ j → j < i + r → e j = 0) → jx e r i = none
 | 0, _, _ => rfl
 | r + 1, i, h => by
  unfold jx
  rw [if_neg (fun k => k (h i (ar _) (by omega)))]
  exact z9 fun j h1 h2 => h j (by omega) (by omega)
theorem MS {n : Nat} {m : Img} (hR : RightP m) (hz : ∀ i, i < m.tasks.length → fi n m (i : Int) = 0) : (ei n m).2 = 0 := by
 unfold ei
 rw [if_pos hR, z9 fun j _ h => hz j (by omega)]
 rfl
structure SameBut (x m : Img) : Prop where
 s : x.1 = m.1
 l : x.2.1 = m.2.1
 c : x.2.2.1 = m.2.2.1
 i : x.inputs = m.inputs
 f : x.safe = m.safe
 b : x.blocks = m.blocks
 n : 1 ≤ x.tasks.length ∧ x.tasks.length ≤ m.tasks.length
 t : ∀ i, i < x.tasks.length → (dk x (i : Int)).1 = (dk m (i : Int)).1 ∧ (dk m (i : Int)).2.1 ≤ (dk x (i : Int)).2.1 ∧ (dk x (i : Int)).2.1 ≤ 1048576 ∧ (dk x (i : Int)).2.2 = (dk m (i : Int)).2.2
 o : x.tasks.flatMap Tsk.outs = (m.tasks.take x.tasks.length).flatMap Tsk.outs
theorem E8 {x : Img} {t : Tsk} (h : t ∈ x.tasks) : ∃ i, i < x.tasks.length ∧ t = dk x (i : Int) := by
 obtain ⟨i, hi, rfl⟩ := bO h
 refine ⟨i, hi, ?_⟩
 show _ = x.tasks.getD (i : Int).toNat _
 rw [ai, aq, au hi]
 rfl
theorem KF {s : List Int} : ∀ {a b : List Int}, apart s (a ++ b) = true → apart s a = true := by
 intro a b h
 rw [oQ, ak] at h
 exact h.1
theorem oT {t' t : Tsk} (h : t'.2.2 = t.2.2) : t'.blocks = t.blocks ∧ t'.outs = t.outs ∧ t'.code = t.code := ⟨congrArg (fun q => q.2.2.1) h, congrArg (fun q => q.2.2.2.1) h, congrArg (fun q => q.2.2.2.2) h⟩
theorem SameBut.right {x m : Img} (h : SameBut x m) (hR : RightP m) : RightP x := by
 obtain ⟨hN, hW, hT⟩ := hR
 have hTa := TasksOk.all.1 hT
 refine ⟨?_, by rw [h.b]; exact hW, TasksOk.all.2 ⟨fun t ht => ?_, ?_⟩⟩
 ·obtain ⟨n1, n2, n3, n4, n5, n6, n7⟩ := hN
  unfold vC
  rw [h.s, h.l, h.c, show x.2.2.2.1 = m.2.2.2.1 from h.i, h.f, h.b]
  have := h.n
  exact ⟨n1, n2, n3, n4, n5, n6, by omega⟩
 ·obtain ⟨i, hi, rfl⟩ := E8 ht
  obtain ⟨e1, e2, e3, e4⟩ := h.t i hi
  obtain ⟨⟨m1, m2, m3, m4⟩, k1, k2, k3⟩ := hTa.1 _ (r8 (m := m) (i := i) (by have := h.n; omega))
  obtain ⟨f1, f2, f3⟩ := oT e4
  refine ⟨⟨by omega, by omega, ?_, ?_⟩, ?_, ?_, ?_⟩
  ·rw [e4]; omega
  ·rw [e4]; exact m4
  ·rw [f1, h.b]; exact k1
  ·rw [f2, h.f]; exact k2
  ·rw [f3]; exact k3
 ·rw [h.o]
  refine KF (b := (m.tasks.drop x.tasks.length).flatMap Tsk.outs) ?_
  rw [← List.flatMap_append, bA]
  exact hTa.2
theorem KG {x m : Img} (h : SameBut x m) {t t' : Tsk} (ht : t'.2.2 = t.2.2) (i : cY) : jw x t' i = jw m t i := by
 unfold jw
 rw [h.i, h.b, (oT ht).2.1]
theorem SameBut.task {n : Nat} {x m : Img} (h : SameBut x m) (hR : RightP m) {i : Nat} (hi : i < x.tasks.length) : fi n x (i : Int) = fi n m (i : Int) := by
 obtain ⟨e1, e2, e3, e4⟩ := h.t i hi
 have hn := h.n
 unfold fi
 rw [if_pos (h.right hR), if_pos hR, if_neg (show ¬ ((i : Int) < 0 ∨ (i : Int) ≥ (x.tasks.length : Int)) by omega), if_neg (show ¬ ((i : Int) < 0 ∨ (i : Int) ≥ (m.tasks.length : Int)) by omega)]
 show (if (eH bM n (dk x (i : Int)).code).2 ≠ 0 then (eH bM n (dk x (i : Int)).code).2 else if fp (dk x (i : Int)).code = (dk x (i : Int)).blocks then (if (dk x (i : Int)).code.all (jw x (dk x (i : Int))) = true then 0 else 12) else 11) = _
 obtain ⟨f1, f2, f3⟩ := oT e4
 rw [funext (KG h e4), f1, f3]
theorem SameBut.every {n : Nat} {x m : Img} (h : SameBut x m) (hz : (ei n m).2 = 0) : (ei n x).2 = 0 := by
 obtain ⟨hR, _, hz'⟩ := gB hz
 exact MS (h.right hR) fun i hi => by rw [h.task hR hi]; exact hz' i (by have := h.n; omega)
theorem SameBut.dead {x m : Img} (h : SameBut x m) (hd : pI m) : pI x := fun t ht => by
 obtain ⟨i, hi, rfl⟩ := E8 ht
 rw [(h.t i hi).2.2.2]
 exact hd _ (r8 (by have := h.n; omega))
theorem SameBut.locked {x m : Img} (h : SameBut x m) (hR : RightP m) {i : Nat} (hi : i < x.tasks.length) : iN 30000 x (i : Int) = iN 30000 m (i : Int) := by
 unfold iN
 rw [h.task hR hi, (oT (h.t i hi).2.2.2).2.2]
theorem SameBut.slots {x m : Img} (h : SameBut x m) (hR : RightP m) {i : Nat} (hi : i < x.tasks.length) : gA 30000 x (i : Int) = gA 30000 m (i : Int) := by
 unfold gA
 rw [h.task hR hi, (oT (h.t i hi).2.2.2).2.2, h.s, h.l, h.c]
theorem SameBut.uses {x m : Img} (h : SameBut x m) (hR : RightP m) : el x = (el m).take x.tasks.length := by
 unfold el
 rw [← List.map_take, List.take_range, co h.n.2]
 refine bu fun i hi => ?_
 have hi' : i < x.tasks.length := by simpa using hi
 unfold H6
 rw [h.locked hR hi', (h.t i hi').1, (h.t i hi').2.2.2]
theorem NT {l' l : List Row} (hl : l'.length ≤ l.length) (h : ∀ i, i < l'.length → RowLe (l'.getD i du) (l.getD i du)) : LessR l' l := by
 induction l' generalizing l with
 | nil => trivial
 | cons r' t' ih =>
  cases l with
  | nil => simp at hl
  | cons r t => exact ⟨h 0 (by simp), ih (by simpa using hl) fun i hi => by simpa using h (i + 1) (by simpa using hi)⟩
theorem SameBut.rows {x m : Img} (h : SameBut x m) (hz : (ei 30000 m).2 = 0) : LessR (et x) (et m) := by
 obtain ⟨hR, _, hz'⟩ := gB hz
 refine NT (by rw [h9, h9]; exact h.n.2) fun i hi => ?_
 rw [h9] at hi
 obtain ⟨e1, e2, e3, e4⟩ := h.t i hi
 have hi' : i < m.tasks.length := by have := h.n; omega
 rw [Cq x hi, Cq m hi']
 unfold x7
 refine ⟨?_, ?_, e2, ?_, ?_, e1⟩
 ·show (gA 30000 x (i : Int)).1 = (gA 30000 m (i : Int)).1
  rw [h.slots hR hi]
 ·show (fj (el x)).getD i 0 ≤ (fj (el m)).getD i 0
  rw [r9 (by rw [kJ]; exact hi), r9 (by rw [kJ]; exact hi'), h.uses hR]
  exact Ig _ hi
 ·show (dk x (i : Int)).2.2.1 = (dk m (i : Int)).2.2.1
  rw [e4]
 ·show (dk x (i : Int)).2.2.2.1 = (dk m (i : Int)).2.2.2.1
  rw [e4]
theorem SameBut.judge {x m : Img} (h : SameBut x m) (hd : pI m) (hm : (eC m).1 = 0) : (eC x).1 = 0 ∧ (eC x).2.2.2.1.length = x.tasks.length ∧ (eC m).2.2.2.1.length = m.tasks.length ∧ ∀ i, i < x.tasks.length → (eC x).2.2.2.1.getD i 0 ≤ (eC m).2.2.2.1.getD i 0 := by
 rcases p8 m hd with ⟨h1, h2⟩ | ⟨h1, j, hj, h2, h3⟩ | ⟨h1, h2, h3⟩
 ·rw [h2] at hm; exact absurd hm h1
 ·rw [h3] at hm; exact absurd hm (show ¬ ((13 : Int) = 0) by decide)
 ·have hx := h.every h1
  have hl := h.rows h1
  have less : ∀ i, i < x.tasks.length → (ep (et x) i).2 = 0 ∧ (ep (et x) i).1 ≤ (ep (et m) i).1 := fun i hi => by
   have hi' : i < m.tasks.length := by have := h.n; omega
   have hxl : i < (et x).length := by rw [h9]; exact hi
   have hml : i < (et m).length := by rw [h9]; exact hi'
   have hg := hl.get hxl
   exact Ic (mc h1) (mc hx) hml hxl (vb h1 hd _ (by rw [aq, au hml]; exact aU _)) hg.d hg.j (fun z z0 z1 => Ie hl (mc hx) (mc h1) hxl (by omega)) (h2 i hi')
  rcases p8 x (h.dead hd) with ⟨g1, g2⟩ | ⟨g1, j, hj, g2, g3⟩ | ⟨g1, g2, g3⟩
  ·exact absurd hx g1
  ·rw [(less j hj).1] at g2; exact absurd g2 (by decide)
  ·rw [g3, h3]
   refine ⟨rfl, by simp, by simp, fun i hi => ?_⟩
   show ((List.range x.tasks.length).map (fun j => (ep (et x) j).1)).getD i 0 ≤ ((List.range m.tasks.length).map (fun j => (ep (et m) j).1)).getD i 0
   rw [zQ _ _ hi, zQ _ _ (by have := h.n; omega)]
   exact (less i hi).2
def CT (a p : Int) : Int := if wrap .i64 (p + wrap .i64 a) < 1048576 then wrap .i64 (p + wrap .i64 a) else 1048576
def fq (a : Int) (t : Tsk) : Tsk := (t.1, CT a t.2.1, t.2.2)
theorem E9 {α : Type} (f : α → α) {l : List α} {i : Nat} {d : α} (h : i < l.length) : ((l.take i).map f ++ l.drop i).getD i d = l.getD i d ∧ ((l.take i).map f ++ l.drop i).set i (f (l.getD i d)) = (l.take (i + 1)).map f ++ l.drop (i + 1) := by
 have hl : ((l.take i).map f).length = i := by rw [aS, cn]; omega
 rw [dK (d := d) h]
 constructor
 ·rw [aq, bc (by omega), hl, aZ]
  rfl
 ·rw [List.set_append_right _ _ (by omega), hl, aZ, ← KE (d := d) h, cc, aM]
  rfl
theorem MT (n : Nat) (hn : n = 30000) (a : Int) (v : Vd) (m : Img) (h8 : m.tasks.length ≤ 80) : oN n (a, 0, v.1, v.2.1, v.2.2.1, v.2.2.2.1, v.2.2.2.2, m.1, m.2.1, m.2.2.1, m.2.2.2.1, m.2.2.2.2.1, m.2.2.2.2.2.1, [] ++ m.tasks) = some (v.1, v.2.1, v.2.2.1, v.2.2.2.1, v.2.2.2.2, m.1, m.2.1, m.2.2.1, m.2.2.2.1, m.2.2.2.2.1, m.2.2.2.2.2.1, m.tasks.map (fq a)) := by
 unfold oN
 refine d5 (S := fun F => (eS (dI q_)) (uP n F)) (fun f x r => ∃ i : Nat, x = (a, (i : Int), v.1, v.2.1, v.2.2.1, v.2.2.2.1, v.2.2.2.2, m.1, m.2.1, m.2.2.1, m.2.2.2.1, m.2.2.2.2.1, m.2.2.2.2.2.1, (m.tasks.take i).map (fq a) ++ m.tasks.drop i) ∧ i ≤ m.tasks.length ∧ m.tasks.length < f + i ∧ r = (v.1, v.2.1, v.2.2.1, v.2.2.2.1, v.2.2.2.2, m.1, m.2.1, m.2.2.1, m.2.2.2.1, m.2.2.2.2.1, m.2.2.2.2.2.1, m.tasks.map (fq a))) (fun x r ⟨i, _, h1, h2, _⟩ => by omega) (fun f x F hF r => ?_) n _ _ ⟨0, by simp, ao _, by omega, rfl⟩
 rintro ⟨i, rfl, h1, h2, rfl⟩
 show uP n F a (i : Int) v.1 v.2.1 v.2.2.1 v.2.2.2.1 v.2.2.2.2 m.1 m.2.1 m.2.2.1 m.2.2.2.1 m.2.2.2.2.1 m.2.2.2.2.2.1 ((m.tasks.take i).map (fq a) ++ m.tasks.drop i) = _
 unfold uP
 have hl : ((m.tasks.take i).map (fq a) ++ m.tasks.drop i).length = m.tasks.length := by rw [aK, aS, cn, b7]; omega
 rw [hl]
 rcases am i m.tasks.length with hlt | hge
 ·rw [if_pos (af (by omega)), if_pos (dc hlt), if_pos (dc hlt), ai, (E9 (fq a) hlt).1, di (by omega)]
  refine hF _ _ ⟨i + 1, ?_, by omega, by omega, rfl⟩
  rw [← (E9 (fq a) (d := (0, 0, 0, 0, [], [], [])) hlt).2]
  rfl
 ·have : i = m.tasks.length := by omega
  subst this
  rw [if_neg (by simp), List.take_length, aR, aW]
theorem Ih (n : Nat) (hn : n = 30000) (v w : Vd) (hl : w.2.2.2.1.length = v.2.2.2.1.length) (h8 : w.2.2.2.1.length ≤ 80) (h : ∀ i, i < w.2.2.2.1.length → w.2.2.2.1.getD i 0 ≤ v.2.2.2.1.getD i 0) :
  rT n (0, v.1, v.2.1, v.2.2.1, v.2.2.2.1, v.2.2.2.2, w.1, w.2.1, w.2.2.1, w.2.2.2.1, w.2.2.2.2) = some (.inr ((), ((v.1, v.2.1, v.2.2.1, v.2.2.2.1, v.2.2.2.2, ()), (w.1, w.2.1, w.2.2.1, w.2.2.2.1, w.2.2.2.2, ()), ()))) := by
 unfold rT
 refine d5 (S := fun F => (eS (C_ q_)) (uQ n F)) (fun f x r => ∃ i : Nat, x = ((i : Int), v.1, v.2.1, v.2.2.1, v.2.2.2.1, v.2.2.2.2, w.1, w.2.1, w.2.2.1, w.2.2.2.1, w.2.2.2.2) ∧ i ≤ w.2.2.2.1.length ∧ w.2.2.2.1.length < f + i ∧ r = .inr ((), ((v.1, v.2.1, v.2.2.1, v.2.2.2.1, v.2.2.2.2, ()), (w.1, w.2.1, w.2.2.1, w.2.2.2.1, w.2.2.2.2, ()), ()))) (fun x r ⟨i, _, h1, h2, _⟩ => by omega) (fun f x F hF r => ?_) n _ _ ⟨0, rfl, ao _, by omega, rfl⟩
 rintro ⟨i, rfl, h1, h2, rfl⟩
 show uQ n F (i : Int) v.1 v.2.1 v.2.2.1 v.2.2.2.1 v.2.2.2.2 w.1 w.2.1 w.2.2.1 w.2.2.2.1 w.2.2.2.2 = _
 unfold uQ
 rcases am i w.2.2.2.1.length with hlt | hge
 ·have := h i hlt
  rw [if_pos (af (by omega)), if_pos (dc hlt), if_pos (dc (by omega)), ai, if_neg (fun k => by have := aD k; omega), di (by omega)]
  exact hF _ _ ⟨i + 1, rfl, by omega, by omega, rfl⟩
 ·have : i = w.2.2.2.1.length := by omega
  subst this
  rw [if_neg (by simp)]
theorem MU {a p : Int} (ha : 0 ≤ a ∧ a ≤ 255) (hp : 1 ≤ p ∧ p ≤ 1048576) : p ≤ CT a p ∧ CT a p ≤ 1048576 := by
 unfold CT
 rw [dA (e := a) (by omega) (by omega), dA (e := p + a) (by omega) (by omega)]
 split <;> omega
theorem KH {m : Img} (hR : RightP m) {a : Int} (ha : 0 ≤ a ∧ a ≤ 255) : SameBut (m.1, m.2.1, m.2.2.1, m.2.2.2.1, m.2.2.2.2.1, m.2.2.2.2.2.1, m.tasks.map (fq a)) m := by
 have hl : (m.tasks.map (fq a)).length = m.tasks.length := aS _
 refine ⟨rfl, rfl, rfl, rfl, rfl, rfl, ?_, fun i hi => ?_, ?_⟩
 ·show 1 ≤ (m.tasks.map (fq a)).length ∧ (m.tasks.map (fq a)).length ≤ m.tasks.length
  have := hR.1.2.2.2.2.2.2
  omega
 ·have hi' : i < (m.tasks.map (fq a)).length := hi
  rw [hl] at hi'
  have e : dk (m.1, m.2.1, m.2.2.1, m.2.2.2.1, m.2.2.2.2.1, m.2.2.2.2.2.1, m.tasks.map (fq a)) (i : Int) = fq a (dk m (i : Int)) := by
   show (m.tasks.map (fq a)).getD (i : Int).toNat _ = fq a (m.tasks.getD (i : Int).toNat _)
   rw [ai, aq, aq, bq, au hi']
   rfl
  rw [e]
  have := MU ha (va hR (i := i) hi').1.2.1
  exact ⟨rfl, this.1, this.2, rfl⟩
 ·show (m.tasks.map (fq a)).flatMap Tsk.outs = (m.tasks.take (m.tasks.map (fq a)).length).flatMap Tsk.outs
  rw [hl, List.take_length, List.flatMap_map]
  rfl
theorem lH (a0 : (Int × (Int × (Int × (Int × ((List Int) × ((List (List Int)) × (List (Int × (Int × (Int × (Int × ((List Int) × ((List Int) × (List (Int × (Int × Int))))))))))))))))) (a1 : Int) (ok0 : Sh.Ok (.pair (.int .i64) (.pair (.int .i64) (.pair (.int .i64) (.pair (.int .i64) (.pair (.sl (.int .i64)) (.pair (.sl (.sl (.int .i64))) (.sl (.pair (.int .i64) (.pair (.int .i64) (.pair (.int .i64) (.pair (.int .i64) (.pair (.sl (.int .i64)) (.pair (.sl (.int .i64)) (.sl (.pair (.int .i64) (.pair (.int .i64) (.int .i64))))))))))))))))) a0) (ok1 : Sh.Ok (.int .u8) a1) (sm0 : Sh.Sm (.pair (.int .i64) (.pair (.int .i64) (.pair (.int .i64) (.pair (.int .i64) (.pair (.sl (.int .i64)) (.pair (.sl (.sl (.int .i64))) (.sl (.pair (.int .i64) (.pair (.int .i64) (.pair (.int .i64) (.pair (.int .i64) (.pair (.sl (.int .i64)) (.pair (.sl (.int .i64)) (.sl (.pair (.int .i64) (.pair (.int .i64) (.int .i64))))))))))))))))) a0) : ∃ n, HL n a0 a1 = some true := by
 refine ⟨30000, ?_⟩
 unfold HL
 rcases H9 30000 (by decide) (by decide) sm0 with h | ⟨h, hL, hD⟩
 ·rw [show rJ 30000 (a0.1, a0.2.1, a0.2.2.1, a0.2.2.2.1, a0.2.2.2.2.1, a0.2.2.2.2.2.1, a0.2.2.2.2.2.2) = some 0 from h, ae, if_pos (by decide), A4]
  rfl
 ·rw [show rJ 30000 (a0.1, a0.2.1, a0.2.2.1, a0.2.2.2.1, a0.2.2.2.2.1, a0.2.2.2.2.2.1, a0.2.2.2.2.2.2) = some 1 from h, ae, if_neg (by decide)]
  have h80 : a0.2.2.2.2.2.2.length ≤ 80 := by have := hL.1; show (Img.tasks a0).length ≤ 80; omega
  have ha : 0 ≤ a1 ∧ a1 ≤ 255 := by
   have h := ok1
   simp [Sh.Ok, Lit.wf, IntKind.bits, IntKind.signed, IntKind.min, IntKind.max] at h
   omega
  rw [show oI 30000 (a0.1, a0.2.1, a0.2.2.1, a0.2.2.2.1, a0.2.2.2.2.1, a0.2.2.2.2.2.1, a0.2.2.2.2.2.2) = _ from E7 30000 rfl a0 hD, ae, if_pos (by rw [af (by omega), af (by omega)]; rfl)]
  rw [show oN 30000 (a1, 0, (eC a0).1, (eC a0).2.1, (eC a0).2.2.1, (eC a0).2.2.2.1, (eC a0).2.2.2.2, a0.1, a0.2.1, a0.2.2.1, a0.2.2.2.1, a0.2.2.2.2.1, a0.2.2.2.2.2.1, [] ++ a0.2.2.2.2.2.2) = _ from MT 30000 rfl a1 (eC a0) a0 h80, ae]
  dsimp only
  by_cases h0 : (eC a0).1 ≠ 0
  ·rw [if_pos (aj.2 h0), A4]
   rfl
  ·rw [if_neg (fun k => h0 (aj.1 k))]
   have h0' := Decidable.not_not.1 h0
   have hz : (ei 30000 a0).2 = 0 := by
    rcases p8 a0 hD with ⟨g1, g2⟩ | ⟨g1, _⟩ | ⟨g1, _⟩
    ·rw [g2] at h0'; exact h0'
    ·exact g1
    ·exact g1
   have hB := KH (m := a0) (gB hz).1 ha
   obtain ⟨j1, j2, j3, j4⟩ := hB.judge hD h0'
   have j2' : (eC (a0.1, a0.2.1, a0.2.2.1, a0.2.2.2.1, a0.2.2.2.2.1, a0.2.2.2.2.2.1, a0.2.2.2.2.2.2.map (fq a1))).2.2.2.1.length = a0.2.2.2.2.2.2.length := j2.trans (aS _)
   have j3' : (eC a0).2.2.2.1.length = a0.2.2.2.2.2.2.length := j3
   rw [E7 30000 rfl (a0.1, a0.2.1, a0.2.2.1, a0.2.2.2.1, a0.2.2.2.2.1, a0.2.2.2.2.2.1, a0.2.2.2.2.2.2.map (fq a1)) (hB.dead hD), ae, if_neg (fun k => aj.1 k j1), if_neg (fun k => aj.1 k (by rw [j2', j3'])), Ih 30000 rfl (eC a0) (eC (a0.1, a0.2.1, a0.2.2.1, a0.2.2.2.1, a0.2.2.2.2.1, a0.2.2.2.2.2.1, a0.2.2.2.2.2.2.map (fq a1))) (by omega) (by omega) (fun i hi => j4 i (by show i < (a0.2.2.2.2.2.2.map (fq a1)).length; rw [aS]; omega)), ae, ce, A4]
   rfl
end Go.Proofs.Dk
